/-
  The symbolic evaluator, fourteenth part: calls under a contract, and one operation.
  The symbolic evaluator: slices of slices: rows whose own slices are named where they are read, and laid down where a slice of them is made.
  The symbolic evaluator: bytes az strings, and whether two strings are one.
  The symbolic evaluator: slices of slices that grow: a row's own slice is appended to, where there is room in its own place; it is laid back into the row, or under the key.
  The symbolic evaluator, fifteenth part: one operation under its guard; a list of operations.
  The symbolic evaluator: a region that draws its order and has effects.
  Conditions: none.
-/
import Derived.Test.YtmdnpfocihfkdaaDoorM2
import Derived.Laws.BytesString
import Derived.LaidEql
open Array renaming ext' → xq, getElem?_eq_none → vz, replicate → xw, setIfInBounds_comm → ug
open Bool renaming and_eq_true → zx, false_eq_true → xd, not_eq_true' → zl, or_eq_true → yr, or_false → ry
open List renaming all_eq_true → vg, append_nil → zk, getD_cons_zero → th, getD_eq_getElem?_getD → zz, getElem?_append_left → yf, getElem?_cons_zero → sf, getElem?_eq_getElem → zv, getElem_mem → xk, length_append → zw, length_map → zt, length_singleton → wt, mem_cons_of_mem → zg, not_mem_nil → ww
open Nat renaming add_assoc → rx, add_mul → zf, add_zero → xb, beq → zo, blt → xh, eq_of_beq_eq_true → zr, le_refl → zy, le_trans → yz, lt_irrefl → qz, lt_or_ge → xr, mul_comm → yx, mul_le_mul_right → zd, ne_of_beq_eq_false → xx, zero_mul → vp
open Option renaming getD_some → zb, map_some → yu
set_option linter.unusedVariables false
set_option linter.unusedSimpArgs false
set_option linter.unusedSectionVars false
namespace Go.Vx
open Go
variable {C : Nat → Codec}
inductive Tg where
 | fn (f : Nat)
 | inv (t : Nat) (name : String)
def tgSem (tg : Tg) (vals : Array Value) : Sem Next :=
 match tg with
 | .fn f => callFunc f vals
 | .inv t name => callMethod (.iface t (vals.getD 0 Go.undef)) name (vals.extract 1 vals.size)
def tgEq : Tg → Tg → Bool
 | .fn a, .fn b => zo a b
 | .inv t n, .inv u k => zo t u && decide (n = k)
 | _, _ => false
theorem tgEq_ok {a b : Tg} (h : tgEq a b = true) : a = b := by
 cases a <;> cases b <;> simp_all [tgEq]
def LocG (P : Program) (tg : Tg) (m : List (Ck C)) (args : List SV) (post : SV → List (Ck C) → Prop) : Prop :=
 ∀ w, MemOK (wrS m) w w m → ∃ f vals, (tgSem tg (SV.vas (ads m) args).toArray).run P w = .ok (.enter f vals) w ∧
   Calls P f vals w fun e w' => ∃ r m', e = .returned (r.va (ads m')) ∧ MemOK (wrS m) w w' m' ∧ Ext m m' ∧ post r m'
structure Alt (C : Nat → Codec) where
 Y : Type
 post : Y → Prop
 res : Y → SV
 out : Y → List (Ck C)
def Ends (l : List (Alt C)) (f : (A : Alt C) → A.Y → Prop) : Prop := ∃ A ∈ l, ∃ y : A.Y, A.post y ∧ f A y
theorem Ends.one {Y : Type} {post : Y → Prop} {res : Y → SV} {out : Y → List (Ck C)} {f : (A : Alt C) → A.Y → Prop} {r : List (Alt C)} (y : Y) (h : post y) (hf : f ⟨Y, post, res, out⟩ y) : Ends (⟨Y, post, res, out⟩ :: r) f :=
 ⟨_, List.mem_cons_self .., y, h, hf⟩
theorem Ends.next {A : Alt C} {r : List (Alt C)} {f : (A : Alt C) → A.Y → Prop} (h : Ends r f) : Ends (A :: r) f := by
 obtain ⟨B, hB, y, h⟩ := h
 exact ⟨B, zg _ hB, y, h⟩
abbrev Does (P : Program) (tg : Tg) (mem : List (Ck C)) (args : List SV) (alts : List (Alt C)) : Prop :=
 LocG P tg mem args fun r m' => Ends alts fun A y => r = A.res y ∧ m' = A.out y
abbrev Tells (P : Program) (tg : Tg) (mem : List (Ck C)) (args : List SV) (res : SV) : Prop :=
 LocG P tg mem args fun r m' => r = res ∧ m' = mem
structure Fc (P : Program) (C : Nat → Codec) where
 tg : Tg
 X : Type
 args : X → List SV
 mem : X → List (Ck C)
 pre : X → Prop
 alts : X → List (Alt C)
 mat : List SV → List (Ck C) → Option (X × List Nat)
 ok : ∀ x, pre x → LocG P tg (mem x) (args x) fun r m' => Ends (alts x) fun A y => r = A.res y ∧ m' = A.out y
structure Pc (P : Program) (C : Nat → Codec) where
 tg : Tg
 X : Type
 args : X → List SV
 mem : X → List (Ck C)
 pre : X → Prop
 res : X → SV
 mat : List SV → List (Ck C) → Option (X × List Nat)
 ok : ∀ x, pre x → LocG P tg (mem x) (args x) fun r m' => r = res x ∧ m' = mem x
def findFc {P : Program} (tg : Tg) (az : List SV) (m : List (Ck C)) : List (Fc P C) → Option (Sigma fun b : Fc P C => b.X × List Nat)
 | [] => none
 | b :: r => if tgEq b.tg tg then match b.mat az m with
     | some q => some ⟨b, q⟩
     | none => findFc tg az m r
   else findFc tg az m r
def findPc {P : Program} (tg : Tg) (az : List SV) (m : List (Ck C)) : List (Pc P C) → Option (Sigma fun b : Pc P C => b.X × List Nat)
 | [] => none
 | b :: r => if tgEq b.tg tg then match b.mat az m with
     | some q => some ⟨b, q⟩
     | none => findPc tg az m r
   else findPc tg az m r
theorem findFc_tg {P : Program} {tg : Tg} {az : List SV} {m : List (Ck C)} : ∀ {l : List (Fc P C)} {b : Fc P C} {q : b.X × List Nat}, findFc tg az m l = some ⟨b, q⟩ → b.tg = tg
 | [], _, _, h => by simp [findFc] at h
 | x :: r, b, q, h => by
   simp only [findFc] at h
   split at h
   · rename_i he
     split at h
     · simp only [Option.some.injEq, Sigma.mk.injEq] at h
       obtain ⟨rfl, _⟩ := h
       exact tgEq_ok he
     · exact findFc_tg h
   · exact findFc_tg h
theorem findPc_tg {P : Program} {tg : Tg} {az : List SV} {m : List (Ck C)} : ∀ {l : List (Pc P C)} {b : Pc P C} {q : b.X × List Nat}, findPc tg az m l = some ⟨b, q⟩ → b.tg = tg
 | [], _, _, h => by simp [findPc] at h
 | x :: r, b, q, h => by
   simp only [findPc] at h
   split at h
   · rename_i he
     split at h
     · simp only [Option.some.injEq, Sigma.mk.injEq] at h
       obtain ⟨rfl, _⟩ := h
       exact tgEq_ok he
     · exact findPc_tg h
   · exact findPc_tg h
def callTg (tm : Tm) (m : List (Ck C)) (al : List (Nat × Bool)) (c : Call) : Option (Tg × List SV) :=
 match c.callee with
 | .value f => match ev tm m al f, optAll (ev tm m al) c.args.toList with
   | some (.fn (.func g) first cap), some az => some (.fn g, first ++ az ++ cap)
   | _, _ => none
 | .invoke r name => match ev tm m al r, optAll (ev tm m al) c.args.toList with
   | some (.ifc t v), some az => some (.inv t name, v :: az)
   | _, _ => none
 | .builtin _ => none
theorem callTg_ok {P : Program} {n : Nat} {tm : Tm} {m : List (Ck C)} {a : Act} (h : ActOK (ads m) n tm a) (hg : GlOK m) {al : List (Nat × Bool)} (ha : AlOK tm al) {c : Call} {tg : Tg} {az : List SV}
 (hc : callTg tm m al c = some (tg, az)) {dst : Option Tmp} {ty : TypeId} {pos : String} {after : Array Edge} {g : Option (Nat × Bool)} (w : World) :
 (execOp a.eval ⟨dst, .call c, ty, pos, after, g⟩).run P w = (tgSem tg (SV.vas (ads m) az).toArray).run P w := by
 have hev := ev_ok h hg ha
 obtain ⟨callee, args, argTypes⟩ := c
 simp only [callTg] at hc
 split at hc
 · split at hc <;> try (first | contradiction | exact False.elim hc)
   rename_i f first cap az' hf has
   simp only [Option.some.injEq, Prod.mk.injEq] at hc
   obtain ⟨rfl, rfl⟩ := hc
   have e1 := hev _ _ hf
   have e2 := optAll_ok (g := SV.va (ads m)) hev has
   have e3 : args.map a.eval = (SV.vas (ads m) az').toArray := by apply xq; simp [SV.vas_eq, e2]
   simp [execOp, resolve, e1, e3, SV.va, Deferred.ofValue, invoke, tgSem, SV.vas_eq]
 · split at hc <;> try (first | contradiction | exact False.elim hc)
   rename_i t v az' hf has
   simp only [Option.some.injEq, Prod.mk.injEq] at hc
   obtain ⟨rfl, rfl⟩ := hc
   have e1 := hev _ _ hf
   have e2 := optAll_ok (g := SV.va (ads m)) hev has
   have e3 : args.map a.eval = (SV.vas (ads m) az').toArray := by apply xq; simp [SV.vas_eq, e2]
   simp [execOp, resolve, e1, e3, SV.va, invoke, tgSem, SV.vas]
 · cases hc
def wrLive : List (Ck C) → Bool
 | [] => true
 | c :: r => (!c.wr || c.alive) && (c.noOwn && wrLive r)
theorem wrLive_ok {m : List (Ck C)} (h : wrLive m = true) : ∀ c ∈ m, c.wr = true → c.alive = true := by
 induction m with
 | nil => intro c hc; cases hc
 | cons x r ih =>
   simp only [wrLive, zx, yr, zl] at h
   intro c hc hw
   rcases List.mem_cons.1 hc with rfl | hc
   · rcases h.1 with h | h
     · rw [hw] at h; cases h
     · exact h
   · exact ih h.2.2 c hc hw
theorem wrLive_own {m : List (Ck C)} (h : wrLive m = true) : ∀ c ∈ m, c.noOwn = true := by
 induction m with
 | nil => intro c hc; cases hc
 | cons x r ih =>
   simp only [wrLive, zx] at h
   intro c hc
   rcases List.mem_cons.1 hc with rfl | hc
   · exact h.2.1
   · exact ih h.2.2 c hc
def altsP (K : SV → List (Ck C) → Tr) (ρ : List Nat) (mem M : List (Ck C)) : List (Alt C) → Tr
 | [] => .yes
 | A :: r => .and (.all fun y => .imp (A.post y)
     (match memLt (A.out y).length (A.out y) && SV.lt (A.out y).length (A.res y) with
     | true => K ((A.res y).ren (ρ ++ upFrom M.length ((A.out y).length - mem.length)))
        (backU (ρ ++ upFrom M.length ((A.out y).length - mem.length)) ρ mem (A.out y) M ++ backN (ρ ++ upFrom M.length ((A.out y).length - mem.length)) mem (A.out y))
     | false => .no)) (altsP K ρ mem M r)
theorem altsP_ok {K : SV → List (Ck C) → Tr} {ρ : List Nat} {mem M : List (Ck C)} : ∀ {l : List (Alt C)}, (altsP K ρ mem M l).holds → ∀ A ∈ l, ∀ y : A.Y, A.post y →
 memLt (A.out y).length (A.out y) = true ∧ SV.lt (A.out y).length (A.res y) = true ∧ (K ((A.res y).ren (ρ ++ upFrom M.length ((A.out y).length - mem.length)))
       (backU (ρ ++ upFrom M.length ((A.out y).length - mem.length)) ρ mem (A.out y) M ++ backN (ρ ++ upFrom M.length ((A.out y).length - mem.length)) mem (A.out y))).holds
 | [], _, A, hA, _, _ => by cases hA
 | B :: r, h, A, hA, y, hy => by
   rcases List.mem_cons.1 hA with rfl | hA
   · have h1 := h.1 y hy
     split at h1 <;> try (first | contradiction | exact False.elim h1)
     rename_i hc
     simp only [zx] at hc
     exact ⟨hc.1, hc.2, h1⟩
   · exact altsP_ok h.2 A hA y hy
def callP {P : Program} (fcs : List (Fc P C)) (tm : Tm) (m : List (Ck C)) (al : List (Nat × Bool)) (c : Call) (K : SV → List (Ck C) → Tr) : Tr :=
 match callTg tm m al c with
 | none => .no
 | some (tg, az) => match findFc tg az m fcs with
   | none => .no
   | some ⟨b, x, ρ⟩ => match memLt m.length m && tmLt m.length tm && memLt (b.mem x).length (b.mem x) && SV.lts (b.mem x).length (b.args x) && wrLive (b.mem x) && SV.lts m.length az with
      | false => .no
      | true => withOffs m ρ (b.mem x) fun ρ M => match apartB ρ (b.mem x) with
        | false => .no
        | true => match eqvs m.length (SV.rens ρ (b.args x)) az, cksEq m.length ρ M ρ (b.mem x) with
          | some ps, some qs => conj ps (conj qs (.and (.lf (b.pre x)) (altsP K ρ (b.mem x) M (b.alts x))))
          | _, _ => .no
def noWr : List (Ck C) → Bool
 | [] => true
 | c :: r => !c.wr && noWr r
def callQ1 {P : Program} (N : Nat) (b : Pc P C) (x : b.X) (az : List SV) (ρ : List Nat) (M : List (Ck C)) : Ans :=
 match SV.lt N ((b.res x).ren ρ) with
 | false => none
 | true => match eqvs N (SV.rens ρ (b.args x)) az, cksEq N ρ M ρ (b.mem x) with
   | some ps, some qs => some (ps ++ qs ++ [b.pre x], (b.res x).ren ρ)
   | _, _ => none
def callQ {P : Program} (pcs : List (Pc P C)) (tm : Tm) (m : List (Ck C)) (al : List (Nat × Bool)) (o : Op) : Ans :=
 match o with
 | .call c => match callTg tm m al c with
   | none => none
   | some (tg, az) => match findPc tg az m pcs with
     | none => none
     | some ⟨b, x, ρ⟩ => match memLt m.length m && memLt (b.mem x).length (b.mem x) && SV.lts (b.mem x).length (b.args x) && SV.lt (b.mem x).length (b.res x) && noWr (b.mem x) && SV.lts m.length az with
        | false => none
        | true => match allLt m.length ρ with
          | true => callQ1 m.length b x az ρ m
          | false => callQ1 m.length b x az (fixR m.length m.length ρ) (m ++ offs m.length ρ (b.mem x))
 | _ => none
theorem noWr_ok {m : List (Ck C)} (h : noWr m = true) : ∀ c ∈ m, c.wr = false := by
 induction m with
 | nil => intro c hc; cases hc
 | cons x r ih =>
   simp only [noWr, zx, zl] at h
   intro c hc
   rcases List.mem_cons.1 hc with rfl | hc
   · exact h.1
   · exact ih h.2 c hc
theorem vas_rens {n : Nat} {ρ : List Nat} {ad ad' : Nat → Ad} (h : ∀ c, c < n → ad c = ad' (rn ρ c)) {N : Nat} (hN : ∀ c, N ≤ c → (ad' c).on = false) {vs az : List SV} (hl : SV.lts n vs = true) {ps : List Prop} (he : eqvs N (SV.rens ρ vs) az = some ps) (hp : allOf ps) :
 SV.vas ad vs = SV.vas ad' az := by
 rw [SV.vas_ren h vs hl, eqvs_ok hN _ _ ps he hp]
def OpTo (P : Program) (S : Sx) (w0 : World) (n : Nat) (tm : Tm) (m : List (Ck C)) (o : Oper) (a : Act) (w : World) (K : SV → List (Ck C) → Tr) : Prop :=
 ∀ (next : Act → World → Prop) (Q : Exit → Act → World → Prop),
   (∀ r m' w' v, K r m' → MemOK S w0 w' m' → ActOK (ads m') n tm a → v = r.va (ads m') → (m.length ≤ m'.length ∧ ∀ k, k < m.length → ads m k = ads m' k) → next (a.put o.dst v) w') → o.wp P a w next Q
theorem callP_ok {P : Program} {S : Sx} {w0 w : World} {n : Nat} {tm : Tm} {m : List (Ck C)} {a : Act} (h : ActOK (ads m) n tm a) (hm : MemOK S w0 w m) {al : List (Nat × Bool)} (ha : AlOK tm al)
 {fcs : List (Fc P C)} {c : Call} {dst : Option Tmp} {ty : TypeId} {pos : String} {after : Array Edge} {g : Option (Nat × Bool)} {K : SV → List (Ck C) → Tr} (hK : callP fcs tm m al c K) :
 OpTo P S w0 n tm m ⟨dst, .call c, ty, pos, after, g⟩ a w K := by
 unfold callP at hK
 split at hK <;> try (first | contradiction | exact False.elim hK)
 rename_i tg az htg
 split at hK <;> try (first | contradiction | exact False.elim hK)
 rename_i b x ρ hb
 split at hK <;> try (first | contradiction | exact False.elim hK)
 rename_i hc
 simp only [zx] at hc
 obtain ⟨⟨⟨⟨⟨c1, c2⟩, c3⟩, c4⟩, c6⟩, c7⟩ := hc
 obtain ⟨ρ, o, hK, ho, hlM, _⟩ := withOffs_ok hK c1
 obtain ⟨M, hMe⟩ : ∃ M, M = m ++ o := ⟨_, rfl⟩
 have hmM := hm.withO c1 ho
 obtain ⟨hadsP, hN⟩ := ads_offs (m := m) (o := o) (fun x hx => (ho x hx).1)
 rw [← hMe] at hK hlM hmM hadsP hN
 split at hK <;> try (first | contradiction | exact False.elim hK)
 rename_i c5
 split at hK <;> try (first | contradiction | exact False.elim hK)
 rename_i ps qs hps hqs
 obtain ⟨hps', hK⟩ := (conj_iff _ _).1 hK
 obtain ⟨hqs', hK⟩ := (conj_iff _ _).1 hK
 obtain ⟨hpre, hK⟩ := hK
 obtain ⟨hlen, hk⟩ := cksEq_ok hqs hqs'
 have hk' : ∀ k, k < (b.mem x).length → rn ρ k < M.length ∧ CkEq m.length ρ (nth (b.mem x) k) (nth M (rn ρ k)) := fun k hkl => by
  obtain ⟨h1, qs, h2, h3⟩ := hk k hkl
  exact ⟨h1, ckEq_ok h2 h3⟩
 have hap := apartB_ok c5 hlen
 obtain ⟨hent, hads⟩ := hmM.enter hN c3 hk' hap (wrLive_own c6)
 have hvals := vas_rens hads hN c4 hps hps'
 have hasl : SV.vas (ads M) az = SV.vas (ads m) az := SV.vas_congr (fun c hc => (hadsP c hc).symm) az c7
 rw [hasl] at hvals
 have hex := callTg_ok (P := P) h hm.glob ha htg (dst := dst) (ty := ty) (pos := pos) (after := after) (g := g) w
 obtain ⟨f, vals, hrun, hcalls⟩ := b.ok x hpre w hent
 rw [findFc_tg hb, hvals] at hrun
 intro next Q hnext
 unfold Oper.wp
 rw [hex, hrun]
 simp only [Oper.upon]
 refine hcalls.mono ?_
 rintro e w' ⟨r, m', he, hm', hext, A, hA, y, hy, rfl, rfl⟩
 subst he
 simp only
 obtain ⟨hol1, hol2, hKy⟩ := altsP_ok hK A hA y hy
 have hol := And.intro hol1 hol2
 obtain ⟨hback, hadsO, hadsM, hlenM⟩ := hmM.back hlM hlen hk' hap (wrLive_ok c6) hm' hext hol.1
 have hmM' : m.length ≤ M.length := by rw [hMe]; simp
 have hall : ∀ k, k < m.length → ads m k = ads (backU (ρ ++ upFrom M.length ((A.out y).length - (b.mem x).length)) ρ (b.mem x) (A.out y) M ++ backN (ρ ++ upFrom M.length ((A.out y).length - (b.mem x).length)) (b.mem x) (A.out y)) k :=
  fun k hkl => (hadsP k hkl).trans (hadsM k (by omega))
 exact hnext _ _ w' _ hKy hback (h.ads hall c2) (SV.va_ren hadsO _ hol.2) ⟨by omega, hall⟩
theorem callQ_ok {P : Program} {S : Sx} {w0 w : World} {n : Nat} {tm : Tm} {m : List (Ck C)} {a : Act} (h : ActOK (ads m) n tm a) (hm : MemOK S w0 w m) {al : List (Nat × Bool)} (ha : AlOK tm al)
 {pcs : List (Pc P C)} {o : Oper} {ps : List Prop} {r : SV} (hK : callQ pcs tm m al o.op = some (ps, r)) (hp : allOf ps) :
 ∃ f vals, (execOp a.eval o).run P w = .ok (.enter f vals) w ∧ Calls P f vals w fun e w' => e = .returned (r.va (ads m)) ∧ MemOK S w0 w' m := by
 obtain ⟨dst, op, ty, pos, after, g⟩ := o
 simp only at hK
 cases op <;> simp only [callQ] at hK <;> try contradiction
 rename_i c
 split at hK <;> try (first | contradiction | exact False.elim hK)
 rename_i tg az htg
 split at hK <;> try (first | contradiction | exact False.elim hK)
 rename_i b x ρ hb
 split at hK <;> try (first | contradiction | exact False.elim hK)
 rename_i hc
 simp only [zx] at hc
 obtain ⟨⟨⟨⟨⟨c1, c2⟩, c3⟩, c4⟩, c5⟩, c7⟩ := hc
 have key : ∃ ρ o, callQ1 m.length b x az ρ (m ++ o) = some (ps, r) ∧ (∀ x ∈ o, x.on = false ∧ (∀ t y, ¬ x.cells.Has t y) ∧ ∀ n, x.lt n = true) := by
  split at hK
  · exact ⟨ρ, [], by rw [zk]; exact hK, fun x hx => by simp at hx⟩
  · exact ⟨_, _, hK, offs_off _ _ _⟩
 clear hK
 obtain ⟨ρ, o, hK, ho⟩ := key
 obtain ⟨hmM, hlM⟩ := hm.offs c1 ho
 obtain ⟨hadsP, hN⟩ := ads_offs (m := m) (o := o) (fun x hx => (ho x hx).1)
 obtain ⟨M, hMe⟩ : ∃ M, M = m ++ o := ⟨_, rfl⟩
 rw [← hMe] at hK hlM hmM hadsP hN
 unfold callQ1 at hK
 split at hK <;> try (first | contradiction | exact False.elim hK)
 rename_i hresl
 split at hK <;> try (first | contradiction | exact False.elim hK)
 rename_i ps' qs hps hqs
 simp only [Option.some.injEq, Prod.mk.injEq] at hK
 obtain ⟨rfl, rfl⟩ := hK
 obtain ⟨hpq, hpre⟩ := (allOf_append _ _).1 hp
 obtain ⟨hps', hqs'⟩ := (allOf_append _ _).1 hpq
 simp only [allOf, and_true] at hpre
 obtain ⟨hlen, hk⟩ := cksEq_ok hqs hqs'
 have hk' : ∀ k, k < (b.mem x).length → rn ρ k < M.length ∧ CkEq m.length ρ (nth (b.mem x) k) (nth M (rn ρ k)) := fun k hkl => by
  obtain ⟨h1, qs, h2, h3⟩ := hk k hkl
  exact ⟨h1, ckEq_ok h2 h3⟩
 have hnw := noWr_ok c5
 have hap : ∀ i j, i < (b.mem x).length → j < (b.mem x).length → i ≠ j → (nth (b.mem x) i).wr = true → rn ρ i ≠ rn ρ j := by
  intro i j hi _ _ hw
  rw [hnw _ (nth_mem hi)] at hw; cases hw
 obtain ⟨hent, hads⟩ := hmM.enter hN c2 hk' hap fun c hc => Ck.noOwn_ro (hnw c hc)
 have hvals := vas_rens hads hN c3 hps hps'
 have hasl : SV.vas (ads M) az = SV.vas (ads m) az := SV.vas_congr (fun c hc => (hadsP c hc).symm) az c7
 rw [hasl] at hvals
 have hex := callTg_ok (P := P) h hm.glob ha htg (dst := dst) (ty := ty) (pos := pos) (after := after) (g := g) w
 obtain ⟨f, vals, hrun, hcalls⟩ := b.ok x hpre w hent
 rw [findPc_tg hb, hvals] at hrun
 refine ⟨f, vals, by rw [hex, hrun], hcalls.mono ?_⟩
 rintro e w' ⟨r, m', he, hm', hext, rfl, rfl⟩
 subst he
 obtain ⟨hback, _, _, _⟩ := hmM.back hlM hlen hk' hap (fun c hc hw => by rw [hnw c hc] at hw; cases hw) hm' hext c2
 have hU : ∀ (ρ' : List Nat) (r : List Nat) (s out M : List (Ck C)), (∀ c ∈ s, c.wr = false) → backU ρ' r s out M = M := by
  intro ρ' r
  induction r with
  | nil => intro s out M _; cases s <;> cases out <;> rfl
  | cons p r ih =>
    intro s out M hs
    cases s with
    | nil => cases out <;> rfl
    | cons a s =>
      cases out with
      | nil => rfl
      | cons o out =>
        simp only [backU, hs a (by simp)]
        exact ih s out M (fun c hc => hs c (by simp [hc]))
 have hN' : ∀ (ρ' : List Nat) (s : List (Ck C)), backN ρ' s s = [] := by
  intro ρ' s
  induction s with
  | nil => rfl
  | cons a s ih => exact ih
 rw [hU _ _ _ _ _ hnw, hN', zk] at hback
 refine ⟨?_, ?_⟩
 · rw [SV.va_ren hads _ c4, SV.va_congr (fun c hc => (hadsP c hc).symm) _ hresl]
 · rw [hMe] at hback
   exact MemOK.dropO c1 hback
end Go.Vx
namespace Go.Vx
open Go
structure Rw (α : Type) where
 on : Bool
 b : Nat
 base : Nat
 m : Nat
 l : List α
def Rw.nil {α : Type} : Rw α := ⟨false, 0, 0, 0, []⟩
def Rw.val {α : Type} (r : Rw α) : Value := match r.on with
 | false => .slice none 0 0
 | true => .slice (some ⟨r.b, r.base, none⟩) r.l.length r.m
def Rw.blks {α : Type} (r : Rw α) : List Nat := match r.on with
 | false => []
 | true => [r.b]
def Rw.ok (c : Codec) (w : World) (r : Rw c.α) : Prop := match r.on with
 | false => r.l = [] ∧ r.m = 0
 | true => ∀ i, i < r.l.length → ∀ f, f < c.sz → w.cell? ⟨r.b, r.base + (i * c.sz + f), none⟩ = some (((c.enc (r.l.getD i c.dflt)).getD f .junk).va noAd)
theorem Rw.ok_keep (c : Codec) (w w' : World) (r : Rw c.α) (hb : ∀ b ∈ r.blks, w'.heap[b]? = w.heap[b]?) (h : Rw.ok c w r) : Rw.ok c w' r := by
 unfold Rw.ok at *
 split
 · rename_i he; simp only [he] at h; exact h
 · rename_i he
   simp only [he] at h
   intro i hi f hf
   rw [World.cell?_of_block (w := w) (a := ⟨r.b, r.base + (i * c.sz + f), none⟩) (hb r.b (by simp [Rw.blks, he]))]
   exact h i hi f hf
def Rw.sv {α : Type} (r : Rw α) : SV := match r.on with
 | false => .nils
 | true => .val (.slice (some ⟨r.b, r.base, none⟩) r.l.length r.m)
theorem Rw.sv_va {α : Type} (r : Rw α) (ad : Nat → Ad) : r.sv.va ad = r.val := by
 unfold Rw.sv Rw.val
 split <;> simp [SV.va]
abbrev rwCodec (c : Codec) : Codec where
 α := Rw c.α
 dflt := Rw.nil
 sz := 1
 enc x := [x.sv]
 upd _ _ _ := none
 len _ := rfl
 cell x v hv := by
  rw [List.mem_singleton.1 hv]
  unfold Rw.sv
  split <;> rfl
 flat x ad ad' := by simp [Rw.sv_va]
 upd_ok _ _ _ _ _ h := by cases h
 deep := true
 blks := Rw.blks
 good := Rw.ok c
 good_keep w w' x := Rw.ok_keep c w w' x
 flat_deep h := by cases h
 upd_deep _ _ _ _ := rfl
 whole_deep _ _ := rfl
 dflt_deep := ⟨rfl, fun _ => ⟨rfl, rfl⟩⟩
def Gw.ok (c : Codec) (w : World) (r : Rw c.α) : Prop := Rw.ok c w r ∧ (r.on = true → r.l.length ≤ r.m ∧ (∀ j, j < r.m * c.sz → (w.cell? ⟨r.b, r.base + j, none⟩).isSome = true) ∧ ∀ a : Addr, a.block = r.b → w.frozen? a = false)
theorem Gw.ok_keep (c : Codec) (w w' : World) (r : Rw c.α) (hb : ∀ b ∈ r.blks, w'.heap[b]? = w.heap[b]?) (h : Gw.ok c w r) : Gw.ok c w' r := by
 refine ⟨Rw.ok_keep c w w' r hb h.1, fun hon => ?_⟩
 obtain ⟨h1, h2, h3⟩ := h.2 hon
 have hb' := hb r.b (by simp [Rw.blks, hon])
 refine ⟨h1, fun j hj => ?_, fun a ha => ?_⟩
 · rw [World.cell?_of_block (w := w) (a := ⟨r.b, r.base + j, none⟩) hb']; exact h2 j hj
 · rw [World.frozen?_of_block (w := w) (by rw [ha]; exact hb')]; exact h3 a ha
abbrev gwCodec (c : Codec) : Codec where
 α := Rw c.α
 dflt := Rw.nil
 sz := 1
 enc x := [.val x.val]
 upd _ _ _ := none
 len _ := rfl
 cell x v hv := by
  rw [List.mem_singleton.1 hv]
  unfold Rw.val
  split <;> rfl
 flat x ad ad' := rfl
 upd_ok _ _ _ _ _ h := by cases h
 deep := true
 own := true
 blks := Rw.blks
 good := Gw.ok c
 good_keep w w' x := Gw.ok_keep c w w' x
 flat_deep h := by cases h
 upd_deep _ _ _ _ := rfl
 whole_deep _ _ := rfl
 dflt_deep := ⟨rfl, fun _ => ⟨⟨rfl, rfl⟩, fun h => by cases h⟩⟩
structure GroOK (C : Nat → Codec) (te t : Nat) (get : (C te).α → Rw (C t).α) (put : Rw (C t).α → (C te).α) : Prop where
 gp : ∀ r, get (put r) = r
 sz : (C te).sz = 1
 enc : ∀ r, (C te).enc (put r) = [.val r.val]
 agg : (C te).agg = false
 own : (C te).own = true
 blks : ∀ r, (C te).blks (put r) = r.blks
 good : ∀ w r, Gw.ok (C t) w r → (C te).good w (put r)
 ungood : ∀ w r, (C te).good w (put r) → Gw.ok (C t) w r
structure Fam (C : Nat → Codec) where
 te : Nat
 off : Nat
 t : Nat
 get : (C te).α → Rw (C t).α
 enc : ∀ x, (((C te).enc x).getD off .junk).va noAd = (get x).val
 good : ∀ w x, (C te).good w x → Rw.ok (C t) w (get x)
 blk : ∀ x, ∀ b ∈ (get x).blks, b ∈ (C te).blks x
 flat : (C t).deep = false
 hoff : off < (C te).sz
 put : Option (Rw (C t).α → (C te).α) := none
 gro : ∀ p, put = some p → GroOK C te t get p := by intro p h; cases h
structure FamW (C : Nat → Codec) where
 te : Nat
 t : Nat
 put : Rw (C t).α → (C te).α
 sz : (C te).sz = 1
 enc : ∀ r, (((C te).enc (put r)).getD 0 .junk).va noAd = r.val
 blks : ∀ r, (C te).blks (put r) = r.blks
 good : ∀ w r, Rw.ok (C t) w r → (C te).good w (put r)
variable {C : Nat → Codec}
def findFam (te f : Nat) : List (Fam C) → Option { F : Fam C // F.te = te ∧ F.off = f }
 | [] => none
 | F :: r => if h : F.te = te ∧ F.off = f then some ⟨F, h⟩ else findFam te f r
def findFamW (te : Nat) : List (FamW C) → Option { F : FamW C // F.te = te }
 | [] => none
 | F :: r => if h : F.te = te then some ⟨F, h⟩ else findFamW te r
structure FamHit (C : Nat → Codec) where
 F : Fam C
 c : Nat
 asks : List Prop
 x : (C F.te).α
def famOf (P : Program) (fams : List (Fam C)) (tm : Tm) (m : List (Ck C)) (al : List (Nat × Bool)) (o : Op) : Option (FamHit C) :=
 match fams with
 | [] => none
 | _ :: _ => match o with
   | .load t a => match ev tm m al a with
     | some (.ptr c i f) => match (nth m c).cells with
       | .rows te l => match findFam te f fams with
         | some ⟨F, h⟩ => match aggTy P t with
           | some false => some ⟨F, c, (nth m c).there ++ [i < (castL h.1.symm l).length], (castL h.1.symm l).getD i (C F.te).dflt⟩
           | _ => none
         | none => none
       | _ => none
     | _ => none
   | .lookup t x k false => match P.underlying t, ev tm m al x, ev tm m al k with
     | some (.map kt vt), some (.mp c), some kv => match (nth m c).sure with
       | .mp tk tv l _ => match zo kt tk && zo vt tv, decV (C tk) kv, findFam tv 0 fams with
         | true, some q, some ⟨F, h⟩ => match (C F.te).agg, zo (C F.te).sz 1 with
           | false, true => some ⟨F, c, [KeyOK P tk (C tk), ZeroIs P tv (C tv)], h.1 ▸ mget (C tk) (C tv) l q⟩
           | _, _ => none
         | _, _, _ => none
       | _ => none
     | _, _, _ => none
   | _ => none
def famT (h : FamHit C) (tm : Tm) (m : List (Ck C)) (K : SV → List (Ck C) → Tr) : Tr :=
 match memLt m.length m && tmLt m.length tm with
 | false => .no
 | true => match h with
   | ⟨F, _, asks, x⟩ => conj asks (.all fun r : Rw (C F.t).α => .imp (F.get x = r)
     (K (.sl m.length 0 r.l.length r.m) (m ++ [⟨r.b, r.base, (C F.t).sz, false, some r.on, .rows F.t r.l⟩])))
theorem MemOK.ghostB {S : Sx} {w0 w : World} {m : List (Ck C)} (h : MemOK S w0 w m) (hl : memLt m.length m = true) {t : Nat} (ht : (C t).deep = false) {r : Rw (C t).α} (hr : Rw.ok (C t) w r) (hon : r.on = true) {o : Bool} (hB : Blk S w0 w m o r.b) (g : Option Bool) :
 MemOK S w0 w (m ++ [⟨r.b, r.base, (C t).sz, false, g, .rows t r.l⟩]) := by
 unfold Rw.ok at hr
 simp only [hon] at hr
 have hin : ∀ y, y ∈ m ++ [(⟨r.b, r.base, (C t).sz, false, g, .rows t r.l⟩ : Ck C)] → y ∈ m ∨ y = ⟨r.b, r.base, (C t).sz, false, g, .rows t r.l⟩ := by intro y hy; simpa using hy
 refine ⟨h.os, h.tape, h.output, h.size, h.keep, ?_, ?_, ?_, ?_, ?_, ?_⟩
 · intro y hy hw ho hb
   rcases hin y hy with hy | rfl
   · exact h.inS y hy hw ho hb
   · cases hw
 · intro y hy ho
   rcases hin y hy with hy | rfl
   · exact Ck.ok_ads (ads_append m _) (memLt_mem hl hy) (h.ok y hy ho)
   · refine ⟨rfl, fun i hi f hf => ?_⟩
     rw [enc_flat (C t) _ noAd _ f hf]
     exact hr i hi f hf
 · intro y hy hw hlv a hab
   rcases hin y hy with hy | rfl
   · exact h.wrok y hy hw hlv a hab
   · cases hw
 · intro p q hp hq hpq hw hlp hlq
   simp only [zw, wt] at hp hq
   rw [nth_append] at hw hlp ⊢
   rw [nth_append] at hlq ⊢
   by_cases h1 : p < m.length
   · rw [if_pos h1] at hw hlp ⊢
     by_cases h2 : q < m.length
     · rw [if_pos h2] at hlq ⊢
       exact h.apart p q h1 h2 hpq hw hlp hlq
     · rw [if_neg h2, if_pos (by omega)]
       exact hB.no _ (nth_mem h1) hw hlp
   · rw [if_neg h1, if_pos (by omega)] at hw
     cases hw
 · intro y hy ho
   rcases hin y hy with hy | rfl
   · exact h.lt y hy ho
   · exact hB.lt
 · refine ⟨h.more.gv, h.more.gp, fun p hp => ?_, h.more.nod, fun y hy t' z hz => ?_⟩
   · obtain ⟨h1, h2, h3⟩ := h.more.pin p hp
     refine ⟨h1, h2, fun y hy hlv => ?_⟩
     rcases hin y hy with hy | rfl
     · exact h3 y hy hlv
     · exact (hB.pin p hp).symm
   · rcases hin y hy with hy | rfl
     · obtain ⟨k1, k2⟩ := h.more.deep y hy t' z hz
       refine ⟨k1, fun b' hb' => ⟨(k2 b' hb').lt, (k2 b' hb').old, fun c' hc' hw' hl' => ?_, (k2 b' hb').pin⟩⟩
       rcases hin c' hc' with hc' | rfl
       · exact (k2 b' hb').no c' hc' hw' hl'
       · cases hw'
     · obtain ⟨rfl, _⟩ := Cells.Has.inv hz
       obtain ⟨f1, f2⟩ := (C t).flat_deep ht z
       exact ⟨f2 w, fun b' hb' => by rw [f1] at hb'; cases hb'⟩
theorem MemOK.ghost {S : Sx} {w0 w : World} {m : List (Ck C)} (h : MemOK S w0 w m) (hl : memLt m.length m = true) (F : Fam C) {x : (C F.te).α} (hx : (∃ c ∈ m, c.cells.Has F.te x) ∨ x = (C F.te).dflt) {r : Rw (C F.t).α}
 (hr : F.get x = r) : MemOK S w0 w (m ++ [⟨r.b, r.base, (C F.t).sz, false, some r.on, .rows F.t r.l⟩]) ∧ (r.on = false → r.l = [] ∧ r.m = 0) := by
 have hg : (C F.te).good w x ∧ ∀ b ∈ (C F.te).blks x, Blk S w0 w m false b := by
  rcases hx with ⟨c, hc, hx⟩ | rfl
  · obtain ⟨g1, g2⟩ := h.more.deep c hc F.te x hx
    exact ⟨g1, fun b hb => (g2 b hb).weak (fun e => by cases e)⟩
  · obtain ⟨g1, g2⟩ := (C F.te).dflt_deep
    exact ⟨g2 w, fun b hb => by rw [g1] at hb; cases hb⟩
 obtain ⟨g1, g2⟩ := hg
 have hok := F.good w x g1
 rw [hr] at hok
 have hbk0 := F.blk x
 rw [hr] at hbk0
 cases hon : r.on with
 | false =>
   have hok' := hok
   unfold Rw.ok at hok'
   simp only [hon] at hok'
   exact ⟨h.off hl rfl (CsIn.rows (RowsOf.flat F.flat r.l)), fun _ => hok'⟩
 | true =>
   refine ⟨?_, fun h => by cases h⟩
   exact h.ghostB hl F.flat hok hon (g2 r.b (hbk0 r.b (by simp [Rw.blks, hon]))) _
theorem ghost_val {t : Nat} (r : Rw (C t).α) (m : List (Ck C)) (hr : r.on = false → r.l = [] ∧ r.m = 0) :
 r.val = (SV.sl m.length 0 r.l.length r.m).va (ads (m ++ [(⟨r.b, r.base, (C t).sz, false, some r.on, .rows t r.l⟩ : Ck C)])) := by
 have had : ads (m ++ [(⟨r.b, r.base, (C t).sz, false, some r.on, .rows t r.l⟩ : Ck C)]) m.length = ⟨r.b, r.base, (C t).sz, r.on⟩ := ads_append_new _ _
 simp only [SV.va, had, Rw.val, Ad.at, vp, xb]
 cases hon' : r.on with
 | false => obtain ⟨e1, e2⟩ := hr hon'; simp [e1, e2]
 | true => rfl
theorem packV_get (F : Fam C) (h0 : F.off = 0) (ha : (C F.te).agg = false) (hs : (C F.te).sz = 1) (x : (C F.te).α) : packV (C F.te) x = (F.get x).val := by
 have := F.enc x
 rw [h0] at this
 rw [← this]
 unfold packV
 rw [ha]
 have hl := (C F.te).len x
 rw [hs] at hl
 simp only [zz]
 rw [zv (by omega)]; rfl
theorem famOf_run {P : Program} {n : Nat} {fams : List (Fam C)} {tm : Tm} {m : List (Ck C)} {a : Act} (h : ActOK (ads m) n tm a) (hg : GlOK m) {al : List (Nat × Bool)} (ha : AlOK tm al) {o : Oper} {ht : FamHit C}
 (hf : famOf P fams tm m al o.op = some ht) (hp : allOf ht.asks) : ht.c < m.length ∧ (nth m ht.c).on = true ∧ ((nth m ht.c).cells.Has ht.F.te ht.x ∨ ht.x = (C ht.F.te).dflt) ∧
   ∀ w, Ck.ok (ads m) w (nth m ht.c) → (execOp a.eval o).run P w = .ok (.value (ht.F.get ht.x).val) w := by
 obtain ⟨dst, op, ty, pos, after, g⟩ := o
 unfold famOf at hf
 simp only at hf
 split at hf <;> try contradiction
 split at hf <;> try contradiction
 · rename_i t x
   split at hf <;> try contradiction
   rename_i c i f he
   split at hf <;> try contradiction
   rename_i te l hcl
   split at hf <;> try contradiction
   rename_i F hF _
   split at hf <;> try contradiction
   rename_i hag
   simp only [Option.some.injEq] at hf
   subst hf
   obtain ⟨rfl, rfl⟩ := hF
   have hcast : castL rfl l = l := rfl
   simp only [hcast] at hp ⊢
   obtain ⟨hth, hp⟩ := (allOf_append _ _).1 hp
   have hon := Ck.there_ok hth
   have hi : i < l.length := hp.1
   have h1 := ev_ok h hg ha _ _ he
   refine ⟨lt_of_alive (show (nth m c).alive = true by simp [Ck.alive, hcl]), hon, .inl (.of_rows hcl ?_), fun w hok => ?_⟩
   · rw [zz, zv hi]; exact xk hi
   simp only [Ck.ok, hcl] at hok
   have hcell := hok.2 i hi F.off F.hoff
   rw [enc_flat (C F.te) _ noAd _ F.off F.hoff, F.enc] at hcell
   generalize (F.get (l.getD i (C F.te).dflt)).val = rv at hcell ⊢
   have h2 := run_loadVar (P := P) (w := w) (a := (ads m c).at i F.off) hag (vs := [rv]) 0 (fun h => by cases h) (fun _ => by simp) (fun j u hj _ h2 => by
    have : j = 0 := by simp at h2; omega
    subst this
    simp only [sf, Option.some.injEq] at hj
    subst hj
    simpa [Addr.add, ads] using hcell)
   simp only [th] at h2
   simp [execOp, Instr.loadAt, h1, SV.va, Instr.sureAddr, h2]
 · rename_i t x k
   split at hf <;> try contradiction
   rename_i kt vt c kv hu hx hk
   split at hf <;> try contradiction
   rename_i tk tv l clk hc
   split at hf <;> try contradiction
   rename_i q F hF hb hq _
   split at hf <;> try contradiction
   rename_i hagg hsz
   simp only [Option.some.injEq] at hf
   subst hf
   obtain ⟨rfl, h0⟩ := hF
   simp only [zx] at hb
   have e1 := zr hb.1
   have e2 := zr hb.2
   subst e1; subst e2
   obtain ⟨hK, hZ, _⟩ := hp
   obtain ⟨hcc, hon⟩ := Ck.sure_ok hc (by simp)
   have ex := ev_ok h hg ha _ _ hx
   have ek := ev_ok h hg ha _ _ hk
   rw [← decV_ok hq (ads m)] at ek
   refine ⟨lt_of_alive (show (nth m c).alive = true by simp [Ck.alive, hcc]), hon, ?_, fun w hok => ?_⟩
   · rcases mget_val (C kt) (C F.te) l q with ⟨e, he, h1⟩ | h1
     · refine .inl ?_
       rw [show (_ : (C F.te).α) = e.2.1 from h1.symm]
       exact .of_mp hcc he
     · exact .inr h1
   simp only [Ck.ok, hcc] at hok
   have hr := run_lookup hu hK hZ hok q false
   rw [if_neg (by simp)] at hr
   rw [packV_get F h0 hagg (zr hsz)] at hr
   rw [show (nth m c).block = (ads m c).block from rfl] at hr
   simp [execOp, ex, ek, SV.va, hr]
theorem famT_ok {P : Program} {S : Sx} {w0 : World} {n : Nat} {fams : List (Fam C)} {tm : Tm} {m : List (Ck C)} {a : Act} (h : ActOK (ads m) n tm a) (hg : GlOK m) {al : List (Nat × Bool)} (ha : AlOK tm al) {o : Oper} {ht : FamHit C}
 (hf : famOf P fams tm m al o.op = some ht) {K : SV → List (Ck C) → Tr} (hK : (famT ht tm m K).holds) :
 ∃ v m', (∀ w, MemOK S w0 w m → (execOp a.eval o).run P w = .ok (.value (v.va (ads m'))) w) ∧ (K v m').holds ∧ (∀ w, MemOK S w0 w m ↔ MemOK S w0 w m') ∧ ActOK (ads m') n tm a ∧ GlOK m' ∧
   (m.length ≤ m'.length ∧ ∀ k, k < m.length → ads m k = ads m' k ∧ nth m' k = nth m k) := by
 obtain ⟨F0, c0, as0, x0⟩ := ht
 unfold famT at hK
 split at hK <;> try exact hK.elim
 rename_i hlt
 simp only [zx] at hlt
 obtain ⟨hp, hK⟩ := (conj_iff _ _).1 hK
 have hK := hK _ rfl
 obtain ⟨hc, hon, hx, hrun⟩ := famOf_run h hg ha hf hp
 have hx' : (∃ c ∈ m, c.cells.Has F0.te x0) ∨ x0 = (C F0.te).dflt := hx.imp (fun hx => ⟨_, nth_mem hc, hx⟩) id
 refine ⟨_, _, fun w hm => ?_, hK, fun w => ⟨fun hm => (hm.ghost hlt.1 F0 hx' rfl).1, MemOK.dropO hlt.1⟩, h.ads (ads_append m _) hlt.2, trivial, by simp, fun k hk => ⟨ads_append m _ k hk, by rw [nth_append, if_pos hk]⟩⟩
 rw [hrun w (hm.ok _ (nth_mem hc) hon), ghost_val _ m (hm.ghost hlt.1 F0 hx' rfl).2]
def frz : List (Ck C) → Nat → List (Ck C)
 | [], _ => []
 | ⟨b, ba, sz, _, g, cs⟩ :: r, 0 => ⟨b, ba, sz, false, g, cs⟩ :: r
 | x :: r, c + 1 => x :: frz r c
theorem length_frz : ∀ (m : List (Ck C)) (c : Nat), (frz m c).length = m.length
 | [], _ => rfl
 | _ :: _, 0 => rfl
 | x :: r, c + 1 => by simp [frz, length_frz r c]
theorem nth_frz : ∀ (m : List (Ck C)) (c k : Nat), nth (frz m c) k = if k = c ∧ c < m.length then { nth m c with wr := false } else nth m k
 | [], c, k => by simp [frz]
 | x :: r, 0, k => by
   cases k with
   | zero => simp [frz, nth]
   | succ k => simp [frz, nth]
 | x :: r, c + 1, k => by
   cases k with
   | zero => simp [frz, nth]
   | succ k => simp [frz, nth, nth_frz r c k]
theorem ads_frz (m : List (Ck C)) (c : Nat) : ads (frz m c) = ads m := by
 funext k
 simp only [ads, nth_frz]
 split
 · rename_i h; rw [h.1]; rfl
 · rfl
theorem memLt_frz (n : Nat) : ∀ (m : List (Ck C)) (c : Nat), memLt n m = true → memLt n (frz m c) = true
 | [], _, h => h
 | ⟨b, ba, sz, w, g, cs⟩ :: r, 0, h => h
 | x :: r, c + 1, h => by
   simp only [memLt, zx, frz] at h ⊢
   exact ⟨h.1, memLt_frz n r c h.2⟩
theorem MemOK.frz {S : Sx} {w0 w : World} {m : List (Ck C)} (h : MemOK S w0 w m) (c : Nat) : MemOK S w0 w (frz m c) := by
 have hn : ∀ k, (nth (Vx.frz m c) k).block = (nth m k).block ∧ (nth (Vx.frz m c) k).base = (nth m k).base ∧ (nth (Vx.frz m c) k).on = (nth m k).on ∧ (nth (Vx.frz m c) k).cells = (nth m k).cells ∧ ((nth (Vx.frz m c) k).wr = true → (nth m k).wr = true) ∧
  (nth (Vx.frz m c) k).live = (nth m k).live ∧ ∀ w, Ck.ok (ads m) w (nth m k) → Ck.ok (ads m) w (nth (Vx.frz m c) k) := by
  intro k
  rw [nth_frz]
  split
  · rename_i e; rw [e.1]; exact ⟨rfl, rfl, rfl, rfl, fun h => by simp at h, rfl, fun _ h => h⟩
  · exact ⟨rfl, rfl, rfl, rfl, id, rfl, fun _ h => h⟩
 have hin : ∀ x, x ∈ Vx.frz m c → ∃ k, k < m.length ∧ nth (Vx.frz m c) k = x := by
  intro x hx
  obtain ⟨k, hk, rfl⟩ := mem_nth hx
  rw [length_frz] at hk
  exact ⟨k, hk, rfl⟩
 refine ⟨h.os, h.tape, h.output, h.size, h.keep, ?_, ?_, ?_, ?_, ?_, ?_⟩
 · intro x hx hw ho hb
   obtain ⟨k, hk, rfl⟩ := hin x hx
   obtain ⟨e1, _, e3, _, e5, _⟩ := hn k
   rw [e1] at hb ⊢
   rw [e3] at ho
   exact h.inS _ (nth_mem hk) (e5 hw) ho hb
 · intro x hx ho
   obtain ⟨k, hk, rfl⟩ := hin x hx
   rw [(hn k).2.2.1] at ho
   rw [ads_frz]
   exact (hn k).2.2.2.2.2.2 w (h.ok _ (nth_mem hk) ho)
 · intro x hx hw hl a ha
   obtain ⟨k, hk, rfl⟩ := hin x hx
   obtain ⟨e1, _, _, _, e5, e6, _⟩ := hn k
   rw [e1] at ha
   rw [e6] at hl
   exact h.wrok _ (nth_mem hk) (e5 hw) hl a ha
 · intro i j hi hj hij hw hil hjl
   rw [length_frz] at hi hj
   rw [(hn i).1, (hn j).1]
   rw [(hn i).2.2.2.2.2.1] at hil
   rw [(hn j).2.2.2.2.2.1] at hjl
   exact h.apart i j hi hj hij ((hn i).2.2.2.2.1 hw) hil hjl
 · intro x hx ho
   obtain ⟨k, hk, rfl⟩ := hin x hx
   rw [(hn k).2.2.1] at ho
   rw [(hn k).1]; exact h.lt _ (nth_mem hk) ho
 · refine h.more.mono h.inS (fun _ _ _ => rfl) (fun x hx hxl => ?_) h.size (zy _) (fun x hx => ?_)
   · obtain ⟨k, hk, rfl⟩ := hin x hx
     rw [(hn k).2.2.2.2.2.1] at hxl
     exact .inl ⟨_, nth_mem hk, hxl, (hn k).1.symm, (hn k).2.2.2.2.1⟩
   · obtain ⟨k, hk, rfl⟩ := hin x hx
     rw [(hn k).2.2.2.1]
     exact CsIn.self (nth_mem hk) (hn k).2.2.2.2.1
inductive FamSrc (C : Nat → Codec) (t : Nat) where
 | nils
 | sl (k i n mm : Nat) (l : List (C t).α)
structure FamWHit (C : Nat → Codec) where
 F : FamW C
 s : FamSrc C F.t
def famWOf (P : Program) (famw : List (FamW C)) (tm : Tm) (m : List (Ck C)) (al : List (Nat × Bool)) (o : Op) : Option (FamWHit C) :=
 match famw with
 | [] => none
 | _ :: _ => match o with
   | .buildSlice t len ps => match zo len 1, P.underlying t, ps.toList with
     | true, some (.slice e), [(0, x)] => match findFamW e famw with
       | some ⟨F, _⟩ => match ev tm m al x with
         | some .nils => some ⟨F, .nils⟩
         | some (.sl k i n mm) => match (nth m k).cells with
           | .rows t' l => if h' : t' = F.t then some ⟨F, .sl k i n mm (castL h' l)⟩ else none
           | _ => none
         | _ => none
       | none => none
     | _, _, _ => none
   | _ => none
def famWT (P : Program) (h : FamWHit C) (tm : Tm) (m : List (Ck C)) (K : SV → List (Ck C) → Tr) : Tr :=
 match memLt m.length m && tmLt m.length tm && zeroOK P (C h.F.te) h.F.te with
 | false => .no
 | true => match h.s with
   | .nils => .all fun b => K (.sl m.length 0 1 1) (m ++ [⟨b, 0, (C h.F.te).sz, true, none, .rows h.F.te [h.F.put Rw.nil]⟩])
   | .sl k i n mm l => match (nth m k).wr with
     | true => .and (.lf (i + n ≤ l.length)) (conj ((nth m k).orNil n mm) (.all fun b => K (.sl m.length 0 1 1) (Vx.frz m k ++ [⟨b, 0, (C h.F.te).sz, true, none, .rows h.F.te [h.F.put ⟨(nth m k).on, (nth m k).block, (nth m k).base + i * (nth m k).sz, mm, (l.drop i).take n⟩]⟩])))
     | false => .no
theorem famWT_ok {P : Program} {S : Sx} {w0 w : World} {n : Nat} {famw : List (FamW C)} {tm : Tm} {m : List (Ck C)} {a : Act} (h : ActOK (ads m) n tm a) (hm : MemOK S w0 w m) {al : List (Nat × Bool)} (ha : AlOK tm al) {o : Oper} {ht : FamWHit C}
 (hf : famWOf P famw tm m al o.op = some ht) {K : SV → List (Ck C) → Tr} (hK : (famWT P ht tm m K).holds) : Left P S w0 tm m w (execOp a.eval o) K := by
 obtain ⟨dst, op, ty, pos, after, g⟩ := o
 unfold famWOf at hf
 simp only at hf
 split at hf <;> try contradiction
 split at hf <;> try contradiction
 rename_i t len ps
 split at hf <;> try contradiction
 rename_i e x hlen hu hps
 have hlen := zr hlen
 subst hlen
 split at hf <;> try contradiction
 rename_i F hF _
 subst hF
 have hps' : ps = #[(0, x)] := by apply xq; simpa using hps
 subst hps'
 -- the making itself, whatever is laid
 have hbuild : ∀ (r : Rw (C F.t).α), zeroOK P (C F.te) F.te = true → a.eval x = r.val →
  (execOp a.eval ⟨dst, .buildSlice t 1 #[(0, x)], ty, pos, after, g⟩).run P w = .ok (.value (.slice (some ⟨w.heap.size, 0, none⟩) 1 1)) (w.alloc (.cells #[r.val] F.te)) := by
  intro r hz hx
  obtain ⟨i, z, hi, hz, hzz, hsz, hn0, hzs⟩ := zeroOK_ok hz
  have hso : (sizeOf F.te).run P w = .ok 1 w := by simp [sizeOf, typeInfo, hi, hsz, F.sz]
  have hvc : r.val.cells = #[r.val] := by unfold Rw.val; split <;> rfl
  have hzs1 : z.cells.size = 1 := by rw [hzs, F.sz]
  have hrange : (Array.range 1).map (z.cells[· % z.cells.size]!) = #[z.cells[0 % z.cells.size]!] := by
   apply xq
   simp [List.range_succ]
  have hfill : Instr.fill (fun i => some (i, 1)) #[z.cells[0 % z.cells.size]!] [(0, r.val)] = some #[r.val] := by
   simp [Instr.fill, hvc]
  simp [execOp, Instr.buildSlice, run_underlying' hu, hso, zeroValue, typeInfo, hi, hz, newRow, hx]
  rw [hrange, hfill]
  simp
 have hblk0 : w.heap.size = w.heap.size := rfl
 split at hf <;> try contradiction
 · rename_i hx
   simp only [Option.some.injEq] at hf
   subst hf
   unfold famWT at hK
   split at hK <;> try exact hK.elim
   rename_i hc
   simp only [zx] at hc
   obtain ⟨⟨c1, c2⟩, c3⟩ := hc
   have hxv := ev_ok h hm.glob ha _ _ hx
   have hb := hbuild Rw.nil c3 (by rw [hxv]; rfl)
   have hgood : ∀ w', (C F.te).good w' (F.put Rw.nil) := fun w' => F.good w' _ ⟨rfl, rfl⟩
   have hbl : (C F.te).blks (F.put Rw.nil) = [] := F.blks _
   refine ⟨_, _, _, .inl ?_, hm.newO' c1 (.cells #[Rw.nil.val (α := (C F.t).α)] F.te) (fun w a hw => by simp [World.frozen?, hw]) (C F.te).sz (.rows F.te [F.put Rw.nil]) none rfl ?_ ?_, hK w.heap.size, ads_append _ _, by simp, .inr c2⟩
   · have : ads (m ++ [(⟨w.heap.size, 0, (C F.te).sz, true, none, .rows F.te [F.put Rw.nil]⟩ : Ck C)]) m.length = ⟨w.heap.size, 0, (C F.te).sz, true⟩ := ads_append_new _ _
     rw [hb]; simp [SV.va, this, Ad.at]
   · refine ⟨rfl, fun i hi f hf => ?_⟩
     simp only [wt] at hi
     have hi0 : i = 0 := by omega
     have hf0 : f = 0 := by have := F.sz; omega
     subst hi0 hf0
     rw [enc_flat (C F.te) _ noAd _ 0 (by have := F.sz; omega)]
     simp only [th, F.enc]
     show (w.alloc _).cell? ⟨w.heap.size, 0 + (0 * _ + 0), none⟩ = _
     rw [cell?_alloc]
     simp
   · intro t' y hy
     obtain ⟨rfl, hy⟩ := hy.inv
     rw [List.mem_singleton.1 hy]
     exact .inr ⟨hgood _, fun b hb => by rw [hbl] at hb; cases hb⟩
 · rename_i k i nn mm hx
   split at hf <;> try contradiction
   rename_i t' l hcl
   split at hf <;> try contradiction
   rename_i htt
   subst htt
   simp only [Option.some.injEq] at hf
   subst hf
   unfold famWT at hK
   split at hK <;> try exact hK.elim
   rename_i hc
   simp only [zx] at hc
   obtain ⟨⟨c1, c2⟩, c3⟩ := hc
   have hcast : castL rfl l = l := rfl
   simp only [hcast] at hK
   split at hK <;> try exact hK.elim
   rename_i hwr
   obtain ⟨hlen, hK⟩ := hK
   have hlen : i + nn ≤ l.length := hlen
   obtain ⟨hnil, hK⟩ := (conj_iff _ _).1 hK
   have hnil := Ck.orNil_ok hnil
   have hxv := ev_ok h hm.glob ha _ _ hx
   have hk : k < m.length := lt_of_alive (show (nth m k).alive = true by simp [Ck.alive, hcl])
   generalize hr : (⟨(nth m k).on, (nth m k).block, (nth m k).base + i * (nth m k).sz, mm, (l.drop i).take nn⟩ : Rw (C F.t).α) = r at hK
   have hrl : r.l.length = nn := by rw [← hr]; simp; omega
   have hro0 : r.on = (nth m k).on := by rw [← hr]
   have hrv : a.eval x = r.val := by
    rw [hxv]
    rcases hnil with hon | ⟨hon, rfl, rfl⟩
    · have e : ((l.drop i).take nn).length = nn := by simp; omega
      have hao : (ads m k).on = true := hon
      rw [← hr]
      simp only [SV.va, hao, cond_true, Rw.val, hon, e]
      simp [ads, Ck.ad, Ad.at]
    · have hao : (ads m k).on = false := hon
      rw [← hr]
      simp only [SV.va, hao, cond_false, Rw.val, hon]
   have hb := hbuild r c3 hrv
   have hrb : r.blks = bif (nth m k).on then [(nth m k).block] else [] := by
    rw [← hr]; unfold Rw.blks
    cases (nth m k).on <;> rfl
   have hro : ∀ w', ((nth m k).on = true → w'.heap[(nth m k).block]? = w.heap[(nth m k).block]?) → Rw.ok (C F.t) w' r := by
    intro w' hw'
    rcases hnil with hon | ⟨hon, rfl, rfl⟩
    · refine Rw.ok_keep _ w w' r (fun b hb => by rw [hrb, hon] at hb; rw [List.mem_singleton.1 hb]; exact hw' hon) ?_
      have hok := hm.ok _ (nth_mem hk) hon
      simp only [Ck.ok, hcl] at hok
      obtain ⟨hsz, hok⟩ := hok
      rw [← hr]
      unfold Rw.ok
      simp only [hon]
      intro j hj f hf
      simp only [List.length_take, List.length_drop] at hj
      have := hok (i + j) (by omega) f hf
      have e1 : ((l.drop i).take nn).getD j (C F.t).dflt = l.getD (i + j) (C F.t).dflt := by
       simp only [zz]
       rw [List.getElem?_take_of_lt (by omega), List.getElem?_drop]
      rw [e1]
      have e2 : (nth m k).ad.at (i + j) f = ⟨(nth m k).block, (nth m k).base + i * (nth m k).sz + (j * (C F.t).sz + f), none⟩ := by
       simp only [Ck.ad, Ad.at, hsz, zf]; congr 1; omega
      rw [← e2, this]
      rw [enc_flat (C F.t) (ads m) noAd _ f hf]
    · rw [← hr]
      unfold Rw.ok
      simp [hon]
   have hlt := hm.lt _ (nth_mem hk)
   have hmf := hm.frz k
   have hadsn : ∀ (x : Ck C), ads (Vx.frz m k ++ [x]) m.length = x.ad := by
    intro x
    have := ads_append_new (Vx.frz m k) x
    rwa [length_frz] at this
   refine ⟨_, _, _, .inl ?_, hmf.newO' (by rw [length_frz]; exact memLt_frz _ _ _ c1) (.cells #[r.val] F.te) (fun w a hw => by simp [World.frozen?, hw]) (C F.te).sz (.rows F.te [F.put r]) none rfl ?_ ?_, hK w.heap.size, fun j hj => ?_, by simp [length_frz], .inr c2⟩
   · rw [hb]; simp [SV.va, hadsn, Ck.ad, Ck.on, Ad.at]
   · refine ⟨rfl, fun j hj f hf => ?_⟩
     simp only [wt] at hj
     have hi0 : j = 0 := by omega
     have hf0 : f = 0 := by have := F.sz; omega
     subst hi0 hf0
     rw [enc_flat (C F.te) _ noAd _ 0 (by have := F.sz; omega)]
     simp only [th, F.enc]
     show (w.alloc _).cell? ⟨w.heap.size, 0 + (0 * _ + 0), none⟩ = _
     rw [cell?_alloc]
     simp
   · intro t' y hy
     obtain ⟨rfl, hy⟩ := hy.inv
     rw [List.mem_singleton.1 hy]
     refine .inr ⟨F.good _ _ (hro _ fun hon => heap_alloc_lt w _ (hlt hon)), fun b hb => ?_⟩
     rw [F.blks, hrb] at hb
     cases hon : (nth m k).on with
     | false => rw [hon] at hb; cases hb
     | true =>
     rw [hon] at hb
     rw [List.mem_singleton.1 hb]
     have hlt := hlt hon
     have hlive : (nth m k).live = true := by simp [Ck.live, Ck.alive, hcl, hon]
     refine ⟨by simp; omega, fun hb0 => .inl (hm.inS _ (nth_mem hk) hwr hon hb0), fun c' hc' hw' hl' => ?_, fun p hp => ?_⟩
     · rcases List.mem_append.1 hc' with hc' | hc'
       · obtain ⟨j, hj, rfl⟩ := mem_nth hc'
         rw [length_frz] at hj
         rw [nth_frz] at hw' hl' ⊢
         split at hw'
         · simp at hw'
         · rename_i hne
           rw [if_neg hne] at hl' ⊢
           exact hm.apart j k hj hk (fun e => hne ⟨e, hk⟩) hw' hl' hlive
       · rw [List.mem_singleton.1 hc']
         exact fun e => absurd hlt (by simp only at e; omega)
     · exact ((hm.more.pin p hp).2.2 _ (nth_mem hk) hlive).symm
   · rw [← ads_append _ _ j (by rw [length_frz]; exact hj), ads_frz]
end Go.Vx
namespace Go.Vx
open Go
variable {C : Nat → Codec}
@[irreducible] def bytesOf (c : Codec) (l : List c.α) : List Int := l.map fun x => match c.enc x with
  | [.int _ n] => n
  | _ => 0
@[irreducible] def strOf (ns : List Int) : ByteArray := ns.foldl (fun r n => r.push (UInt8.ofNat n.toNat)) ByteArray.empty
@[irreducible] def strEq (a b : ByteArray) : Bool := a.toList == b.toList
def strQ (P : Program) (tm : Tm) (m : List (Ck C)) (al : List (Nat × Bool)) (o : Op) : Ans :=
 match o with
 | .convert s d x => match P.underlying s, P.underlying d, ev tm m al x with
   | some (.slice e), some .string, some .nils => match P.underlying e with
     | some (.int .u8) => some ([], .val (.string (strOf [])))
     | _ => none
   | some (.slice e), some .string, some (.sl c i n _) => match P.underlying e, (nth m c).cells with
     | some (.int .u8), .rows t l => match zo (C t).sz 1 with
       | true => some ((nth m c).orNil n n ++ [i + n ≤ l.length ∧ ∀ x, ∃ k, (C t).enc x = [.int .u8 k]], .val (.string (strOf (bytesOf (C t) ((l.drop i).take n)))))
       | false => none
     | _, _ => none
   | _, _, _ => none
 | .binOp .eql t x y _ => match P.underlying t, ev tm m al x, ev tm m al y with
   | some .string, some (.val (.string a)), some (.val (.string b)) => some ([], .bool (.tm (strEq a b)))
   | _, _, _ => none
 | _ => none
theorem strQ_ok {P : Program} {S : Sx} {w0 w : World} {n : Nat} {tm : Tm} {m : List (Ck C)} {a : Act} (h : ActOK (ads m) n tm a) (hm : MemOK S w0 w m) {al : List (Nat × Bool)} (ha : AlOK tm al) {o : Oper} {ps : List Prop} {r : SV}
 (hl : strQ P tm m al o.op = some (ps, r)) (hp : allOf ps) : (execOp a.eval o).run P w = .ok (.value (r.va (ads m))) w := by
 obtain ⟨dst, op, type, pos, after, guard⟩ := o
 simp only at hl
 cases op <;> simp only [strQ] at hl <;> try contradiction
 case convert s d x =>
  split at hl <;> try contradiction
  · rename_i e hs hd hx
    split at hl <;> try contradiction
    rename_i he
    simp only [Option.some.injEq, Prod.mk.injEq] at hl
    obtain ⟨rfl, rfl⟩ := hl
    have ex := ev_ok h hm.glob ha _ _ hx
    have := run_convert_bytes_string (P := P) w s d e none 0 0 hs he hd
    simp only [execOp, ex, SV.va, Sem.run_bind, this, Conv.bytesToString, Sem.run_pure, Result.andThen_ok]
    simp [strOf]
  · rename_i e c i n' m' hs hd hx
    split at hl <;> try contradiction
    rename_i t l he hcl
    split at hl <;> try contradiction
    rename_i hsz
    have hsz := zr hsz
    simp only [Option.some.injEq, Prod.mk.injEq] at hl
    obtain ⟨rfl, rfl⟩ := hl
    obtain ⟨hp0, ⟨hlen, henc⟩, _⟩ := (allOf_append _ _).1 hp
    have ex := ev_ok h hm.glob ha _ _ hx
    rcases Ck.orNil_ok hp0 with hon | ⟨hon, rfl, _⟩
    · have hao : (ads m c).on = true := hon
      have hb := run_convert_bytes_string (P := P) w s d e (some ((ads m c).at i 0)) n' m' hs he hd
      have hc := lt_of_alive (show (nth m c).alive = true by simp [Ck.alive, hcl])
      have hok := hm.ok _ (nth_mem hc) hon
      simp only [Ck.ok, hcl] at hok
      obtain ⟨hcs, hok⟩ := hok
      have hrd := read_rows hm hcl hon hlen (by omega)
      have hvals : ∀ l' : List (C t).α, (flatSV (C t) l').map (SV.va (ads m)) = (bytesOf (C t) l').map (Value.int .u8) := by
       intro l'
       induction l' with
       | nil => unfold bytesOf; rfl
       | cons y l' ih =>
         obtain ⟨k, hk⟩ := henc y
         have : bytesOf (C t) (y :: l') = k :: bytesOf (C t) l' := by unfold bytesOf; simp [hk]
         rw [this]
         simp only [flatSV, hk, List.map_append, List.map_cons, List.map_nil, ih, SV.va, List.cons_append, List.nil_append]
      rw [hvals] at hrd
      have hlb : (bytesOf (C t) ((l.drop i).take n')).length = n' := by unfold bytesOf; simp; omega
      have hld : (loadCells ((ads m c).at i 0) n').run P w = .ok ((bytesOf (C t) ((l.drop i).take n')).map (Value.int .u8)).toArray w := by
       have := run_loadCells_list (P := P) w ((ads m c).at i 0) ((bytesOf (C t) ((l.drop i).take n')).map (Value.int .u8)) (fun j v hj => hrd j v hj)
       rw [zt, hlb] at this
       exact this
      have hs2 := run_bytesToString (P := P) w _ n' m' _ hld
      simp only [execOp, ex, SV.va, hao, cond_true, Sem.run_bind, hb, hs2, Result.andThen_ok]
      simp [strOf]
    · have hao : (ads m c).on = false := hon
      have hb := run_convert_bytes_string (P := P) w s d e none 0 m' hs he hd
      simp only [execOp, ex, SV.va, hao, cond_false, Sem.run_bind, hb, Conv.bytesToString, Sem.run_pure, Result.andThen_ok]
      simp [strOf, bytesOf]
 case binOp bo t x y yt =>
  cases bo <;> simp only [strQ] at hl <;> try contradiction
  split at hl <;> try contradiction
  rename_i ht hx hy
  simp only [Option.some.injEq, Prod.mk.injEq] at hl
  obtain ⟨rfl, rfl⟩ := hl
  have ex := ev_ok h hm.glob ha _ _ hx
  have ey := ev_ok h hm.glob ha _ _ hy
  simp [execOp, ex, ey, SV.va, binOp, Op.stringOp, SB.val, eqGuard, strEq]
end Go.Vx
namespace Go.Vx
open Go
variable {C : Nat → Codec}
theorem MemOK.turn {S : Sx} {w0 w w' : World} {m : List (Ck C)} (h : MemOK S w0 w m) {B : Nat} (hB : Blk S w0 w m true B) (heap : ∀ k, k ≠ B → w'.heap[k]? = w.heap[k]?) (hsz : w'.heap.size = w.heap.size)
 (hos : w'.os = w.os) (htp : w'.tape = w.tape ∧ w.drawn ≤ w'.drawn) (hout : w'.output = w.output) (hfz : ∀ a, w'.frozen? a = w.frozen? a) (hb : ∀ c ∈ m, c.live = true → c.block ≠ B)
 (hd : ∀ c ∈ m, ∀ t x, c.cells.Has t x → B ∉ (C t).blks x ∨ (C t).good w' x) : MemOK S w0 w' m := by
 have hold : ∀ k, k < w0.heap.size → ¬ S.set k → k ≠ B := by
  rintro k hk hn rfl
  rcases hB.old hk with h1 | ⟨h1, _⟩
  · exact hn h1
  · cases h1
 refine ⟨hos.trans h.os, ⟨htp.1.trans h.tape.1, yz h.tape.2 htp.2⟩, hout.trans h.output, by rw [hsz]; exact h.size, fun k hk hn => ?_, h.inS, fun c hc ho => ?_, fun c hc hw hl a ha => ?_, h.apart, fun c hc ho => by rw [hsz]; exact h.lt c hc ho, ?_⟩
 · rw [heap k (hold k hk hn)]; exact h.keep k hk hn
 · cases hl : c.alive with
   | false => unfold Ck.alive at hl; unfold Ck.ok; split at hl <;> simp_all
   | true => exact Ck.ok_same (h.ok c hc ho) (heap _ (hb c hc (Ck.live_iff.2 ⟨hl, ho⟩)))
 · rw [hfz]; exact h.wrok c hc hw hl a ha
 · refine ⟨fun g v hv => ?_, fun g p hp => ?_, fun p hp => ?_, h.more.nod, fun c hc t x hx => ?_⟩
   · obtain ⟨h1, h2, h3⟩ := h.more.gv g v hv
     exact ⟨(World.cell?_of_block (w := w) (a := ⟨g, 0, none⟩) (heap g (hold g h2 h3))).trans h1, h2, h3⟩
   · obtain ⟨h1, h2, h3⟩ := h.more.gp g p hp
     exact ⟨(heap _ (hold _ h2 h3)).trans h1, h2, h3⟩
   · obtain ⟨h1, h2, h3⟩ := h.more.pin p hp
     exact ⟨(heap _ (hB.pin p hp)).trans h1, h2, h3⟩
   · obtain ⟨g1, g2⟩ := h.more.deep c hc t x hx
     refine ⟨?_, fun b hb' => ?_⟩
     · rcases hd c hc t x hx with h1 | h1
       · exact (C t).good_keep w w' x (fun b hb' => heap b (fun e => h1 (e ▸ hb'))) g1
       · exact h1
     · obtain ⟨k1, k2, k3, k4⟩ := g2 b hb'
       exact ⟨by rw [hsz]; exact k1, k2, k3, k4⟩
def ckOff (b : Nat) (x : Ck C) : List Prop :=
 (match x.cells with
 | .dead => []
 | _ => match x.gl with
   | none => [x.block ≠ b]
   | some o => [o = true → x.block ≠ b])
def ckOffD (b : Nat) (x : Ck C) : List Prop :=
 (match x.cells with
 | .rows t l => match (C t).deep with
   | true => [∀ y ∈ l, b ∉ (C t).blks y]
   | false => []
 | .mp _ t l _ => match (C t).deep with
   | true => [∀ e ∈ l, b ∉ (C t).blks e.2.1]
   | false => []
 | _ => [])
def freshL (b : Nat) : List (Ck C) → List Prop
 | [] => []
 | x :: r => ckOff b x ++ (ckOffD b x ++ freshL b r)
def exclL (k c b : Nat) : Nat → List (Ck C) → List Prop
 | _, [] => []
 | j, x :: r => (match zo j k with | true => [] | false => match x.wr with | true => [] | false => ckOff b x) ++ ((match zo j c with | true => [] | false => ckOffD b x) ++ exclL k c b (j + 1) r)
theorem ckOff_of {b : Nat} {x : Ck C} (h : x.live = true → x.block ≠ b) : allOf (ckOff b x) := by
 unfold ckOff
 cases hc : x.cells <;> simp only [] <;> first | trivial | skip
 all_goals
  have ha : x.alive = true := by simp [Ck.alive, hc]
  cases hg : x.gl with
  | none => exact ⟨h (Ck.live_iff.2 ⟨ha, by simp [Ck.on, hg]⟩), trivial⟩
  | some o => exact ⟨fun ho => h (Ck.live_iff.2 ⟨ha, by simp [Ck.on, hg, ho]⟩), trivial⟩
theorem ckOff_to {b : Nat} {x : Ck C} (h : allOf (ckOff b x)) (hl : x.live = true) : x.block ≠ b := by
 obtain ⟨ha, ho⟩ := Ck.live_iff.1 hl
 unfold ckOff at h
 cases hc : x.cells <;> rw [hc] at h <;> simp only [] at h <;> first | (simp [Ck.alive, hc] at ha; done) | skip
 all_goals
  cases hg : x.gl with
  | none => rw [hg] at h; exact h.1
  | some o => rw [hg] at h; exact h.1 (by simpa [Ck.on, hg] using ho)
theorem ckOffD_of {b : Nat} {x : Ck C} (h : ∀ t y, x.cells.Has t y → b ∉ (C t).blks y) : allOf (ckOffD b x) := by
 unfold ckOffD
 cases hc : x.cells <;> simp only [] <;> first | trivial | skip
 · split
   · exact ⟨fun y hy => h _ y (.of_rows hc hy), trivial⟩
   · trivial
 · split
   · exact ⟨fun e he => h _ e.2.1 (.of_mp hc he), trivial⟩
   · trivial
theorem ckOffD_to {b : Nat} {x : Ck C} (h : allOf (ckOffD b x)) {t : Nat} {y : (C t).α} (hy : x.cells.Has t y) : b ∉ (C t).blks y := by
 cases hd : (C t).deep with
 | false => rw [((C t).flat_deep hd y).1]; exact ww
 | true =>
   unfold ckOffD at h
   rcases hy with ⟨l, hc, hy⟩ | ⟨tk, l, clk, hc, e, he, rfl⟩
   · rw [hc] at h; simp only [hd] at h; exact h.1 y hy
   · rw [hc] at h; simp only [hd] at h; exact h.1 e he
theorem freshL_of {b : Nat} : ∀ {m : List (Ck C)}, (∀ x ∈ m, x.live = true → x.block ≠ b) → (∀ x ∈ m, ∀ t y, x.cells.Has t y → b ∉ (C t).blks y) → allOf (freshL b m)
 | [], _, _ => trivial
 | x :: r, h1, h2 => (allOf_append _ _).2 ⟨ckOff_of (h1 x (by simp)), (allOf_append _ _).2 ⟨ckOffD_of (h2 x (by simp)), freshL_of (fun y hy => h1 y (zg _ hy)) fun y hy => h2 y (zg _ hy)⟩⟩
theorem exclL_to {k c b : Nat} : ∀ {m : List (Ck C)} {j : Nat}, allOf (exclL k c b j m) → ∀ i, i < m.length → (j + i ≠ k → (nth m i).wr = false → (nth m i).live = true → (nth m i).block ≠ b) ∧ (j + i ≠ c → ∀ t y, (nth m i).cells.Has t y → b ∉ (C t).blks y)
 | x :: r, j, h, i, hi => by
   obtain ⟨h1, h2⟩ := (allOf_append _ _).1 h
   obtain ⟨h2, h3⟩ := (allOf_append _ _).1 h2
   cases i with
   | zero =>
     simp only [nth, xb]
     refine ⟨fun hk hw hl => ?_, fun hc t y hy => ?_⟩
     · have : zo j k = false := by
        cases e : zo j k with
        | false => rfl
        | true => exact absurd (zr e) hk
       rw [this, hw] at h1
       exact ckOff_to h1 hl
     · have : zo j c = false := by
        cases e : zo j c with
        | false => rfl
        | true => exact absurd (zr e) hc
       rw [this] at h2
       exact ckOffD_to h2 hy
   | succ i =>
     have := exclL_to h3 i (by simpa using hi)
     simp only [nth]
     rw [show j + (i + 1) = j + 1 + i by omega]
     exact this
def ownVals (te : Nat) : Cells C → Option (List (C te).α)
 | .rows t l => if h : t = te then some (castL h l) else none
 | .mp _ t l _ => if h : t = te then some (castL h (l.map fun e => e.2.1)) else none
 | _ => none
theorem ownVals_ok {te : Nat} {cs : Cells C} {V : List (C te).α} (h : ownVals te cs = some V) : ∀ y, cs.Has te y ↔ y ∈ V := by
 intro y
 cases cs <;> simp only [ownVals] at h <;> try contradiction
 · split at h <;> try contradiction
   rename_i e
   subst e
   simp only [Option.some.injEq] at h
   subst h
   refine ⟨fun hy => ?_, fun hy => .rows hy⟩
   obtain ⟨_, hy⟩ := hy.inv
   exact hy
 · split at h <;> try contradiction
   rename_i e
   subst e
   simp only [Option.some.injEq] at h
   subst h
   refine ⟨fun hy => ?_, fun hy => ?_⟩
   · rcases hy with ⟨_, he, _⟩ | ⟨tk', l', clk', he, e, he', rfl⟩
     · cases he
     · cases he
       exact List.mem_map.2 ⟨e, he', rfl⟩
   · obtain ⟨e, he, rfl⟩ := List.mem_map.1 hy
     exact .inr ⟨_, _, _, rfl, e, he, rfl⟩
theorem ownVals_ty {te t : Nat} {cs : Cells C} {V : List (C te).α} (h : ownVals te cs = some V) {y : (C t).α} (hy : cs.Has t y) : t = te := by
 cases cs <;> simp only [ownVals] at h <;> try contradiction
 · split at h <;> try contradiction
   rename_i e
   obtain ⟨e', _⟩ := hy.inv
   rw [← e', e]
 · split at h <;> try contradiction
   rename_i e
   rcases hy with ⟨_, he, _⟩ | ⟨tk', l', clk', he, _⟩
   · cases he
   · cases he; exact e
def findOwn (te : Nat) : Nat → List (Ck C) → Option (Nat × List (C te).α)
 | _, [] => none
 | j, x :: r => match x.wr, x.gl, ownVals te x.cells with
   | true, none, some V => some (j, V)
   | _, _, _ => findOwn te (j + 1) r
theorem findOwn_ok {te : Nat} : ∀ {m : List (Ck C)} {j c : Nat} {V : List (C te).α}, findOwn te j m = some (c, V) → ∃ i, i < m.length ∧ c = j + i ∧ (nth m i).wr = true ∧ ownVals te (nth m i).cells = some V
 | x :: r, j, c, V, h => by
   simp only [findOwn] at h
   split at h
   · rename_i hw _ hv
     simp only [Option.some.injEq, Prod.mk.injEq] at h
     obtain ⟨rfl, rfl⟩ := h
     exact ⟨0, by simp, rfl, hw, hv⟩
   · obtain ⟨i, h1, h2, h3⟩ := findOwn_ok h
     exact ⟨i + 1, by simpa using h1, by omega, h3⟩
def findPut (t : Nat) : List (Fam C) → Option { F : Fam C // F.t = t ∧ F.put ≠ none }
 | [] => none
 | F :: r => match hp : F.put with
   | some p => if h : F.t = t then some ⟨F, h, by rw [hp]; simp⟩ else findPut t r
   | none => findPut t r
structure GrowHit (C : Nat → Codec) where
 F : Fam C
 p : Rw (C F.t).α → (C F.te).α
 hp : F.put = some p
 k : Nat
 n : Nat
 mm : Nat
 l : List (C F.t).α
 c2 : Nat
 i2 : Nat
 kk : Nat
 q2 : Nat
 l2 : List (C F.t).α
 c : Nat
 V : List (C F.te).α
def growOf (P : Program) (fams : List (Fam C)) (tm : Tm) (m : List (Ck C)) (al : List (Nat × Bool)) (o : Op) : Option (GrowHit C) :=
 match fams with
 | [] => none
 | _ :: _ => match o with
   | .call cl => match cl.callee with
     | .builtin .append => match cl.argTypes.toList, cl.args.toList with
       | [t, t'], [s, x] => match zo t t', P.underlying t, ev tm m al s, ev tm m al x with
         | true, some (.slice e), some (.sl k 0 n mm), some (.sl c2 i2 kk q2) => match findPut e fams, (nth m k).wr, (nth m k).cells, (nth m c2).cells with
           | some ⟨F, hF⟩, false, .rows t1 l1, .rows t2 l2 => match hp : F.put, findOwn F.te 0 m with
             | some p, some (c, V) => if h : t1 = e ∧ t2 = e then some ⟨F, p, hp, k, n, mm, castL (h.1.trans hF.1.symm) l1, c2, i2, kk, q2, castL (h.2.trans hF.1.symm) l2, c, V⟩ else none
             | _, _ => none
           | _, _, _, _ => none
         | _, _, _, _ => none
       | _, _ => none
     | _ => none
   | _ => none
def growT (P : Program) (h : GrowHit C) (tm : Tm) (m : List (Ck C)) (K : SV → List (Ck C) → Tr) : Tr :=
 match h with
 | ⟨F, p, _, k, n, mm, l, c2, i2, kk, _, l2, c, V⟩ =>
   match P.info? F.t with
   | none => .no
   | some ti =>
     match memLt m.length m && tmLt m.length tm && !(zo ti.bytes 0) && (zeroOK P (C F.t) F.t && !(C F.t).own) with
     | false => .no
     | true =>
       .and (.lf (n = l.length ∧ n ≤ mm ∧ i2 + kk ≤ l2.length ∧ kk = 1 ∧ (n + kk) * ti.bytes ≤ 140737488355328))
       (conj ((nth m k).orNil n mm ++ (nth m c2).orNil kk kk)
       (.and (.lf ((nth m k).on = true → n + kk ≤ mm → (∃ i, i < V.length ∧ V.getD i (C F.te).dflt = p ⟨true, (nth m k).block, (nth m k).base, mm, l⟩ ∧ ∀ j, j < V.length → j ≠ i → (nth m k).block ∉ (C F.te).blks (V.getD j (C F.te).dflt)) ∧
         allOf (exclL k c (nth m k).block 0 m)))
       (.all fun b => .all fun base => .all fun cap => .imp (n + kk ≤ cap)
         (.imp (((nth m k).on = true ∧ n + kk ≤ mm ∧ b = (nth m k).block ∧ base = (nth m k).base ∧ cap = mm) ∨ allOf (freshL b m))
           (K (.sl m.length 0 (n + kk) cap) (setCk m k .dead ++ [⟨b, base, (C F.t).sz, false, none, .rows F.t (l ++ (l2.drop i2).take kk)⟩, ⟨0, 0, 1, true, some false, .rows F.te [p ⟨true, b, base, cap, l ++ (l2.drop i2).take kk⟩]⟩]))))))
theorem Blk.ofBlocks {S : Sx} {w0 w w' : World} {m m' : List (Ck C)} {o : Bool} {b : Nat} (h : Blk S w0 w m o b) (hsz : w.heap.size ≤ w'.heap.size) (hm : ∀ c ∈ m', c.wr = true → c.live = true → c ∈ m ∨ c.block ≠ b) : Blk S w0 w' m' o b :=
 ⟨Nat.lt_of_lt_of_le h.lt hsz, h.old, fun c hc hw hl => (hm c hc hw hl).elim (fun hc => h.no c hc hw hl) id, h.pin⟩
theorem kill_mem {m : List (Ck C)} {k : Nat} {c : Ck C} (hc : c ∈ setCk m k .dead) (ha : c.alive = true) : ∃ j, j < m.length ∧ j ≠ k ∧ c = nth m j := by
 rcases mem_setCk hc with ⟨j, hj, hjk, rfl⟩ | ⟨_, rfl⟩
 · exact ⟨j, hj, hjk, rfl⟩
 · simp [Ck.alive] at ha
theorem memLt_kill : ∀ (r : List (Ck C)) (c k : Nat), memLt k r = true → memLt k (setCk r c .dead) = true
 | [], _, _, h => h
 | y :: r, c, k, h => by
   simp only [memLt, zx] at h
   cases c with
   | zero => simp [setCk0, memLt, h.2, Ck.lt]
   | succ c => simp [setCkS, memLt, h.1, memLt_kill r c k h.2]
theorem MemOK.know {S : Sx} {w0 w : World} {m : List (Ck C)} (h : MemOK S w0 w m) (hl : memLt m.length m = true) (F : Fam C) {p : Rw (C F.t).α → (C F.te).α} (hp : F.put = some p) {r : Rw (C F.t).α} (hon : r.on = true) (hg : Gw.ok (C F.t) w r) (hB : Blk S w0 w m true r.b) :
 MemOK S w0 w (m ++ [⟨r.b, r.base, (C F.t).sz, false, none, .rows F.t r.l⟩, ⟨0, 0, 1, true, some false, .rows F.te [p r]⟩]) := by
 have hG := F.gro p hp
 have h1 := h.ghostB hl F.flat hg.1 hon hB none
 have e : m ++ [(⟨r.b, r.base, (C F.t).sz, false, none, .rows F.t r.l⟩ : Ck C), ⟨0, 0, 1, true, some false, .rows F.te [p r]⟩] = (m ++ [⟨r.b, r.base, (C F.t).sz, false, none, .rows F.t r.l⟩]) ++ [⟨0, 0, 1, true, some false, .rows F.te [p r]⟩] := by simp
 rw [e]
 have hl1 : memLt (m ++ [(⟨r.b, r.base, (C F.t).sz, false, none, .rows F.t r.l⟩ : Ck C)]).length (m ++ [⟨r.b, r.base, (C F.t).sz, false, none, .rows F.t r.l⟩]) = true := memLt_app (memLt_mono (by simp) hl) (by simp [memLt, Ck.lt])
 refine h1.off' hl1 rfl fun t y hy => ?_
 obtain ⟨rfl, hy⟩ := hy.inv
 have hy : y ∈ [p r] := hy
 rw [List.mem_singleton.1 hy]
 refine .inr ⟨hG.good w r hg, fun b hb => ?_⟩
 rw [hG.blks] at hb
 have hb : b = r.b := by simpa [Rw.blks, hon] using hb
 subst hb
 refine (hB.weak (o' := (C F.te).own && true) fun _ => rfl).ofBlocks (zy _) fun c hc hw hlv => ?_
 rcases List.mem_append.1 hc with hc | hc
 · rcases List.mem_append.1 hc with hc | hc
   · exact .inl hc
   · rw [List.mem_singleton.1 hc] at hw; cases hw
 · rw [List.mem_singleton.1 hc] at hlv
   exact absurd (Ck.live_iff.1 hlv).2 (by simp [Ck.on])
theorem MemOK.made {S : Sx} {w0 w : World} {m : List (Ck C)} {t b : Nat} {l sp : List (C t).α} (h : MemOK S w0 w (m ++ [⟨b, 0, (C t).sz, true, none, .rows t (l ++ sp)⟩])) :
 Gw.ok (C t) w ⟨true, b, 0, l.length + sp.length, l⟩ ∧ Blk S w0 w m true b ∧ allOf (freshL b m) := by
 have hme : (⟨b, 0, (C t).sz, true, none, .rows t (l ++ sp)⟩ : Ck C) ∈ m ++ [⟨b, 0, (C t).sz, true, none, .rows t (l ++ sp)⟩] := by simp
 have hlive : (⟨b, 0, (C t).sz, true, none, .rows t (l ++ sp)⟩ : Ck C).live = true := rfl
 have hok := h.ok _ hme rfl
 have hen : nth (m ++ [(⟨b, 0, (C t).sz, true, none, .rows t (l ++ sp)⟩ : Ck C)]) m.length = ⟨b, 0, (C t).sz, true, none, .rows t (l ++ sp)⟩ := by rw [nth_append, if_neg (qz _), if_pos rfl]
 have hno : ∀ c ∈ m, c.live = true → c.block ≠ b := by
  intro c hc hcl
  obtain ⟨j, hj, rfl⟩ := mem_nth hc
  have := h.apart m.length j (by simp) (by simp; omega) (by omega)
  rw [hen, nth_append, if_pos hj] at this
  exact (this rfl hlive hcl).symm
 refine ⟨⟨?_, fun _ => ⟨by simp, fun j hj => ?_, fun a ha => h.wrok _ hme rfl hlive a ha⟩⟩, ⟨h.lt _ hme rfl, fun hb => .inl (h.inS _ hme rfl rfl hb), fun c hc _ hcl => hno c hc hcl, fun q hq e => ?_⟩, freshL_of hno fun c hc t' y hy hb => ?_⟩
 · unfold Rw.ok
   simp only
   intro i hi f hf
   have := hok.2 i (by simp; omega) f hf
   have e : (l ++ sp).getD i (C t).dflt = l.getD i (C t).dflt := by
    rw [zz, yf hi, ← zz]
   rw [e, enc_flat (C t) _ noAd _ f hf] at this
   simpa [Ck.ad, Ad.at] using this
 · have hj : j < (l.length + sp.length) * (C t).sz := hj
   have hpos : 0 < (C t).sz := by
    rcases Nat.eq_zero_or_pos (C t).sz with e | e
    · rw [e] at hj; simp at hj
    · exact e
   have hd : j / (C t).sz < (l ++ sp).length := by
    rw [zw]
    exact Nat.div_lt_of_lt_mul (by rw [yx]; exact hj)
   have := hok.2 _ hd (j % (C t).sz) (Nat.mod_lt _ hpos)
   have hdm := Nat.div_add_mod j (C t).sz
   have e : (⟨b, 0, (C t).sz, true, none, .rows t (l ++ sp)⟩ : Ck C).ad.at (j / (C t).sz) (j % (C t).sz) = ⟨b, 0 + j, none⟩ := by
    simp only [Ck.ad, Ad.at]
    congr 1
    rw [yx]; omega
   rw [e] at this
   rw [this]; rfl
 · obtain ⟨_, _, h3⟩ := h.more.pin q hq
   exact h3 _ hme hlive e.symm
 · exact (((h.more.deep c (List.mem_append_left _ hc) t' y hy).2 b hb).no _ hme rfl hlive) rfl
theorem MemOK.growIn {S : Sx} {w0 w : World} {m : List (Ck C)} (hm : MemOK S w0 w m) (hlt : memLt m.length m = true) (F : Fam C) {p : Rw (C F.t).α → (C F.te).α} (hp : F.put = some p) {k c B base n kk mm : Nat} {l xs : List (C F.t).α} {V : List (C F.te).α}
 (hc : c < m.length) (hcw : (nth m c).wr = true) (hV : ownVals F.te (nth m c).cells = some V) (hck : c ≠ k) (hn : n = l.length) (hkk : xs.length = kk) (hroom : n + kk ≤ mm)
 {i : Nat} (hi : i < V.length) (hVi : V.getD i (C F.te).dflt = p ⟨true, B, base, mm, l⟩) (hex : ∀ j, j < V.length → j ≠ i → B ∉ (C F.te).blks (V.getD j (C F.te).dflt)) (hexl : allOf (exclL k c B 0 m)) :
 Gw.ok (C F.t) w ⟨true, B, base, mm, l⟩ ∧ MemOK S w0 (w.setCells B (base + n * (C F.t).sz) ((flatSV (C F.t) xs).map (SV.va (ads m)))) (setCk m k .dead ++ [⟨B, base, (C F.t).sz, false, none, .rows F.t (l ++ xs)⟩, ⟨0, 0, 1, true, some false, .rows F.te [p ⟨true, B, base, mm, l ++ xs⟩]⟩]) := by
 have hG := F.gro p hp
 have hpm : p ⟨true, B, base, mm, l⟩ ∈ V := by
  rw [← hVi, zz, zv hi]; exact xk hi
 obtain ⟨g1, g2⟩ := hm.more.deep _ (nth_mem hc) F.te _ ((ownVals_ok hV _).2 hpm)
 have hgw := hG.ungood w _ g1
 have hB : Blk S w0 w m true B := (g2 B (by rw [hG.blks]; simp [Rw.blks])).weak (fun _ => by rw [hG.own, hcw]; rfl)
 obtain ⟨hrw, hgr⟩ := hgw
 refine ⟨⟨hrw, hgr⟩, ?_⟩
 obtain ⟨q1, q2, q3⟩ := hgr rfl
 have q1 : l.length ≤ mm := q1
 have q2 : ∀ j, j < mm * (C F.t).sz → (w.cell? ⟨B, base + j, none⟩).isSome = true := q2
 have hlen : ((flatSV (C F.t) xs).map (SV.va (ads m))).length = kk * (C F.t).sz := by rw [zt, flatSV_len, hkk]
 obtain ⟨e1, e2, e3, e4, e5⟩ := heap_setCells B ((flatSV (C F.t) xs).map (SV.va (ads m))) (base + n * (C F.t).sz) w
 have hroomS : n * (C F.t).sz + kk * (C F.t).sz ≤ mm * (C F.t).sz := by rw [← zf]; exact zd _ hroom
 have hsome : ∀ j, j < ((flatSV (C F.t) xs).map (SV.va (ads m))).length → (w.cell? ⟨B, base + n * (C F.t).sz + j, none⟩).isSome = true := by
  intro j hj
  rw [hlen] at hj
  rw [rx]
  exact q2 _ (by omega)
 generalize hw' : w.setCells B (base + n * (C F.t).sz) ((flatSV (C F.t) xs).map (SV.va (ads m))) = w' at e1 e2 e3 e4 e5 ⊢
 have hin : ∀ j, j < kk * (C F.t).sz → w'.cell? ⟨B, base + n * (C F.t).sz + j, none⟩ = ((flatSV (C F.t) xs).map (SV.va (ads m)))[j]? := by
  intro j hj
  rw [← hw', World.cell?_setCells_in B _ (base + n * (C F.t).sz) w hsome j (by rw [hlen]; exact hj), zv]
 have hout : ∀ j, (j < n * (C F.t).sz ∨ n * (C F.t).sz + kk * (C F.t).sz ≤ j) → w'.cell? ⟨B, base + j, none⟩ = w.cell? ⟨B, base + j, none⟩ := by
  intro j hj
  rw [← hw']
  refine World.cell?_setCells_out _ _ _ _ _ (fun _ _ => ?_)
  rw [hlen]
  simp only
  omega
 have hfz : ∀ a, w'.frozen? a = w.frozen? a := fun a => by rw [← hw']; exact World.frozen?_setCells _ _ _ _ _
 have hsomeA : ∀ j, j < mm * (C F.t).sz → (w'.cell? ⟨B, base + j, none⟩).isSome = true := by
  intro j hj
  by_cases h1 : j < n * (C F.t).sz ∨ n * (C F.t).sz + kk * (C F.t).sz ≤ j
  · rw [hout j h1]; exact q2 j hj
  · have := hin (j - n * (C F.t).sz) (by omega)
    rw [show base + n * (C F.t).sz + (j - n * (C F.t).sz) = base + j by omega] at this
    rw [this, zv (by rw [hlen]; omega)]; rfl
 have hrow : ∀ i', i' < n → ∀ f, f < (C F.t).sz → i' * (C F.t).sz + f < n * (C F.t).sz := by
  intro i' hi' f hf
  have := zd (C F.t).sz (show i' + 1 ≤ n by omega)
  rw [zf] at this; omega
 have hold : ∀ i', i' < l.length → ∀ f, f < (C F.t).sz → w'.cell? ⟨B, base + (i' * (C F.t).sz + f), none⟩ = some ((((C F.t).enc (l.getD i' (C F.t).dflt)).getD f .junk).va noAd) := by
  intro i' hi' f hf
  rw [hout _ (.inl (hrow i' (by omega) f hf))]
  have := hrw
  unfold Rw.ok at this
  exact this i' hi' f hf
 have hgo : Gw.ok (C F.t) w' ⟨true, B, base, mm, l⟩ := by
  refine ⟨?_, fun _ => ⟨q1, hsomeA, fun a ha => by rw [hfz]; exact q3 a ha⟩⟩
  unfold Rw.ok
  exact hold
 have hgn : Gw.ok (C F.t) w' ⟨true, B, base, mm, l ++ xs⟩ := by
  refine ⟨?_, fun _ => ⟨by simp only [zw]; omega, hsomeA, fun a ha => by rw [hfz]; exact q3 a ha⟩⟩
  unfold Rw.ok
  simp only
  intro i' hi' f hf
  rw [zw] at hi'
  by_cases h1 : i' < l.length
  · rw [hold i' h1 f hf]
    have e : (l ++ xs).getD i' (C F.t).dflt = l.getD i' (C F.t).dflt := by
     rw [zz, yf h1, ← zz]
    rw [e]
  · have e : (l ++ xs).getD i' (C F.t).dflt = xs.getD (i' - n) (C F.t).dflt := by
     rw [zz, List.getElem?_append_right (by omega), ← zz, hn]
    have hlt' := zd (C F.t).sz (show (i' - n) + 1 ≤ kk by omega)
    rw [zf] at hlt'
    have h2 := hin ((i' - n) * (C F.t).sz + f) (by omega)
    have h3 : i' * (C F.t).sz = n * (C F.t).sz + (i' - n) * (C F.t).sz := by rw [← zf]; congr 1; omega
    rw [show base + n * (C F.t).sz + ((i' - n) * (C F.t).sz + f) = base + (i' * (C F.t).sz + f) by omega] at h2
    rw [h2, List.getElem?_map, flatSV_get (C F.t) xs (i' - n) f (by omega) hf, e]
    simp only [yu]
    rw [enc_flat (C F.t) _ noAd _ f hf]
 have hk := hm.kill k
 have hBk : Blk S w0 w (setCk m k .dead) true B := hB.ofBlocks (zy _) fun c' hc' _ hl' => by
  obtain ⟨j, hj, _, rfl⟩ := kill_mem hc' (Ck.live_iff.1 hl').1
  exact .inl (nth_mem hj)
 have ht : MemOK S w0 w' (setCk m k .dead) := by
  refine hk.turn hBk e1 e2 e3 e4 e5 hfz (fun c' hc' hl' => ?_) fun c' hc' t x hx => ?_
  · obtain ⟨j, hj, hjk, rfl⟩ := kill_mem hc' (Ck.live_iff.1 hl').1
    cases hwj : (nth m j).wr with
    | true => exact hB.no _ (nth_mem hj) hwj hl'
    | false => exact (exclL_to hexl j hj).1 (by omega) hwj hl'
  · obtain ⟨j, hj, hjk, rfl⟩ := kill_mem hc' hx.alive
    by_cases hjc : j = c
    · subst hjc
      obtain rfl := ownVals_ty hV hx
      obtain ⟨j', hj', rfl⟩ := List.getElem_of_mem ((ownVals_ok hV x).1 hx)
      by_cases hji : j' = i
      · subst hji
        right
        have : V[j'] = p ⟨true, B, base, mm, l⟩ := by rw [← hVi, zz, zv hj']; rfl
        rw [this]
        exact hG.good w' _ hgo
      · left
        have := hex j' hj' hji
        rwa [zz, zv hj'] at this
    · exact .inl ((exclL_to hexl j hj).2 (by omega) t x hx)
 exact ht.know (by rw [length_setCk]; exact memLt_kill _ _ _ hlt) F hp rfl hgn (hBk.ofBlocks (by rw [e2]; exact zy _) fun c' hc' _ _ => .inl hc')
theorem growT_ok {P : Program} {S : Sx} {w0 w : World} {N : Nat} {fams : List (Fam C)} {tm : Tm} {m : List (Ck C)} {a : Act} (h : ActOK (ads m) N tm a) (hm : MemOK S w0 w m) {al : List (Nat × Bool)} (ha : AlOK tm al) {o : Oper} {ht : GrowHit C}
 (hf : growOf P fams tm m al o.op = some ht) {K : SV → List (Ck C) → Tr} (hK : (growT P ht tm m K).holds) : Left P S w0 tm m w (execOp a.eval o) K := by
 obtain ⟨dst, op, ty, pos, after, g⟩ := o
 unfold growOf at hf
 simp only at hf
 split at hf <;> try contradiction
 split at hf <;> try contradiction
 rename_i cl
 obtain ⟨callee, args, argTypes⟩ := cl
 simp only at hf
 split at hf <;> try contradiction
 split at hf <;> try contradiction
 rename_i t t' so xo hts hxs
 split at hf <;> try contradiction
 rename_i e k n mm c2 i2 kk q2 hbeq hu hs hx
 split at hf <;> try contradiction
 rename_i F hF t1 l1 t2 l2 _ hwk hcl1 hcl2
 split at hf <;> try contradiction
 rename_i p c V hp hown
 split at hf <;> try contradiction
 rename_i hte
 simp only [Option.some.injEq] at hf
 subst hf
 obtain ⟨hF1, hF2⟩ := hF
 subst hF1
 obtain ⟨h1, h2⟩ := hte
 subst h1
 subst h2
 have htt := zr hbeq
 subst htt
 have hargs : args = #[so, xo] := by apply xq; simpa using hxs
 have htys : argTypes = #[t, t] := by apply xq; simpa using hts
 subst hargs htys
 have es := ev_ok h hm.glob ha _ _ hs
 have ex := ev_ok h hm.glob ha _ _ hx
 have hexec : ∀ (v : Value) (w' : World), (Builtin.append_ #[t, t] ty #[(SV.sl k 0 n mm).va (ads m), (SV.sl c2 i2 kk q2).va (ads m)]).run P w = .ok v w' →
  (execOp a.eval ⟨dst, .call ⟨.builtin .append, #[so, xo], #[t, t]⟩, ty, pos, after, g⟩).run P w = .ok (.value v) w' := by
  intro v w' hr
  simp [execOp, resolve, invoke, builtin, es, ex, hr]
 unfold growT at hK
 simp only at hK
 split at hK <;> try exact hK.elim
 rename_i ti hti
 split at hK <;> try exact hK.elim
 rename_i hc
 have hc' := hc
 simp only [zx, zl] at hc
 obtain ⟨⟨⟨c1, c2'⟩, c3⟩, c4, c5⟩ := hc
 obtain ⟨ti', z, hti', hz, hzz, hsz, hn0, hzs⟩ := zeroOK_ok c4
 rw [hti] at hti'; simp only [Option.some.injEq] at hti'; subst hti'
 obtain ⟨⟨hn, hnm, hi2, hkk, hbytes⟩, hK⟩ := hK
 obtain ⟨hnil, hK⟩ := (conj_iff _ _).1 hK
 obtain ⟨hnil1, hnil2⟩ := (allOf_append _ _).1 hnil
 obtain ⟨hexc, hK⟩ := hK
 have hn : n = l1.length := hn
 have hi2 : i2 + kk ≤ l2.length := hi2
 simp only [castL_self] at hexc hK
 have hkm : k < m.length := lt_of_alive (show (nth m k).alive = true by simp [Ck.alive, hcl1])
 have hc2m : c2 < m.length := lt_of_alive (show (nth m c2).alive = true by simp [Ck.alive, hcl2])
 have hx2 : (nth m c2).on = true := by
  rcases Ck.orNil_ok hnil2 with h1 | ⟨_, h1, _⟩
  · exact h1
  · omega
 have hxl : ((l2.drop i2).take kk).length = kk := by simp; omega
 have hadsk : ∀ (o : List (Ck C)) (j : Nat), j < m.length → ads m j = ads (setCk m k .dead ++ o) j := fun o j hj => by
  show ads m j = (nth (setCk m k .dead ++ o) j).ad
  rw [nth_app, if_pos (by rw [length_setCk]; exact hj)]
  exact (congrFun (ads_setCk m k .dead) j).symm
 have hadsn : ∀ (x y : Ck C), ads (setCk m k .dead ++ [x, y]) m.length = x.ad := fun x y => by
  show (nth (setCk m k .dead ++ [x, y]) m.length).ad = x.ad
  rw [nth_app, if_neg (by rw [length_setCk]; omega), length_setCk, Nat.sub_self]; rfl
 by_cases hcase : (nth m k).on = true ∧ n + kk ≤ mm
 · -- in its own place
   obtain ⟨hon, hroom⟩ := hcase
   obtain ⟨⟨i, hi, hVi, hex⟩, hexl⟩ := hexc hon hroom
   obtain ⟨ci, hci, hce, hcw, hV⟩ := findOwn_ok hown
   rw [Nat.zero_add] at hce
   subst hce
   have hck : c ≠ k := by
    rintro rfl
    rw [hwk] at hcw; cases hcw
   obtain ⟨hgw, hmem⟩ := hm.growIn c1 F hp hci hcw hV hck hn hxl hroom hi hVi hex hexl
   have hnews := read_rows hm hcl2 hx2 hi2 hn0
   have hnl : ((flatSV (C F.t) ((l2.drop i2).take kk)).map (SV.va (ads m))).length = kk * ti.size := by rw [zt, flatSV_len, hsz, hxl]
   obtain ⟨_, hgr⟩ := hgw
   obtain ⟨_, q2', q3⟩ := hgr rfl
   have hroomS : n * (C F.t).sz + kk * (C F.t).sz ≤ mm * (C F.t).sz := by rw [← zf]; exact zd _ hroom
   have hr := run_append_in (P := P) (w := w) t ty F.t ti hu hti (nth m k).block (nth m k).base n mm ((ads m c2).at i2 0) kk q2 _ hnl hnews (flat_one _ _ _) hroom
    (fun j hj => by
      rw [hnl, hsz] at hj
      rw [hsz, rx]
      exact q2' _ (by show _ < mm * _; omega))
    (fun j _ => q3 _ rfl)
   rw [hsz] at hr
   have hao : (ads m k).on = true := hon
   have hax : (ads m c2).on = true := hx2
   refine ⟨_, _, .sl m.length 0 (n + kk) mm, .inl ?_, hmem, hK (nth m k).block (nth m k).base mm hroom (.inl ⟨hon, hroom, rfl, rfl, rfl⟩), hadsk _, by simp [length_setCk], .inr c2'⟩
   rw [hexec _ _ (by
    simp only [SV.va, hao, hax, cond_true]
    have e : (ads m k).at 0 0 = ⟨(nth m k).block, (nth m k).base, none⟩ := by simp [ads, Ck.ad, Ad.at]
    rw [e]; exact hr)]
   simp only [SV.va, hadsn, Ck.ad, Ck.on, cond_true, Ad.at, vp, xb]
 · -- elsewhere
   have hmm : mm < n + kk := by
    rcases Ck.orNil_ok hnil1 with h1 | ⟨_, _, h1⟩
    · rcases xr mm (n + kk) with h2 | h2
      · exact h2
      · exact absurd ⟨h1, h2⟩ hcase
    · omega
   have hmn : mm = n := by omega
   have heev : (eev P tm m al (.call ⟨.builtin .append, #[so, xo], #[t, t]⟩) fun r m1 => .lf (∃ b sp, r = .sl m.length 0 (n + kk) (n + kk + List.length sp) ∧ m1 = m ++ [⟨b, 0, (C F.t).sz, true, none, .rows F.t ((l1.drop 0).take n ++ (l2.drop i2).take kk ++ sp)⟩])).holds := by
    simp only [eev, hbeq, hu, hs, hx]
    unfold appendSV
    simp only [hti, hc', hcl1, hcl2, hwk, dif_pos, castL_self]
    refine ⟨⟨hnm, by omega, hi2, hbytes⟩, (conj_iff _ _).2 ⟨(allOf_append _ _).2 ⟨hnil1, hnil2⟩, hmm, fun b sp => ⟨b, sp, rfl, rfl⟩⟩⟩
   obtain ⟨w', m1, r, hrun, hmem, ⟨b, sp, hr, hm1⟩, _, _, _⟩ := (eev_append h hm ha (dst := dst) (ty := ty) (pos := pos) (after := after) (g := g) heev).ex
   subst hr
   subst hm1
   have hll : (l1.drop 0).take n = l1 := by rw [List.drop_zero, hn, List.take_length]
   rw [hll] at hmem hrun
   obtain ⟨hgw, hB, hfr⟩ := MemOK.made hmem
   have hlen : (l1 ++ (l2.drop i2).take kk).length + sp.length = n + kk + sp.length := by rw [zw, hxl, hn]
   rw [hlen] at hgw
   have hm0 := MemOK.dropO c1 hmem
   have hmk := hm0.kill k
   have hk := hmk.know (by rw [length_setCk]; exact memLt_kill _ _ _ c1) F hp rfl hgw (hB.ofBlocks (zy _) fun c' hc' _ hl' => by
    obtain ⟨j, hj, _, rfl⟩ := kill_mem hc' (Ck.live_iff.1 hl').1
    exact .inl (nth_mem hj))
   refine ⟨w', _, .sl m.length 0 (n + kk) (n + kk + sp.length), .inl ?_, hk, hK b 0 (n + kk + sp.length) (by omega) (.inr hfr), hadsk _, by simp [length_setCk], .inr c2'⟩
   rcases hrun with hrun | ⟨_, hrun⟩
   · rw [hrun]
     simp only [SV.va, hadsn, ads_append_new, Ck.ad, Ck.on, cond_true, Ad.at]
   · cases hrun
def knowOf (F : Fam C) (p : Rw (C F.t).α → (C F.te).α) (m : List (Ck C)) (v : SV) : Option (List Prop × Rw (C F.t).α) :=
 match v with
 | .sl kg 0 n mm => match (nth m kg).cells, (nth m (kg + 1)).cells, (nth m (kg + 1)).wr with
   | .rows t l, .rows te ys, true => if h : t = F.t ∧ te = F.te then some ((nth m kg).there ++ [castL h.2 ys = [p ⟨true, (nth m kg).block, (nth m kg).base, mm, castL h.1 l⟩], n = (castL h.1 l).length], ⟨true, (nth m kg).block, (nth m kg).base, mm, castL h.1 l⟩) else none
   | _, _, _ => none
 | .nils => some ([], Rw.nil)
 | _ => none
theorem knowOf_ok {F : Fam C} {p : Rw (C F.t).α → (C F.te).α} (hp : F.put = some p) {m : List (Ck C)} {v : SV} {ps : List Prop} {r : Rw (C F.t).α} (h : knowOf F p m v = some (ps, r)) (hps : allOf ps) : v.va (ads m) = r.val ∧ OneOf m true F.te (p r) := by
 have hG := F.gro p hp
 unfold knowOf at h
 split at h <;> try contradiction
 · rename_i kg n mm
   split at h <;> try contradiction
   rename_i t l te ys hc1 hc2 hw
   split at h <;> try contradiction
   rename_i hte
   simp only [Option.some.injEq, Prod.mk.injEq] at h
   obtain ⟨rfl, rfl⟩ := h
   obtain ⟨rfl, rfl⟩ := hte
   simp only [castL_self] at hps ⊢
   obtain ⟨h1, h2, h3, _⟩ := (allOf_append _ _).1 hps
   have hon := Ck.there_ok h1
   have hao : (ads m kg).on = true := hon
   refine ⟨?_, .inl ⟨_, nth_mem (lt_of_alive (show (nth m (kg + 1)).alive = true by simp [Ck.alive, hc2])), .of_rows hc2 (by rw [h2]; simp), fun _ _ => hw⟩⟩
   simp only [SV.va, hao, cond_true, Rw.val, h3]
   simp [ads, Ck.ad, Ad.at]
 · simp only [Option.some.injEq, Prod.mk.injEq] at h
   obtain ⟨rfl, rfl⟩ := h
   refine ⟨rfl, .inr ⟨by rw [hG.blks]; rfl, fun w => hG.good w _ ⟨⟨rfl, rfl⟩, fun h => by cases h⟩⟩⟩
structure PutHit (C : Nat → Codec) where
 F : Fam C
 p : Rw (C F.t).α → (C F.te).α
 hp : F.put = some p
def findPutE (te : Nat) : List (Fam C) → Option { H : PutHit C // H.F.te = te }
 | [] => none
 | F :: r => match hp : F.put with
   | some p => if h : F.te = te then some ⟨⟨F, p, hp⟩, h⟩ else findPutE te r
   | none => findPutE te r
def stoOf (P : Program) (fams : List (Fam C)) (tm : Tm) (m : List (Ck C)) (al : List (Nat × Bool)) (o : Op) : Option (List Prop × List (Ck C)) :=
 match fams with
 | [] => none
 | _ :: _ => match o with
   | .store t a v => match ev tm m al a, ev tm m al v with
     | some (.ptr c i 0), some x => match (nth m c).cells, (nth m c).wr with
       | .rows te l, true => match findPutE te fams, aggTy P t, zo (P.cellsOf t) 1 with
         | some ⟨H, h⟩, some false, true => match knowOf H.F H.p m x with
           | some (ps, r) => some ((nth m c).there ++ ((i < l.length) :: ps), setCk m c (.rows te (l.set i (h ▸ H.p r))))
           | none => none
         | _, _, _ => none
       | _, _ => none
     | _, _ => none
   | .mapUpdate t x k v => match P.underlying t, ev tm m al x, ev tm m al k, ev tm m al v with
     | some (.map kt vt), some (.mp c), some kv, some vv => match (nth m c).sure with
       | .mp tk tv l clk => match (nth m c).wr && (zo kt tk && zo vt tv), decV (C tk) kv, findPutE tv fams with
         | true, some q, some ⟨H, h⟩ => match knowOf H.F H.p m vv with
           | some (ps, r) => some (KeyOK P tk (C tk) :: ps, setCk m c (.mp tk tv (mput (C tk) (C tv) l q (h ▸ H.p r) clk) (mclk (C tk) (C tv) l q clk)))
           | none => none
         | _, _, _ => none
       | _ => none
     | _, _, _, _ => none
   | _ => none
theorem packV_put {F : Fam C} {p : Rw (C F.t).α → (C F.te).α} (hp : F.put = some p) (r : Rw (C F.t).α) : packV (C F.te) (p r) = r.val := by
 have hG := F.gro p hp
 unfold packV
 rw [hG.agg, hG.enc]; rfl
theorem stoOf_ok {P : Program} {S : Sx} {w0 w : World} {N : Nat} {fams : List (Fam C)} {tm : Tm} {m : List (Ck C)} {a : Act} (h : ActOK (ads m) N tm a) (hm : MemOK S w0 w m) {al : List (Nat × Bool)} (ha : AlOK tm al) {o : Oper} {ps : List Prop} {m' : List (Ck C)}
 (hf : stoOf P fams tm m al o.op = some (ps, m')) {K : SV → List (Ck C) → Tr} (hKK : (conj ps (K .undef m')).holds) : Left P S w0 tm m w (execOp a.eval o) K := by
 obtain ⟨hps, hK⟩ := (conj_iff _ _).1 hKK
 clear hKK
 obtain ⟨dst, op, ty, pos, after, g⟩ := o
 unfold stoOf at hf
 simp only at hf
 split at hf <;> try contradiction
 split at hf <;> try contradiction
 · rename_i t x y
   split at hf <;> try contradiction
   rename_i c i v hx hy
   split at hf <;> try contradiction
   rename_i te l hcl hwr
   split at hf <;> try contradiction
   rename_i H hte _ hag hsz
   split at hf <;> try contradiction
   rename_i qs r hk
   simp only [Option.some.injEq, Prod.mk.injEq] at hf
   obtain ⟨rfl, rfl⟩ := hf
   obtain ⟨F, p, hp⟩ := H
   simp only at hte hk
   subst hte
   simp only at hps hK
   obtain ⟨hth, hi, hqs⟩ := (allOf_append _ _).1 hps
   have hon := Ck.there_ok hth
   have hi : i < l.length := hi
   obtain ⟨hv, hone⟩ := knowOf_ok hp hk hqs
   have hG := F.gro p hp
   have e1 := ev_ok h hm.glob ha _ _ hx
   have e2 := ev_ok h hm.glob ha _ _ hy
   have hc := lt_of_alive (show (nth m c).alive = true by simp [Ck.alive, hcl])
   have hlive : (nth m c).live = true := by simp [Ck.live, Ck.alive, hcl, hon]
   have hok := hm.ok _ (nth_mem hc) hon
   simp only [Ck.ok, hcl, hG.sz] at hok
   obtain ⟨hcs, hok⟩ := hok
   have hv1 : r.val.cells = #[r.val] := by unfold Rw.val; split <;> rfl
   have hv2 : r.val.oneCell' = true := by unfold Rw.val; split <;> rfl
   have hn1 : P.cellsOf t = 1 := zr hsz
   obtain ⟨g1, g2, g3, g4, g5⟩ := heap_setCells (nth m c).block [r.val] ((nth m c).base + (i * (nth m c).sz + 0)) w
   have hsome : ∀ j, j < [r.val].length → (w.cell? ⟨(nth m c).block, (nth m c).base + (i * (nth m c).sz + 0) + j, none⟩).isSome = true := by
    intro j hj
    obtain rfl : j = 0 := by simp at hj; omega
    have := hok i hi 0 (by omega)
    simp only [Ck.ad, Ad.at] at this
    rw [xb ((nth m c).base + _), this]; rfl
   have hst := run_storeCells_cells (P := P) (nth m c).block ((nth m c).base + (i * (nth m c).sz + 0)) [r.val] 0 w (fun j hj => by simpa using hsome j hj) (fun j _ => hm.wrok _ (nth_mem hc) hwr hlive _ rfl) (by simp [hv2])
   have hrun : (storeVar t ((ads m c).at i 0) r.val).run P w = .ok () (w.setCells (nth m c).block ((nth m c).base + (i * (nth m c).sz + 0)) [r.val]) := by
    unfold storeVar
    simp only [Sem.run_bind, run_sizeOf0 (show P.cellsOf t ≠ 0 by omega), Result.andThen_ok, ne_eq, hv1]
    simpa [ads, Ck.ad, Ad.at, hn1] using hst
   refine ⟨_, _, .undef, .inr ⟨?_, rfl⟩, hm.upd hwr hlive g3 g4 g5 g2 g1 (fun a => World.frozen?_setCells _ _ _ _ _) (.rows F.te (l.set i (p r))) (by simp [Ck.live, Ck.alive, Ck.on] at hon ⊢; exact hon) ?_ (CsIn.rows (RowsOf.put (RowsOf.of (nth_mem hc) hcl (fun _ _ => hwr) fun _ h => h) hone i)), hK, fun k _ => by rw [ads_setCk], by rw [length_setCk]; exact zy _, .inl ⟨length_setCk .., ads_setCk ..⟩⟩
   · simp [execOp, Instr.storeAt, e1, e2, SV.va, Instr.sureAddr, hv, hrun]
   · refine ⟨by rw [hG.sz]; exact hcs, fun k hk f hf => ?_⟩
     have hf0 : f = 0 := by
      rw [hG.sz] at hf; omega
     subst hf0
     rw [List.length_set] at hk
     have e0 : ({ nth m c with cells := .rows F.te (l.set i (p r)) } : Ck C).ad.at k 0 = ⟨(nth m c).block, (nth m c).base + (k * (nth m c).sz + 0), none⟩ := rfl
     rw [e0]
     by_cases hki : k = i
     · subst hki
       have h1 := World.cell?_setCells_in (nth m c).block [r.val] ((nth m c).base + (k * (nth m c).sz + 0)) w hsome 0 (by simp)
       rw [xb ((nth m c).base + _)] at h1
       rw [h1]
       have e3 : (l.set k (p r)).getD k (C F.te).dflt = p r := by rw [zz, List.getElem?_set_self hk]; rfl
       rw [e3, hG.enc]; rfl
     · rw [World.cell?_setCells_out]
       · have h1 := hok k hk 0 (by omega)
         have e3 : (l.set i (p r)).getD k (C F.te).dflt = l.getD k (C F.te).dflt := by
          rw [zz, List.getElem?_set_ne (Ne.symm hki), ← zz]
         rw [e3]; exact h1
       · intro _ _
         simp only [wt, hcs]
         omega
 · rename_i t x k v
   split at hf <;> try contradiction
   rename_i kt vt c kv vv ht hx hk hv
   split at hf <;> try contradiction
   rename_i tk tv l clk hc
   split at hf <;> try contradiction
   rename_i q H hte hb hq _
   split at hf <;> try contradiction
   rename_i qs r hkn
   simp only [Option.some.injEq, Prod.mk.injEq] at hf
   obtain ⟨rfl, rfl⟩ := hf
   obtain ⟨F, p, hp⟩ := H
   simp only at hte hkn
   subst hte
   simp only [zx] at hb
   have e1 := zr hb.2.1
   have e2 := zr hb.2.2
   subst e1; subst e2
   simp only at hps hK
   obtain ⟨hKey, hqs⟩ := hps
   obtain ⟨hva, hone⟩ := knowOf_ok hp hkn hqs
   have ex := ev_ok h hm.glob ha _ _ hx
   have ek := ev_ok h hm.glob ha _ _ hk
   have ev' := ev_ok h hm.glob ha _ _ hv
   rw [← decV_ok hq (ads m)] at ek
   rw [hva, ← packV_put hp] at ev'
   obtain ⟨hcc, hon⟩ := Ck.sure_ok hc (by simp)
   have hlv : (nth m c).live = true := by simp [Ck.live, Ck.alive, hcc, hon]
   have hbl := mp_heap hm hc
   have hr := run_mapPut ht hKey hbl q (p r)
   have hlt := heap_size_of hbl
   refine ⟨_, _, .undef, .inr ⟨?_, rfl⟩, hm.putO hb.1 hlv hbl fz_map (o' := .map ((mput (C kt) (C F.te) l q (p r) clk).map (entryOf (C kt) (C F.te))).toArray (mclk (C kt) (C F.te) l q clk)) fz_map (.mp kt F.te (mput (C kt) (C F.te) l q (p r) clk) (mclk (C kt) (C F.te) l q clk)) (by simp [Ck.live, Ck.alive, Ck.on] at hon ⊢; exact hon) (by simp only [Ck.ok]; exact World.putObj_heap_same hlt) (CsIn.mp fun e he => by
    rcases mput_val he with he | he
    · rw [he]; exact hone
    · exact OneOf.ent hcc hb.1 he), hK, fun k _ => by rw [ads_setCk], by rw [length_setCk]; exact zy _, .inl ⟨length_setCk .., ads_setCk ..⟩⟩
   simp [execOp, ex, ek, ev', SV.va, hr]
   rfl
end Go.Vx
namespace Go.Vx
open Go
variable {C : Nat → Codec}
def pickB (x : Bool) (A B : SB) : SB :=
 match A, B with
 | .t, .t => .t
 | .f, .f => .f
 | .t, .f => .tm x
 | .f, .t => .tm (!x)
 | .t, B => .tm (x || B.val)
 | .f, B => .tm (!x && B.val)
 | A, .f => .tm (x && A.val)
 | A, .t => .tm (!x || A.val)
 | A, B => .tm (bif x then A.val else B.val)
theorem pickB_ok (x : Bool) (A B : SB) : (pickB x A B).val = if x then A.val else B.val := by
 cases x <;> cases A <;> cases B <;> simp [pickB, SB.val]
def pickP (tm : Tm) (m : List (Ck C)) (al : List (Nat × Bool)) (o : Op) : Ans :=
 match o with
 | .pick (.tmp tc) a b => match ev tm m al (.tmp tc) with
   | some (.bool .t) => (ev tm m al a).map fun v => ([], v)
   | some (.bool .f) => (ev tm m al b).map fun v => ([], v)
   | some (.bool (.tm x)) => match ev tm m (al ++ [(tc, true)]) a, ev tm m (al ++ [(tc, false)]) b with
     | some (.bool A), some (.bool B) => some ([], .bool (pickB x A B))
     | some .undef, some (.bool B) => some ([x = false], .bool B)
     | some (.bool A), some .undef => some ([x = true], .bool A)
     | _, _ => none
   | _ => none
 | _ => none
theorem pickP_ok {P : Program} {n : Nat} {tm : Tm} {m : List (Ck C)} {a : Act} (h : ActOK (ads m) n tm a) (hg : GlOK m) {al : List (Nat × Bool)} (ha : AlOK tm al) {o : Oper} {ps : List Prop} {r : SV}
 (hp : pickP tm m al o.op = some (ps, r)) (hps : allOf ps) (w : World) : (execOp a.eval o).run P w = .ok (.value (r.va (ads m))) w := by
 obtain ⟨dst, op, ty, pos, after, g⟩ := o
 simp only at hp
 cases op <;> simp only [pickP] at hp <;> try contradiction
 rename_i c x y
 cases c <;> simp only at hp <;> try contradiction
 rename_i tc
 split at hp <;> try (first | contradiction | exact False.elim hp)
 · rename_i hc
   cases hx : ev tm m al x with
   | none => simp [hx] at hp
   | some v =>
     simp only [hx, yu, Option.some.injEq, Prod.mk.injEq] at hp
     obtain ⟨rfl, rfl⟩ := hp
     simp [execOp, ev_ok h hg ha _ _ hc, ev_ok h hg ha _ _ hx, SV.va, SB.val, asBool]
 · rename_i hc
   cases hy : ev tm m al y with
   | none => simp [hy] at hp
   | some v =>
     simp only [hy, yu, Option.some.injEq, Prod.mk.injEq] at hp
     obtain ⟨rfl, rfl⟩ := hp
     simp [execOp, ev_ok h hg ha _ _ hc, ev_ok h hg ha _ _ hy, SV.va, SB.val, asBool]
 · rename_i b hc
   have hcond : condAt tm tc = some b := by
    simp only [ev] at hc
    unfold condAt
    cases hg' : get tm tc with
    | junk => simp [hg', strip] at hc
    | cnd cs v =>
      simp only [hg', strip] at hc
      split at hc
      · cases v <;> simp_all [SB.val]
      · cases hc
    | bool s => simp only [hg', strip, Option.some.injEq, SV.bool.injEq] at hc; simp [hc, SB.val]
    | _ => simp [hg', strip] at hc
   have hval := ev_ok h hg ha _ _ hc
   have ha' : AlOK tm (al ++ [(tc, b)]) := by
    intro p hp
    rcases List.mem_append.1 hp with hp | hp
    · exact ha p hp
    · simp at hp; subst hp; exact hcond
   split at hp <;> try (first | contradiction | exact False.elim hp)
   · rename_i A B hA hB
     simp only [Option.some.injEq, Prod.mk.injEq] at hp
     obtain ⟨rfl, rfl⟩ := hp
     cases b with
     | true =>
       have := ev_ok h hg ha' _ _ hA
       have hv : a.eval (.tmp tc) = .bool true := hval
       simp [execOp, hv, this, SV.va, asBool, pickB_ok]
     | false =>
       have := ev_ok h hg ha' _ _ hB
       have hv : a.eval (.tmp tc) = .bool false := hval
       simp [execOp, hv, this, SV.va, asBool, pickB_ok]
   · rename_i B hA hB
     simp only [Option.some.injEq, Prod.mk.injEq] at hp
     obtain ⟨rfl, rfl⟩ := hp
     have hb : b = false := hps.1
     subst hb
     have := ev_ok h hg ha' _ _ hB
     have hv : a.eval (.tmp tc) = .bool false := hval
     simp [execOp, hv, this, SV.va, asBool]
   · rename_i A hA hB
     simp only [Option.some.injEq, Prod.mk.injEq] at hp
     obtain ⟨rfl, rfl⟩ := hp
     have hb : b = true := hps.1
     subst hb
     have := ev_ok h hg ha' _ _ hA
     have hv : a.eval (.tmp tc) = .bool true := hval
     simp [execOp, hv, this, SV.va, asBool]
inductive PTree where
 | nil
 | p (i : Nat) (r : PTree)
 | q (i : Nat) (r : PTree)
 | e (i : Nat) (r : PTree)
 | f (i : Nat) (r : PTree)
 | two (i : Nat) (a : PTree) (j : Nat) (b : PTree)
inductive Tk where
 | p (i : Nat)
 | q (i : Nat)
 | e (i : Nat)
 | f (i : Nat)
 | t (r : PTree)
def PTree.of : List Tk → PTree
 | [] => .nil
 | .p i :: r => .p i (PTree.of r)
 | .q i :: r => .q i (PTree.of r)
 | .e i :: r => .e i (PTree.of r)
 | .f i :: r => .f i (PTree.of r)
 | .t r :: _ => r
def PTree.len : PTree → Nat
 | .nil => 0
 | .p _ r => r.len + 1
 | .q _ r => r.len + 1
 | .e _ r => r.len + 1
 | .f _ r => r.len + 1
 | .two _ a _ _ => a.len + 1
structure Env (P : Program) (C : Nat → Codec) where
 fcs : List (Fc P C)
 pcs : List (Pc P C)
 n : Nat
 plans : List (Nat × List Nat × List Tk) := []
 fams : List (Fam C) := []
 famw : List (FamW C) := []
def Plain (C : Nat → Codec) (a : Addr) : Prop := ∃ (g : Nat) (c : Array Value) (t : TypeId), (a.block, Obj.cells c t (0, 0)) ∈ (C g).gpins
def eqPtr (P : Program) (C : Nat → Codec) (t1 t2 : TypeId) (a b : Addr) : Option (List Prop × SB) :=
 match zo t1 t2 with
 | false => some ([], .f)
 | true => match P.underlying t1, P.info? t1 with
   | some (.pointer te), some i => match P.info? te with
     | some j => match i.comparable, zo j.size 0 with
       | true, false => some ([Plain C a, Plain C b], .tm (decide (a = b)))
       | _, _ => none
     | none => none
   | _, _ => none
def eqQ (P : Program) (tm : Tm) (m : List (Ck C)) (al : List (Nat × Bool)) (o : Op) : Ans :=
 match o with
 | .binOp op t x y _ => match ev tm m al x, ev tm m al y with
   | some (.ifc t1 (.val (.pointer (some a)))), some (.ifc t2 (.val (.pointer (some b)))) => match P.underlying t with
     | some (.interface _) => match op with
       | .eql => (eqPtr P C t1 t2 a b).map fun (ps, s) => (ps, .bool s)
       | .neq => (eqPtr P C t1 t2 a b).map fun (ps, s) => (ps, .bool s.neg)
       | _ => none
     | _ => none
   | _, _ => none
 | _ => none
theorem eqPtr_ok {P : Program} {S : Sx} {w0 w : World} {m : List (Ck C)} (hm : MemOK S w0 w m) {t : TypeId} {ms : Array (String × TypeId)} (ht : P.underlying t = some (.interface ms)) {t1 t2 : TypeId} {a b : Addr} {ps : List Prop} {s : SB}
 (h : eqPtr P C t1 t2 a b = some (ps, s)) (hp : allOf ps) : (Op.equal t (.iface t1 (.pointer (some a))) (.iface t2 (.pointer (some b)))).run P w = .ok s.val w := by
 unfold eqPtr at h
 split at h
 · rename_i hne
   simp only [Option.some.injEq, Prod.mk.injEq] at h
   obtain ⟨_, rfl⟩ := h
   have hne : t1 ≠ t2 := xx hne
   have key : ∀ d : Nat, (Op.equalIn (d + 1) t (.iface t1 (.pointer (some a))) (.iface t2 (.pointer (some b)))).run P w = .ok false w := fun d => by
    simp [Op.equalIn, run_underlying' ht, hne]
   exact key 9999
 · rename_i he
   have he : t1 = t2 := zr he
   subst he
   split at h <;> try contradiction
   rename_i te i hu hi
   split at h <;> try contradiction
   rename_i j hj
   split at h <;> try contradiction
   rename_i hc hs
   simp only [Option.some.injEq, Prod.mk.injEq] at h
   obtain ⟨rfl, rfl⟩ := h
   have hs : j.size ≠ 0 := xx hs
   obtain ⟨⟨g, c, u, hg⟩, ⟨g', c', u', hg'⟩, _⟩ := hp
   have ha := (hm.more.gp g _ hg).1
   have hb := (hm.more.gp g' _ hg').1
   by_cases hab : a = b
   · subst hab
     simp only [SB.val, decide_true]
     exact run_equalIn_iface_ptr_same w 9998 a ht hu hi hc hj
   · simp only [Op.equal, Op.maxDepth, run_equalIn_iface_ptr_other w 9998 ht hu hi hc hj hs hab ha hb, SB.val, decide_eq_false hab]
theorem eqQ_ok {P : Program} {S : Sx} {w0 w : World} {n : Nat} {tm : Tm} {m : List (Ck C)} {a : Act} (h : ActOK (ads m) n tm a) (hm : MemOK S w0 w m) {al : List (Nat × Bool)} (ha : AlOK tm al) {o : Oper} {ps : List Prop} {r : SV}
 (hl : eqQ P tm m al o.op = some (ps, r)) (hp : allOf ps) : (execOp a.eval o).run P w = .ok (.value (r.va (ads m))) w := by
 obtain ⟨dst, op, type, pos, after, guard⟩ := o
 simp only at hl
 cases op <;> simp only [eqQ] at hl <;> try contradiction
 case binOp bo t x y yt =>
  split at hl <;> try contradiction
  rename_i t1 a1 t2 b1 hx hy
  split at hl <;> try contradiction
  rename_i ms ht
  have ex := ev_ok h hm.glob ha _ _ hx
  have ey := ev_ok h hm.glob ha _ _ hy
  cases bo <;> simp only at hl <;> try contradiction
  · cases he : eqPtr P C t1 t2 a1 b1 with
    | none => simp [he] at hl
    | some q =>
      obtain ⟨qs, s⟩ := q
      simp only [he, yu, Option.some.injEq, Prod.mk.injEq] at hl
      obtain ⟨rfl, rfl⟩ := hl
      have := eqPtr_ok hm ht he hp
      simp [execOp, ex, ey, SV.va, eqGuard, binOp, this]
  · cases he : eqPtr P C t1 t2 a1 b1 with
    | none => simp [he] at hl
    | some q =>
      obtain ⟨qs, s⟩ := q
      simp only [he, yu, Option.some.injEq, Prod.mk.injEq] at hl
      obtain ⟨rfl, rfl⟩ := hl
      have := eqPtr_ok hm ht he hp
      simp [execOp, ex, ey, SV.va, eqGuard, binOp, this]
      cases s <;> simp [SB.val, SB.neg]
def wraps {P : Program} (E : Env P C) : List Nat := match E.plans.find? fun p => zo p.1 2000000 with
 | some (_, F, _) => F
 | none => []
def inW (d : Nat) : List Nat → Bool
 | [] => false
 | x :: r => zo x d || inW d r
def wrapP (W : List Nat) (tm : Tm) (m : List (Ck C)) (al : List (Nat × Bool)) (o : Oper) : Ans :=
 match W with
 | [] => none
 | _ :: _ => match o.dst with
   | some d => match inW d W with
     | true => match o.op with
       | .binOp .add _ x y _ => match ev tm m al x, ev tm m al y with
         | some (.int k a), some (.int k' b) => if sameKind k k' then some ([], .int k (k.wrap (a + b))) else none
         | _, _ => none
       | _ => none
     | false => none
   | none => none
theorem wrapP_ok {P : Program} {n : Nat} {W : List Nat} {tm : Tm} {m : List (Ck C)} {a : Act} (h : ActOK (ads m) n tm a) (hg : GlOK m) {al : List (Nat × Bool)} (ha : AlOK tm al) {o : Oper} {ps : List Prop} {r : SV}
 (hp : wrapP W tm m al o = some (ps, r)) (w : World) : (execOp a.eval o).run P w = .ok (.value (r.va (ads m))) w := by
 obtain ⟨dst, op, type, pos, after, guard⟩ := o
 unfold wrapP at hp
 simp only at hp
 split at hp <;> try contradiction
 split at hp <;> try contradiction
 split at hp <;> try contradiction
 split at hp <;> try contradiction
 rename_i t x y yt
 split at hp <;> try contradiction
 rename_i k p k' q hx hy
 split at hp <;> try contradiction
 rename_i hk
 simp only [Option.some.injEq, Prod.mk.injEq] at hp
 obtain ⟨rfl, rfl⟩ := hp
 have := sameKind_eq hk
 subst this
 have ex := ev_ok h hg ha _ _ hx
 have ey := ev_ok h hg ha _ _ hy
 simp [execOp, ex, ey, SV.va, binOp, Op.intArith, eqGuard]
def pureP {P : Program} (E : Env P C) (tm : Tm) (m : List (Ck C)) (al : List (Nat × Bool)) (o : Oper) : Ans :=
 match wrapP (wraps E) tm m al o with
 | some r => some r
 | none => match pickP tm m al o.op with
   | some r => some r
   | none => pev P (fun c => (nth m c).sz) (fun c => (nth m c).onB) (ev tm m al) o.op
def pureQ {P : Program} (E : Env P C) (tm : Tm) (m : List (Ck C)) (al : List (Nat × Bool)) (o : Op) : Ans :=
 match lev P tm m al o with
 | some r => some r
 | none => match eqQ P tm m al o with
   | some r => some r
   | none => match mapQ P tm m al o with
     | some r => some r
     | none => match strQ P tm m al o with
       | some r => some r
       | none => callQ E.pcs tm m al o
theorem pureP_ok {P : Program} {E : Env P C} {n : Nat} {tm : Tm} {m : List (Ck C)} {a : Act} (h : ActOK (ads m) n tm a) (hg : GlOK m) {al : List (Nat × Bool)} (ha : AlOK tm al) {o : Oper} {ps : List Prop} {r : SV}
 (hp : pureP E tm m al o = some (ps, r)) (hps : allOf ps) (w : World) : (execOp a.eval o).run P w = .ok (.value (r.va (ads m))) w := by
 unfold pureP at hp
 split at hp
 · rename_i r' hr
   simp only [Option.some.injEq] at hp; subst hp
   exact wrapP_ok h hg ha hr w
 split at hp
 · rename_i r' hr
   simp only [Option.some.injEq] at hp; subst hp
   exact pickP_ok h hg ha hr hps w
 · exact pev_ok hp hps (fun _ => rfl) (fun c => (nth m c).on_onB) (ev_ok h hg ha) w
def Reads (P : Program) (S : Sx) (w0 : World) (m : List (Ck C)) (o : Oper) (a : Act) (v : Value) : Prop :=
 ∀ w, MemOK S w0 w m → (execOp a.eval o).run P w = .ok (.value v) w ∨
   ∃ f vals, (execOp a.eval o).run P w = .ok (.enter f vals) w ∧ Calls P f vals w fun e w' => e = .returned v ∧ MemOK S w0 w' m
theorem pureQ_ok {P : Program} {S : Sx} {w0 : World} {E : Env P C} {n : Nat} {tm : Tm} {m : List (Ck C)} {a : Act} (h : ActOK (ads m) n tm a) {al : List (Nat × Bool)} (ha : AlOK tm al) {o : Oper} {ps : List Prop} {r : SV}
 (hp : pureQ E tm m al o.op = some (ps, r)) (hps : allOf ps) : Reads P S w0 m o a (r.va (ads m)) := by
 intro w hm
 unfold pureQ at hp
 split at hp
 · rename_i r' hr
   simp only [Option.some.injEq] at hp; subst hp
   exact .inl (lev_ok h hm ha hr hps)
 · split at hp
   · rename_i r' hr
     simp only [Option.some.injEq] at hp; subst hp
     exact .inl (eqQ_ok h hm ha hr hps)
   · split at hp
     · rename_i r' hr
       simp only [Option.some.injEq] at hp; subst hp
       exact .inl (mapQ_ok h hm ha hr hps)
     · split at hp
       · rename_i r' hr
         simp only [Option.some.injEq] at hp; subst hp
         exact .inl (strQ_ok h hm ha hr hps)
       · exact .inr (callQ_ok h hm ha hp hps)
theorem Reads.wp {P : Program} {S : Sx} {w0 w : World} {m : List (Ck C)} {o : Oper} {a : Act} {v : Value} (h : Reads P S w0 m o a v) (hm : MemOK S w0 w m)
 {next : Act → World → Prop} {Q : Exit → Act → World → Prop} (hn : ∀ w', MemOK S w0 w' m → next (a.put o.dst v) w') : o.wp P a w next Q := by
 unfold Oper.wp
 rcases h w hm with h1 | ⟨f, vals, h1, h2⟩
 · rw [h1]; exact hn w hm
 · rw [h1]
   exact h2.mono fun e w' ⟨he, hm'⟩ => by subst he; exact hn w' hm'
def imp : List (Nat × Bool × Bool) → Prop → Prop
 | [], p => p
 | (_, w, b) :: r, p => b = w → imp r p
def impT : List (Nat × Bool × Bool) → Prop → Tr
 | [], p => .lf p
 | (_, w, b) :: r, p => .imp (b = w) (impT r p)
theorem impT_imp : ∀ {cs : List (Nat × Bool × Bool)} {p : Prop}, (impT cs p).holds → imp cs p
 | [], _, h => h
 | (_, _, _) :: _, _, h => fun e => impT_imp (h e)
def asks (cs : List (Nat × Bool × Bool)) : List Prop → Tr → Tr
 | [], X => X
 | p :: r, X => .and (impT cs p) (asks cs r X)
theorem imp_ok : ∀ {cs : List (Nat × Bool × Bool)} {p : Prop}, imp cs p → holds cs = true → p
 | [], _, h, _ => h
 | (_, w, b) :: r, p, h, hh => by
   simp only [holds, zx, beq_iff_eq] at hh
   exact imp_ok (h hh.1) hh.2
theorem asks_ok : ∀ {cs : List (Nat × Bool × Bool)} {ps : List Prop} {X : Tr}, asks cs ps X → X.holds ∧ (holds cs = true → allOf ps)
 | _, [], _, h => ⟨h, fun _ => trivial⟩
 | _, _ :: _, _, h => ⟨(asks_ok h.2).1, fun hh => ⟨imp_ok (impT_imp h.1) hh, (asks_ok h.2).2 hh⟩⟩
def alOf (cs : List (Nat × Bool × Bool)) : List (Nat × Bool) := cs.map fun c => (c.1, c.2.1)
theorem alOf_ok {tm : Tm} {cs : List (Nat × Bool × Bool)} (h : ∀ c ∈ cs, condAt tm c.1 = some c.2.2) (hh : holds cs = true) : AlOK tm (alOf cs) := by
 intro p hp
 obtain ⟨c, hc, rfl⟩ := List.mem_map.1 hp
 have : c.2.2 = c.2.1 := by
  clear h hp
  induction cs with
  | nil => cases hc
  | cons x r ih =>
    obtain ⟨t, w, b⟩ := x
    simp only [holds, zx, beq_iff_eq] at hh
    rcases List.mem_cons.1 hc with rfl | hc
    · exact hh.1
    · exact ih hh.2 hc
 rw [h c hc, this]
def callOf : Op → Option Call
 | .call c => match c.callee with
   | .builtin _ => none
   | _ => some c
 | _ => none
theorem callOf_ok {o : Op} {c : Call} (h : callOf o = some c) : o = .call c := by
 unfold callOf at h
 split at h
 · split at h
   · cases h
   · simp only [Option.some.injEq] at h; rw [h]
 · cases h
def onMaps : Op → Bool
 | .makeMap _ _ => true
 | .mapUpdate _ _ _ _ => true
 | .mapEntry _ _ _ => true
 | .entryStore _ _ _ _ => true
 | .range _ _ => true
 | .next _ _ => true
 | .call c => match c.callee with
   | .builtin .delete => true
   | _ => false
 | _ => false
def eff1 {P : Program} (E : Env P C) (tm : Tm) (m : List (Ck C)) (o : Op) (K : SV → List (Ck C) → Tr) : Tr :=
 match famOf P E.fams tm m [] o with
 | some h => famT h tm m K
 | none => match famWOf P E.famw tm m [] o with
   | some h => famWT P h tm m K
   | none => match growOf P E.fams tm m [] o with
     | some h => growT P h tm m K
     | none => match stoOf P E.fams tm m [] o with
       | some (ps, m') => conj ps (K .undef m')
       | none => match callOf o with
         | some c => callP E.fcs tm m [] c K
         | none => match onMaps o with
           | true => mapE P tm m [] o K
           | false => eev P tm m [] o K
def effG {P : Program} (E : Env P C) (ops : Array Oper) (o : Oper) : Nat → Tm → List (Ck C) → (Tm → List (Ck C) → Tr) → Tr
 | fuel, tm, m, K => match gd ops tm o.guard with
   | .lost => .no
   | .skip => match put? E.n tm o.dst [] .undef with
     | some tm' => K tm' m
     | none => .no
   | .run [] => eff1 E tm m o.op fun v m' => match put? E.n tm o.dst [] v with
     | some tm' => K tm' m'
     | none => .no
   | .run ((t, _, _) :: _) => match fuel with
     | 0 => .no
     | fuel + 1 => match get tm t with
       | .bool (.tm b) => .and (.imp (b = true) (fTm (know t true tm) fun tm' => effG E ops o fuel tm' m K)) (.imp (b = false) (fTm (know t false tm) fun tm' => effG E ops o fuel tm' m K))
       | _ => .no
theorem eev_ok {P : Program} {S : Sx} {w0 w : World} {n : Nat} {tm : Tm} {m : List (Ck C)} {a : Act} (h : ActOK (ads m) n tm a) (hm : MemOK S w0 w m) {al : List (Nat × Bool)} (ha : AlOK tm al) {o : Oper}
 {K : SV → List (Ck C) → Tr} (hl : eev P tm m al o.op K) : Left P S w0 tm m w (execOp a.eval o) K := by
 obtain ⟨dst, op, ty, pos, after, g⟩ := o
 simp only at hl
 cases op
 case store => exact eev_store h hm ha hl
 case alloc => exact eev_alloc hm hl
 case box => exact eev_box h hm ha hl
 case makeSlice => exact eev_make h hm ha hl
 case buildSlice => exact eev_buildSlice h hm ha hl
 case call => exact eev_append h hm ha hl
 all_goals exact hl.elim
theorem Left.opTo {P : Program} {S : Sx} {w0 w : World} {n : Nat} {tm : Tm} {m : List (Ck C)} {o : Oper} {a : Act} {K : SV → List (Ck C) → Tr} (h : ActOK (ads m) n tm a)
 (hl : Left P S w0 tm m w (execOp a.eval o) K) : OpTo P S w0 n tm m o a w K := by
 obtain ⟨w', m', r, hr, hm', hK, hads, hlen, hlt⟩ := hl.ex
 intro next Q hn
 have ha : ActOK (ads m') n tm a := by
  rcases hlt with ⟨_, e⟩ | hlt
  · rw [e]; exact h
  · exact h.ads hads hlt
 unfold Oper.wp
 rcases hr with hr | ⟨hr, rfl⟩
 · rw [hr]; exact hn _ _ _ _ hK hm' ha rfl ⟨hlen, hads⟩
 · rw [hr]; exact hn _ _ _ _ hK hm' ha rfl ⟨hlen, hads⟩
theorem eff1_ok {P : Program} {S : Sx} {w0 w : World} {E : Env P C} {o : Oper} {tm : Tm} {m : List (Ck C)} {K : Tm → List (Ck C) → Tr}
 (hs : eff1 E tm m o.op fun v m' => match put? E.n tm o.dst [] v with | some tm' => K tm' m' | none => .no) {a : Act}
 (h : ActOK (ads m) E.n tm a) (hm : MemOK S w0 w m) {next : Act → World → Prop} {Q : Exit → Act → World → Prop}
 (hn : ∀ tm' m' a' w', K tm' m' → ActOK (ads m') E.n tm' a' → MemOK S w0 w' m' → (m.length ≤ m'.length ∧ ∀ k, k < m.length → ads m k = ads m' k) → next a' w') : o.wp P a w next Q := by
 have fin : OpTo P S w0 E.n tm m o a w (fun v m' => match put? E.n tm o.dst [] v with | some tm' => K tm' m' | none => .no) → o.wp P a w next Q := by
  intro ho
  refine ho next Q ?_
  intro r m' w' v hK hm' ha' hv hads
  dsimp only at hK
  split at hK <;> try (first | contradiction | exact False.elim hK)
  rename_i tm' hp
  exact hn _ _ _ _ hK (put_ok ha' hp (by simp) _ hv) hm' hads
 have hnil : AlOK tm [] := by intro p hp; cases hp
 unfold eff1 at hs
 split at hs
 · rename_i ht hf
   obtain ⟨v, m', hr, hK, hiff, ha', _, hl, hads⟩ := famT_ok (S := S) (w0 := w0) h hm.glob hnil hf hs
   refine fin fun next Q hn => ?_
   unfold Oper.wp
   rw [hr w hm]
   exact hn _ _ _ _ hK ((hiff w).1 hm) ha' rfl ⟨hl, fun k hk => (hads k hk).1⟩
 · split at hs
   · rename_i ht hf
     exact fin ((famWT_ok h hm hnil hf hs).opTo h)
   · split at hs
     · rename_i ht hf
       exact fin ((growT_ok h hm hnil hf hs).opTo h)
     · split at hs
       · rename_i ps m' hf
         exact fin ((stoOf_ok h hm hnil hf hs).opTo h)
       · split at hs
         · rename_i c hc
           obtain ⟨dst, op, ty, pos, after, g⟩ := o
           have e := callOf_ok hc
           simp only at e
           subst e
           exact fin (callP_ok h hm hnil hs)
         · split at hs
           · exact fin ((mapE_ok h hm hnil hs).opTo h)
           · exact fin ((eev_ok h hm hnil hs).opTo h)
theorem effG_ok {P : Program} {S : Sx} {w0 w : World} {E : Env P C} {ops : Array Oper} {o : Oper} {m : List (Ck C)} {K : Tm → List (Ck C) → Tr} {a : Act}
 (hm : MemOK S w0 w m) {next : Act → World → Prop} {Q : Exit → Act → World → Prop}
 (hn : ∀ tm' m' a' w', K tm' m' → ActOK (ads m') E.n tm' a' → MemOK S w0 w' m' → (m.length ≤ m'.length ∧ ∀ k, k < m.length → ads m k = ads m' k) → next a' w') : ∀ (fuel : Nat) (tm : Tm), effG E ops o fuel tm m K → ActOK (ads m) E.n tm a →
 (Region.wanted o (yielded ops a.tmps) = true → o.wp P a w next Q) ∧ (Region.wanted o (yielded ops a.tmps) = false → next (a.put o.dst Go.undef) w)
 | fuel, tm, hs, h => by
   have h1 : ∀ hg : gd ops tm o.guard = .skip, ∀ tm', put? E.n tm o.dst [] .undef = some tm' → K tm' m → (Region.wanted o (yielded ops a.tmps) = true → o.wp P a w next Q) ∧ (Region.wanted o (yielded ops a.tmps) = false → next (a.put o.dst Go.undef) w) := by
    intro hg tm' hp hk
    have hw := gd_skip h hg
    exact ⟨fun e => (by rw [hw] at e; cases e), fun _ => hn _ _ _ _ hk (put_ok h hp (by simp) _ rfl) hm ⟨zy _, fun _ _ => rfl⟩⟩
   have h2 : gd ops tm o.guard = .run [] → (eff1 E tm m o.op fun v m' => match put? E.n tm o.dst [] v with | some tm' => K tm' m' | none => .no) →
    (Region.wanted o (yielded ops a.tmps) = true → o.wp P a w next Q) ∧ (Region.wanted o (yielded ops a.tmps) = false → next (a.put o.dst Go.undef) w) := by
    intro hg hk
    obtain ⟨hw, _⟩ := gd_run h hg
    exact ⟨fun _ => eff1_ok hk h hm hn, fun e => (by rw [hw] at e; cases e)⟩
   cases fuel with
   | zero =>
     unfold effG at hs
     split at hs <;> try (first | contradiction | exact False.elim hs)
     · rename_i hg
       split at hs <;> try (first | contradiction | exact False.elim hs)
       rename_i tm' hp
       exact h1 hg tm' hp hs
     · rename_i hg
       exact h2 hg hs
   | succ fuel =>
     unfold effG at hs
     split at hs <;> try (first | contradiction | exact False.elim hs)
     · rename_i hg
       split at hs <;> try (first | contradiction | exact False.elim hs)
       rename_i tm' hp
       exact h1 hg tm' hp hs
     · rename_i hg
       exact h2 hg hs
     · simp only at hs
       split at hs <;> try (first | contradiction | exact False.elim hs)
       rename_i b ht
       have hk := know_ok h ht
       cases b with
       | true => exact effG_ok hm hn fuel _ (by simpa only [fTm_eq] using hs.1 rfl) hk
       | false => exact effG_ok hm hn fuel _ (by simpa only [fTm_eq] using hs.2 rfl) hk
def famQ {P : Program} (E : Env P C) (ops : Array Oper) (o : Oper) : Nat → Tm → List (Ck C) → (Tm → List (Ck C) → Tr) → Tr
 | fuel, tm, m, K => match gd ops tm o.guard with
   | .lost => .no
   | .skip => match put? E.n tm o.dst [] .undef with
     | some tm' => K tm' m
     | none => .no
   | .run [] => match famOf P E.fams tm m [] o.op with
     | some h => famT h tm m fun v m' => match put? E.n tm o.dst [] v with
       | some tm' => fM m' fun m' => K tm' m'
       | none => .no
     | none => .no
   | .run ((t, _, _) :: _) => match fuel with
     | 0 => .no
     | fuel + 1 => match get tm t with
       | .bool (.tm b) => .and (.imp (b = true) (fTm (know t true tm) fun tm' => famQ E ops o fuel tm' m K)) (.imp (b = false) (fTm (know t false tm) fun tm' => famQ E ops o fuel tm' m K))
       | _ => .no
theorem famQ_ok {P : Program} {S : Sx} {w0 : World} {E : Env P C} {ops : Array Oper} {o : Oper} {m : List (Ck C)} {K : Tm → List (Ck C) → Tr} {a : Act} (hg : GlOK m) : ∀ (fuel : Nat) (tm : Tm), (famQ E ops o fuel tm m K).holds → ActOK (ads m) E.n tm a →
 ∃ v tm' m', ((Region.wanted o (yielded ops a.tmps) = true ∧ ∀ w, MemOK S w0 w m → (execOp a.eval o).run P w = .ok (.value v) w) ∨ (Region.wanted o (yielded ops a.tmps) = false ∧ v = Go.undef)) ∧
   (K tm' m').holds ∧ ActOK (ads m') E.n tm' (a.put o.dst v) ∧ (∀ w, MemOK S w0 w m ↔ MemOK S w0 w m') ∧ GlOK m' ∧ (m.length ≤ m'.length ∧ ∀ k, k < m.length → ads m k = ads m' k ∧ nth m' k = nth m k)
 | fuel, tm, hs, h => by
   have h1 : gd ops tm o.guard = .skip → ∀ tm', put? E.n tm o.dst [] .undef = some tm' → (K tm' m).holds → _ := fun hgd tm' hp hk =>
    (⟨Go.undef, tm', m, .inr ⟨gd_skip h hgd, rfl⟩, hk, put_ok h hp (by simp) _ rfl, fun _ => Iff.rfl, hg, zy _, fun _ _ => ⟨rfl, rfl⟩⟩ :
      ∃ v tm' m', ((Region.wanted o (yielded ops a.tmps) = true ∧ ∀ w, MemOK S w0 w m → (execOp a.eval o).run P w = .ok (.value v) w) ∨ (Region.wanted o (yielded ops a.tmps) = false ∧ v = Go.undef)) ∧
    (K tm' m').holds ∧ ActOK (ads m') E.n tm' (a.put o.dst v) ∧ (∀ w, MemOK S w0 w m ↔ MemOK S w0 w m') ∧ GlOK m' ∧ (m.length ≤ m'.length ∧ ∀ k, k < m.length → ads m k = ads m' k ∧ nth m' k = nth m k))
   have h2 : gd ops tm o.guard = .run [] → ∀ ht, famOf P E.fams tm m [] o.op = some ht → (famT ht tm m fun v m' => match put? E.n tm o.dst [] v with
    | some tm' => fM m' fun m' => K tm' m'
    | none => .no).holds → ∃ v tm' m', ((Region.wanted o (yielded ops a.tmps) = true ∧ ∀ w, MemOK S w0 w m → (execOp a.eval o).run P w = .ok (.value v) w) ∨ (Region.wanted o (yielded ops a.tmps) = false ∧ v = Go.undef)) ∧
    (K tm' m').holds ∧ ActOK (ads m') E.n tm' (a.put o.dst v) ∧ (∀ w, MemOK S w0 w m ↔ MemOK S w0 w m') ∧ GlOK m' ∧ (m.length ≤ m'.length ∧ ∀ k, k < m.length → ads m k = ads m' k ∧ nth m' k = nth m k) := by
    intro hgd ht hf hk
    obtain ⟨hw, _⟩ := gd_run h hgd
    obtain ⟨v, m', hr, hK, hiff, ha', hg', hl, hads⟩ := famT_ok (S := S) (w0 := w0) h hg (al := []) (by intro p hp; cases hp) hf hk
    split at hK <;> try (first | contradiction | exact False.elim hK)
    rename_i tm' hp
    rw [fM_eq] at hK
    exact ⟨v.va (ads m'), tm', m', .inl ⟨hw, hr⟩, hK, put_ok ha' hp (by simp) _ rfl, hiff, hg', hl, hads⟩
   cases fuel with
   | zero =>
     unfold famQ at hs
     split at hs <;> try (first | contradiction | exact False.elim hs)
     · rename_i hgd
       split at hs <;> try (first | contradiction | exact False.elim hs)
       rename_i tm' hp
       exact h1 hgd tm' hp hs
     · rename_i hgd
       split at hs <;> try (first | contradiction | exact False.elim hs)
       rename_i ht hf
       exact h2 hgd ht hf hs
   | succ fuel =>
     unfold famQ at hs
     split at hs <;> try (first | contradiction | exact False.elim hs)
     · rename_i hgd
       split at hs <;> try (first | contradiction | exact False.elim hs)
       rename_i tm' hp
       exact h1 hgd tm' hp hs
     · rename_i hgd
       split at hs <;> try (first | contradiction | exact False.elim hs)
       rename_i ht hf
       exact h2 hgd ht hf hs
     · simp only at hs
       split at hs <;> try (first | contradiction | exact False.elim hs)
       rename_i b ht
       have hk := know_ok h ht
       cases b with
       | true => exact famQ_ok hg fuel _ (by simpa only [fTm_eq] using hs.1 rfl) hk
       | false => exact famQ_ok hg fuel _ (by simpa only [fTm_eq] using hs.2 rfl) hk
theorem memEq {S : Sx} {w0 : World} {m m' : List (Ck C)} (h : ∀ w, MemOK S w0 w m ↔ MemOK S w0 w m') : (fun w => MemOK S w0 w m) = (fun w => MemOK S w0 w m') := funext fun w => propext (h w)
def stepP {P : Program} (E : Env P C) (ops : Array Oper) (o : Oper) (tm : Tm) (m : List (Ck C)) (K : Tm → List (Ck C) → Tr) : Tr :=
 match gd ops tm o.guard with
 | .lost => .no
 | .skip => match put? E.n tm o.dst [] .undef with
   | some tm' => K tm' m
   | none => .no
 | .run cs => match pureP E tm m (alOf cs) o with
   | some (ps, v) => match put? E.n tm o.dst cs v with
     | some tm' => asks cs ps (K tm' m)
     | none => .no
   | none => match famOf P E.fams tm m (alOf cs) o.op with
     | some _ => effG E ops o 8 tm m K
     | none => match pureQ E tm m (alOf cs) o.op with
       | some (ps, v) => match put? E.n tm o.dst cs v with
         | some tm' => asks cs ps (K tm' m)
         | none => .no
       | none => effG E ops o 8 tm m K
def sops {P : Program} (E : Env P C) (ops : Array Oper) : List Oper → Tm → List (Ck C) → (Tm → List (Ck C) → Tr) → Tr
 | [], tm, m, K => K tm m
 | o :: r, tm, m, K => stepP E ops o tm m fun tm' m' => fTm1 tm' fun tm' => fM m' fun m' => sops E ops r tm' m' K
theorem stepP_ok {P : Program} {S : Sx} {w0 w : World} {E : Env P C} {ops : Array Oper} {o : Oper} {tm : Tm} {m : List (Ck C)} {K : Tm → List (Ck C) → Tr} (hs : stepP E ops o tm m K) {a : Act}
 (h : ActOK (ads m) E.n tm a) (hm : MemOK S w0 w m) {next : Act → World → Prop} {Q : Exit → Act → World → Prop}
 (hn : ∀ tm' m' a' w', K tm' m' → ActOK (ads m') E.n tm' a' → MemOK S w0 w' m' → (m.length ≤ m'.length ∧ ∀ k, k < m.length → ads m k = ads m' k) → next a' w') :
 (Region.wanted o (yielded ops a.tmps) = true → o.wp P a w next Q) ∧ (Region.wanted o (yielded ops a.tmps) = false → next (a.put o.dst Go.undef) w) := by
 unfold stepP at hs
 split at hs <;> try (first | contradiction | exact False.elim hs)
 · rename_i hg
   have hw := gd_skip h hg
   split at hs <;> try (first | contradiction | exact False.elim hs)
   rename_i tm' hp
   refine ⟨fun e => (by rw [hw] at e; cases e), fun _ => hn _ _ _ _ hs (put_ok h hp (by simp) _ rfl) hm ⟨zy _, fun _ _ => rfl⟩⟩
 · rename_i cs hg
   obtain ⟨hw, hcs⟩ := gd_run h hg
   split at hs
   · rename_i ps v hpu
     split at hs <;> try (first | contradiction | exact False.elim hs)
     rename_i tm' hp
     obtain ⟨hK, hps⟩ := asks_ok hs
     refine ⟨fun e => ?_, fun e => ?_⟩
     · rw [hw] at e
       have hr := pureP_ok h hm.glob (alOf_ok hcs e) hpu (hps e) w
       unfold Oper.wp
       rw [hr]
       refine hn _ _ _ _ hK (put_ok h hp hcs _ ?_) hm ⟨zy _, fun _ _ => rfl⟩
       cases cs with
       | nil => rfl
       | cons c r => simp [mkc, SV.va, e]
     · rw [hw] at e
       refine hn _ _ _ _ hK (put_ok h hp hcs _ ?_) hm ⟨zy _, fun _ _ => rfl⟩
       cases cs with
       | nil => cases e
       | cons c r => simp [mkc, SV.va, e]
   · split at hs
     · exact effG_ok hm hn 8 tm hs h
     split at hs
     · rename_i ps v hpu
       split at hs <;> try (first | contradiction | exact False.elim hs)
       rename_i tm' hp
       obtain ⟨hK, hps⟩ := asks_ok hs
       refine ⟨fun e => ?_, fun e => ?_⟩
       · rw [hw] at e
         have hr := pureQ_ok (S := S) (w0 := w0) h (alOf_ok hcs e) hpu (hps e)
         refine hr.wp hm fun w' hm' => ?_
         refine hn _ _ _ _ hK (put_ok h hp hcs _ ?_) hm' ⟨zy _, fun _ _ => rfl⟩
         cases cs with
         | nil => rfl
         | cons c r => simp [mkc, SV.va, e]
       · rw [hw] at e
         refine hn _ _ _ _ hK (put_ok h hp hcs _ ?_) hm ⟨zy _, fun _ _ => rfl⟩
         cases cs with
         | nil => cases e
         | cons c r => simp [mkc, SV.va, e]
     · exact effG_ok hm hn 8 tm hs h
end Go.Vx
namespace Go.Vx
open Go
section
variable {P : Program} {ops : Array Oper} {T : Array Bool → World → Prop} {T0 Cl : World → Prop} {Q : Exit → Act → World → Prop} {E : Nat → Bool}
def wpAT (P : Program) (ops : Array Oper) (T : Array Bool → World → Prop) (Q : Exit → Act → World → Prop) : Nat → Array Bool → Act → World → Prop
 | 0, listed, a, w => T listed w ∧ Region.ready .any ops listed = [] ∧ Q .normal a w
 | fuel + 1, listed, a, w =>
   T listed w ∧ (Region.ready .any ops listed = [] → Q .normal a w) ∧
   ∀ i ∈ Region.ready .any ops listed, wpOp P ops Q i (wpAT P ops T Q fuel (listed.setIfInBounds i true)) a w
theorem wpAT_any : ∀ (fuel : Nat) (listed : Array Bool) (a : Act) (w : World), wpAT P ops T Q fuel listed a w → wpAny P .any ops Q fuel listed a w
 | 0, _, _, _, h => ⟨h.2.1, h.2.2⟩
 | fuel + 1, _, _, _, h => ⟨h.2.1, fun i hi => wpOp_mono (fun a' w' hk => wpAT_any fuel _ a' w' hk) (h.2.2 i hi)⟩
def YieldsT (P : Program) (ops : Array Oper) (T0 : World → Prop) (o : Oper) (v : Value) (a : Act) : Prop :=
 (Region.wanted o (yielded ops a.tmps) = true ∧ ∀ w, T0 w → (execOp a.eval o).run P w = .ok (.value v) w) ∨
 (Region.wanted o (yielded ops a.tmps) = false ∧ v = undef)
theorem YieldsT.of_same {o : Oper} {v : Value} {a a' : Act} (hy : YieldsT P ops T0 o v a) (he : execOp a'.eval o = execOp a.eval o)
 (hw : Region.wanted o (yielded ops a'.tmps) = Region.wanted o (yielded ops a.tmps)) : YieldsT P ops T0 o v a' := by
 unfold YieldsT at *; rw [he, hw]; exact hy
theorem YieldsT.wpOp {i : Nat} {o : Oper} {v : Value} {a : Act} (hi : ops[i]? = some o) (hy : YieldsT P ops T0 o v a) {K : Act → World → Prop} {w : World} (hw' : T0 w) (h : K (a.put o.dst v) w) : wpOp P ops Q i K a w := by
 unfold Go.wpOp
 simp only [hi]
 rcases hy with ⟨hw, hv⟩ | ⟨hw, rfl⟩
 · simp only [hw, if_true, Oper.wp, hv w hw', Oper.upon]; exact .inl h
 · simp only [hw, xd, if_false]; exact h
def Hy (P : Program) (ops : Array Oper) (E : Nat → Bool) (T : Array Bool → World → Prop) (Cl : World → Prop) (Q : Exit → Act → World → Prop) : Nat → Array Bool → Act → Prop
 | 0, listed, a => Region.ready .any ops listed = [] ∧ ∀ w, Cl w → Q .normal a w
 | fuel + 1, listed, a =>
   (Region.ready .any ops listed = [] → ∀ w, Cl w → Q .normal a w) ∧
   ∀ i ∈ Region.ready .any ops listed, if E i = true then (∀ w, Cl w → wpOp P ops Q i (wpAT P ops T Q fuel (listed.setIfInBounds i true)) a w)
     else qOp P ops Cl i (Hy P ops E T Cl Q fuel (listed.setIfInBounds i true)) a
theorem getD_set_le {l : Array Bool} {i j : Nat} (h : l.getD j false = true) : (l.setIfInBounds i true).getD j false = true := by
 by_cases hij : i = j
 · subst hij
   rcases xr i l.size with h' | h'
   · simp [h']
   · simp [vz h'] at h
 · rw [getD_set_ne false hij]; exact h
theorem Hy_sound : ∀ (fuel : Nat) (listed : Array Bool) (a : Act) (w : World), (∀ l w, (∀ j, listed.getD j false = true → l.getD j false = true) → Cl w → T l w) → Hy P ops E T Cl Q fuel listed a → Cl w → wpAT P ops T Q fuel listed a w
 | 0, _, _, _, hCT, h, hw => ⟨hCT _ _ (fun _ h => h) hw, h.1, h.2 _ hw⟩
 | fuel + 1, listed, a, w, hCT, h, hw => by
   refine ⟨hCT _ _ (fun _ h => h) hw, fun h0 => h.1 h0 _ hw, fun i hi => ?_⟩
   have := h.2 i hi
   split at this
   · exact this w hw
   · exact wpOp_of_qOp hw (fun a' w' hw' hk => Hy_sound fuel _ a' w' (fun l w hl hc => hCT l w (fun j hj => hl j (getD_set_le hj)) hc) hk hw') this
theorem wpOp_put' {j : Nat} {oi oj : Oper} {v : Value} (hj : ops[j]? = some oj) (hap : oi.apart ops oj = true) (hsj : ∀ cs b, oj.op ≠ .select cs b)
 (hQ : ∀ c a w, Q (.panic c) (a.put oi.dst v) w → Q (.panic c) a w) {Y : Act → Prop} (hY : ∀ a, Y a → ∀ u, Y (a.put oj.dst u)) (hYd : ∀ a, Y a → ∀ d, Y { a with defers := d :: a.defers }) {K : Act → World → Prop} {a : Act} {w : World}
 (hy : Y a) (h : wpOp P ops Q j K (a.put oi.dst v) w) : wpOp P ops Q j (fun a' w' => Y a' ∧ K (a'.put oi.dst v) w') a w := by
 obtain ⟨h1, h2, h3⟩ := Oper.apart_spec hap
 unfold wpOp at *
 simp only [hj] at *
 rw [wanted_put oj a oi.dst v h1] at h
 split
 · rename_i hw
   simp only [hw, if_true] at h
   rcases h with h | ⟨hasks, hlets⟩
   case inr => exact .inr ⟨by unfold Oper.asks at *; rw [execOp_put oj hsj a oi.dst v h1] at hasks; exact hasks, hlets⟩
   refine .inl ?_
   unfold Oper.wp at *
   rw [execOp_put oj hsj a oi.dst v h1] at h
   generalize (execOp a.eval oj).run P w = r at *
   cases r with
   | ok n w' =>
     cases n <;> simp only [Oper.upon] at h ⊢
     case value u => exact ⟨hY a hy u, by rw [← Act.put_comm a v u h2]; exact h⟩
     case skip => exact ⟨hY a hy _, by rw [← Act.put_comm a v undef h2]; exact h⟩
     case defer d =>
      refine ⟨hY _ (hYd a hy d) _, ?_⟩
      rw [← Act.put_comm _ v undef h2, ← Act.put_defers]
      exact h
     case enter f args =>
      refine Calls.mono h fun e w'' he => ?_
      cases e with
      | returned u => exact ⟨hY a hy u, by rw [← Act.put_comm a v u h2]; exact he⟩
      | panicked c => exact hQ _ _ _ he
      | outgrown => exact he
     case row row args => exact Rows.mono h fun u w'' he => ⟨hY a hy u, by rw [← Act.put_comm a v u h2]; exact he⟩
   | halt x w' =>
     cases x <;> simp only [Oper.upon] at h ⊢
     case panic u => exact hQ _ _ _ h
 · rename_i hw
   simp only [hw] at h
   exact ⟨hY a hy _, by rw [← Act.put_comm a v undef h2]; exact h⟩
theorem qOp_put' {j : Nat} {oi oj : Oper} {v : Value} (hj : ops[j]? = some oj) (hap : oi.apart ops oj = true)
 (hsj : ∀ cs b, oj.op ≠ .select cs b) {Y : Act → Prop} (hY : ∀ a, Y a → ∀ u, Y (a.put oj.dst u)) {K : Act → Prop} {a : Act}
 (hy : Y a) (h : qOp P ops Cl j K (a.put oi.dst v)) :
 qOp P ops Cl j (fun a' => Y a' ∧ K (a'.put oi.dst v)) a := by
 obtain ⟨h1, h2, h3⟩ := Oper.apart_spec hap
 unfold qOp at *
 simp only [hj] at *
 rw [wanted_put oj a oi.dst v h1] at h
 split
 · rename_i hw
   simp only [hw, if_true] at h
   obtain ⟨u, hu, hn⟩ := h
   refine ⟨u, fun w hw' => ?_, hY a hy u, by rw [← Act.put_comm a v u h2]; exact hn⟩
   have := hu w hw'
   unfold Oper.quietAt at *
   rwa [execOp_put oj hsj a oi.dst v h1] at this
 · rename_i hw
   simp only [hw] at h
   exact ⟨hY a hy _, by rw [← Act.put_comm a v undef h2]; exact h⟩
theorem ready_no {i : Nat} {oj : Oper} {listed : Array Bool} (hi : listed.getD i true = false) (hall : ∀ e ∈ oj.after, Region.binds .any e = true → listed.getD e.on false = true) : ∀ e ∈ oj.after, Region.binds .any e = true → e.on ≠ i := by
 intro e he hb heq
 have h1 := hall e he hb
 rw [heq] at h1
 rcases xr i listed.size with h' | h'
 · simp [h'] at hi h1; rw [hi] at h1; cases h1
 · simp [vz h'] at h1
theorem YieldsT.qOp (hCT : ∀ w, Cl w → T0 w) {i : Nat} {o : Oper} {v : Value} {a : Act} (hi : ops[i]? = some o) (hy : YieldsT P ops T0 o v a) {K : Act → Prop} (h : K (a.put o.dst v)) : qOp P ops Cl i K a := by
 unfold Go.qOp
 simp only [hi]
 rcases hy with ⟨hw, hv⟩ | ⟨hw, rfl⟩
 · simp only [hw, if_true]; exact ⟨v, fun w hw => by unfold Oper.quietAt; rw [hv w (hCT w hw)]; exact ⟨rfl, rfl⟩, h⟩
 · simp only [hw, xd, if_false]; exact h
theorem sub_step {i j : Nat} {oj : Oper} {listed Z : Array Bool} (hZ : ∀ j oj, ops[j]? = some oj → j ≠ i → Z.getD j false = false → ∃ e ∈ oj.after, Region.binds .any e = true ∧ Z.getD e.on false = false)
 (hoj : ops[j]? = some oj) (hji : j ≠ i) (hall : ∀ e ∈ oj.after, Region.binds .any e = true → listed.getD e.on false = true) (hLZ : ∀ j, listed.getD j false = true → Z.getD j false = true) :
 ∀ k, (listed.setIfInBounds j true).getD k false = true → Z.getD k false = true := by
 have hjZ : Z.getD j false = true := by
  cases hz : Z.getD j false with
  | true => rfl
  | false =>
    obtain ⟨e, he, hb, hez⟩ := hZ j oj hoj hji hz
    have := hLZ e.on (hall e he hb)
    rw [hez] at this; cases this
 intro k hk
 by_cases hjk : j = k
 · subst hjk; exact hjZ
 · rw [getD_set_ne false hjk] at hk; exact hLZ k hk
theorem wpAT_first {i : Nat} {oi : Oper} {v : Value} (Z : Array Bool) (hZ : ∀ j oj, ops[j]? = some oj → j ≠ i → Z.getD j false = false → ∃ e ∈ oj.after, Region.binds .any e = true ∧ Z.getD e.on false = false)
 (hT : ∀ l w, (∀ j, l.getD j false = true → Z.getD j false = true) → T l w → T0 w) (hTi : ∀ l w, T (l.setIfInBounds i true) w → T l w) (hi : ops[i]? = some oi) (hsel : ∀ (j : Nat) (o : Oper) cs b, ops[j]? = some o → o.op ≠ .select cs b)
 (hQ : ∀ c a w, Q (.panic c) (a.put oi.dst v) w → Q (.panic c) a w) :
 ∀ (fuel : Nat) (listed : Array Bool) (a : Act) (w : World),
   (∀ j oj, ops[j]? = some oj → j ≠ i → listed.getD j true = false → (∀ e ∈ oj.after, Region.binds .any e = true → e.on ≠ i) → oi.apart ops oj = true) →
   (∀ j, listed.getD j false = true → Z.getD j false = true) → i ∈ Region.ready .any ops listed → YieldsT P ops T0 oi v a →
   wpAT P ops T Q fuel (listed.setIfInBounds i true) (a.put oi.dst v) w → wpAT P ops T Q (fuel + 1) listed a w := by
 intro fuel
 induction fuel with
 | zero =>
   intro listed a w _ hLZ hr hy H
   refine ⟨hTi _ _ H.1, fun h => (by rw [h] at hr; cases hr), fun j hj => ?_⟩
   by_cases hji : j = i
   · subst hji; exact hy.wpOp hi (hT _ _ hLZ (hTi _ _ H.1)) H
   · have := ready_mono hj hji
     rw [H.2.1] at this
     cases this
 | succ fuel ih =>
   intro listed a w hfree hLZ hr hy H
   refine ⟨hTi _ _ H.1, fun h => (by rw [h] at hr; cases hr), fun j hj => ?_⟩
   by_cases hji : j = i
   · subst hji; exact hy.wpOp hi (hT _ _ hLZ (hTi _ _ H.1)) H
   · have h1 := H.2.2 j (ready_mono hj hji)
     obtain ⟨hjun, oj, hoj, hall⟩ := mem_ready.1 hj
     have hnot := ready_no (mem_ready.1 hr).1 hall
     have hap := hfree j oj hoj hji hjun hnot
     have hfree' : ∀ k ok, ops[k]? = some ok → k ≠ i → (listed.setIfInBounds j true).getD k true = false →
      (∀ e ∈ ok.after, Region.binds .any e = true → e.on ≠ i) → oi.apart ops ok = true := fun k ok hk hki hun hno => by
      refine hfree k ok hk hki ?_ hno
      by_cases hjk : j = k
      · subst hjk; exact hjun
      · rw [getD_set_ne true hjk] at hun; exact hun
     have h2 := wpOp_put' hoj hap (fun cs b => hsel j oj cs b hoj) hQ (Y := fun a => YieldsT P ops T0 oi v a)
      (fun a hy u => hy.of_same (execOp_put oi (fun cs b => hsel i oi cs b hi) a oj.dst u (Oper.apart_spec hap).2.2) (wanted_put oi a oj.dst u (Oper.apart_spec hap).2.2))
      (fun a hy d => hy.of_same rfl rfl) hy h1
     refine wpOp_mono (fun a' w' h3 => ih (listed.setIfInBounds j true) a' w' hfree' (sub_step hZ hoj hji hall hLZ) (ready_mono hr (Ne.symm hji)) h3.1 ?_) h2
     rw [ug _ _ hji]
     exact h3.2
theorem Hy_first_P (hCT : ∀ w, Cl w → T0 w) (Z : Array Bool) {i : Nat} {oi : Oper} {v : Value} (hZ : ∀ j oj, ops[j]? = some oj → j ≠ i → Z.getD j false = false → ∃ e ∈ oj.after, Region.binds .any e = true ∧ Z.getD e.on false = false)
 (hT : ∀ l w, (∀ j, l.getD j false = true → Z.getD j false = true) → T l w → T0 w) (hTi : ∀ l w, T (l.setIfInBounds i true) w → T l w) (hi : ops[i]? = some oi) (hsel : ∀ (j : Nat) (o : Oper) cs b, ops[j]? = some o → o.op ≠ .select cs b) (hEi : E i = false)
 (hQ : ∀ c a w, Q (.panic c) (a.put oi.dst v) w → Q (.panic c) a w) :
 ∀ (fuel : Nat) (listed : Array Bool) (a : Act),
   (∀ j oj, ops[j]? = some oj → j ≠ i → listed.getD j true = false → (∀ e ∈ oj.after, Region.binds .any e = true → e.on ≠ i) → oi.apart ops oj = true) →
   (∀ j, listed.getD j false = true → Z.getD j false = true) → i ∈ Region.ready .any ops listed → YieldsT P ops T0 oi v a →
   Hy P ops E T Cl Q fuel (listed.setIfInBounds i true) (a.put oi.dst v) → Hy P ops E T Cl Q (fuel + 1) listed a := by
 intro fuel
 induction fuel with
 | zero =>
   intro listed a _ _ hr hy H
   refine ⟨fun h => (by rw [h] at hr; cases hr), fun j hj => ?_⟩
   by_cases hji : j = i
   · subst hji; rw [if_neg (by simp [hEi])]; exact hy.qOp hCT hi H
   · have := ready_mono hj hji
     rw [H.1] at this
     cases this
 | succ fuel ih =>
   intro listed a hfree hLZ hr hy H
   refine ⟨fun h => (by rw [h] at hr; cases hr), fun j hj => ?_⟩
   by_cases hji : j = i
   · subst hji; rw [if_neg (by simp [hEi])]; exact hy.qOp hCT hi H
   · have h1 := H.2 j (ready_mono hj hji)
     obtain ⟨hjun, oj, hoj, hall⟩ := mem_ready.1 hj
     have hnot := ready_no (mem_ready.1 hr).1 hall
     have hap := hfree j oj hoj hji hjun hnot
     have hfree' : ∀ k ok, ops[k]? = some ok → k ≠ i → (listed.setIfInBounds j true).getD k true = false →
      (∀ e ∈ ok.after, Region.binds .any e = true → e.on ≠ i) → oi.apart ops ok = true := fun k ok hk hki hun hno => by
      refine hfree k ok hk hki ?_ hno
      by_cases hjk : j = k
      · subst hjk; exact hjun
      · rw [getD_set_ne true hjk] at hun; exact hun
     have hr' := ready_mono hr (Ne.symm hji)
     split at h1
     · rename_i hE
       rw [if_pos hE]
       intro w hw
       have h2 := wpOp_put' hoj hap (fun cs b => hsel j oj cs b hoj) hQ (Y := fun a => YieldsT P ops T0 oi v a)
        (fun a hy u => hy.of_same (execOp_put oi (fun cs b => hsel i oi cs b hi) a oj.dst u (Oper.apart_spec hap).2.2) (wanted_put oi a oj.dst u (Oper.apart_spec hap).2.2))
        (fun a hy d => hy.of_same rfl rfl) hy (h1 w hw)
       refine wpOp_mono (fun a' w' h3 => ?_) h2
       refine wpAT_first Z hZ hT hTi hi hsel hQ fuel _ a' w' hfree' (sub_step hZ hoj hji hall hLZ) hr' h3.1 ?_
       rw [ug _ _ hji]
       exact h3.2
     · rename_i hE
       rw [if_neg hE]
       have h2 := qOp_put' hoj hap (fun cs b => hsel j oj cs b hoj) (Y := fun a => YieldsT P ops T0 oi v a)
        (fun a hy u => hy.of_same (execOp_put oi (fun cs b => hsel i oi cs b hi) a oj.dst u (Oper.apart_spec hap).2.2) (wanted_put oi a oj.dst u (Oper.apart_spec hap).2.2)) hy h1
       refine qOp_mono (fun a' h3 => ih (listed.setIfInBounds j true) a' hfree' (sub_step hZ hoj hji hall hLZ) hr' h3.1 ?_) h2
       rw [ug _ _ hji]
       exact h3.2
theorem Hy_first_Q {i : Nat} {oi : Oper} {v : Value} (hi : ops[i]? = some oi) (hsel : ∀ (j : Nat) (o : Oper) cs b, ops[j]? = some o → o.op ≠ .select cs b) (hEi : E i = false) (Z : Array Bool)
 (hZ : ∀ j oj, ops[j]? = some oj → j ≠ i → Z.getD j false = false → ∃ e ∈ oj.after, Region.binds .any e = true ∧ Z.getD e.on false = false) :
 ∀ (fuel : Nat) (listed : Array Bool) (a : Act),
   (∀ j oj, ops[j]? = some oj → j ≠ i → listed.getD j true = false → (∀ e ∈ oj.after, Region.binds .any e = true → e.on ≠ i) → oi.apart ops oj = true) →
   (∀ j, listed.getD j false = true → Z.getD j false = true) → (∀ j, listed.getD j true = false → Z.getD j false = true → E j = false) →
   i ∈ Region.ready .any ops listed → YieldsIn P ops Cl oi v a →
   Hy P ops E T Cl Q fuel (listed.setIfInBounds i true) (a.put oi.dst v) → Hy P ops E T Cl Q (fuel + 1) listed a := by
 intro fuel
 induction fuel with
 | zero =>
   intro listed a _ _ _ hr hy H
   refine ⟨fun h => (by rw [h] at hr; cases hr), fun j hj => ?_⟩
   by_cases hji : j = i
   · subst hji; rw [if_neg (by simp [hEi])]; exact hy.qOp hi H
   · have := ready_mono hj hji
     rw [H.1] at this
     cases this
 | succ fuel ih =>
   intro listed a hfree hLZ hEZ hr hy H
   refine ⟨fun h => (by rw [h] at hr; cases hr), fun j hj => ?_⟩
   by_cases hji : j = i
   · subst hji; rw [if_neg (by simp [hEi])]; exact hy.qOp hi H
   · have h1 := H.2 j (ready_mono hj hji)
     obtain ⟨hjun, oj, hoj, hall⟩ := mem_ready.1 hj
     have hnot := ready_no (mem_ready.1 hr).1 hall
     have hap := hfree j oj hoj hji hjun hnot
     have hjZ : Z.getD j false = true := by
      cases hz : Z.getD j false with
      | true => rfl
      | false =>
        obtain ⟨e, he, hb, hez⟩ := hZ j oj hoj hji hz
        have := hLZ e.on (hall e he hb)
        rw [hez] at this; cases this
     have hEj := hEZ j hjun hjZ
     rw [if_neg (by simp [hEj])] at h1 ⊢
     have hfree' : ∀ k ok, ops[k]? = some ok → k ≠ i → (listed.setIfInBounds j true).getD k true = false →
      (∀ e ∈ ok.after, Region.binds .any e = true → e.on ≠ i) → oi.apart ops ok = true := fun k ok hk hki hun hno => by
      refine hfree k ok hk hki ?_ hno
      by_cases hjk : j = k
      · subst hjk; exact hjun
      · rw [getD_set_ne true hjk] at hun; exact hun
     have hr' := ready_mono hr (Ne.symm hji)
     have h2 := qOp_put' hoj hap (fun cs b => hsel j oj cs b hoj) (Y := fun a => YieldsIn P ops Cl oi v a)
      (fun a hy u => hy.of_same (execOp_put oi (fun cs b => hsel i oi cs b hi) a oj.dst u (Oper.apart_spec hap).2.2) (wanted_put oi a oj.dst u (Oper.apart_spec hap).2.2)) hy h1
     refine qOp_mono (fun a' h3 => ih (listed.setIfInBounds j true) a' hfree' ?_ ?_ hr' h3.1 ?_) h2
     · intro k hk
       by_cases hjk : j = k
       · subst hjk; exact hjZ
       · rw [getD_set_ne false hjk] at hk; exact hLZ k hk
     · intro k hk hkz
       by_cases hjk : j = k
       · subst hjk; exact hEj
       · rw [getD_set_ne true hjk] at hk; exact hEZ k hk hkz
     · rw [ug _ _ hji]
       exact h3.2
end
def reach (ops : Array Oper) (i : Nat) : Nat → Array Bool → Array Bool
 | 0, Z => Z
 | n + 1, Z => reach ops i n (((Region.ready .any ops Z).filter fun j => !(zo j i)).foldl (fun Z j => Z.setIfInBounds j true) Z)
def allIx (ops : Array Oper) (f : Nat → Bool) : Bool := (List.range ops.size).all f
def effs : PTree → List Nat
 | .nil => []
 | .e i r => i :: effs r
 | .f i r => i :: effs r
 | .p _ r => effs r
 | .q _ r => effs r
 | .two i a j _ => i :: j :: effs a
def kW (W : List Nat) (i : Nat) : Bool := W.contains i
def reachOK (ops : Array Oper) (W : List Nat) (i : Nat) (listed Z : Array Bool) : Bool :=
 allIx ops (fun j => zo j i || Z.getD j false || (((ops[j]?).map fun o => o.after.any fun e => Region.binds .any e && !(Z.getD e.on false)).getD true)) &&
 allIx ops (fun j => (!(listed.getD j false) || Z.getD j false) && (listed.getD j true || !(Z.getD j false) || !kW W j))
def lates : PTree → List Nat
 | .nil => []
 | .f i r => i :: lates r
 | .p _ r => lates r
 | .q _ r => lates r
 | .e _ r => lates r
 | .two _ a _ b => lates a ++ lates b
def reachP (ops : Array Oper) (L : List Nat) (late : Bool) (i : Nat) (listed Z : Array Bool) : Bool :=
 allIx ops (fun j => zo j i || Z.getD j false || (((ops[j]?).map fun o => o.after.any fun e => Region.binds .any e && !(Z.getD e.on false)).getD true)) &&
 allIx ops (fun j => !(listed.getD j false) || Z.getD j false) && (late || L.all fun f => !(Z.getD f false)) && !(L.contains i)
def planOK (ops : Array Oper) (W L : List Nat) : Bool → PTree → Array Bool → Bool
 | _, .nil, listed => (Region.ready .any ops listed).isEmpty
 | late, .p i r, listed => (Region.ready .any ops listed).contains i && Region.free .any ops listed i && !kW W i &&
    reachP ops L late i listed (if late || L.isEmpty then xw ops.size true else reach ops i ops.size listed) && planOK ops W L late r (listed.setIfInBounds i true)
 | late, .q i r, listed => (Region.ready .any ops listed).contains i && Region.free .any ops listed i && !kW W i && reachOK ops W i listed (reach ops i ops.size listed) && planOK ops W L late r (listed.setIfInBounds i true)
 | late, .e i r, listed => (match Region.ready .any ops listed with
    | [j] => zo j i
    | _ => false) && kW W i && planOK ops W L late r (listed.setIfInBounds i true)
 | _, .f i r, listed => (match Region.ready .any ops listed with
    | [j] => zo j i
    | _ => false) && kW W i && L.contains i && planOK ops W L true r (listed.setIfInBounds i true)
 | late, .two i a j b, listed => (match Region.ready .any ops listed with
    | [x, y] => zo x i && zo y j
    | _ => false) && kW W i && kW W j && zo a.len b.len && planOK ops W L late a (listed.setIfInBounds i true) && planOK ops W L late b (listed.setIfInBounds j true)
def planned (ops : Array Oper) (l : PTree) : Bool := Region.noSelect ops && planOK ops (effs l) (lates l) false l (xw ops.size false) && zo l.len ops.size
def findPlan (id : Nat) : List (Nat × List Nat × List Tk) → Option (List Nat × PTree)
 | [] => none
 | (k, F, l) :: r => if zo k id then some (F, PTree.of l) else findPlan id r
variable {C : Nat → Codec}
def frozen (tm : Tm) : List Nat → List Nat
 | [] => []
 | x :: r => match xh x 1000000 with
   | true => x :: frozen tm r
   | false => match get tm (x - 1000000) with
     | .ptr c _ _ => c :: frozen tm r
     | _ => frozen tm r
def inL (k : Nat) : List Nat → Bool
 | [] => false
 | x :: r => zo x k || inL k r
def levF (P : Program) (tm : Tm) (m : List (Ck C)) (F : List Nat) (m0 : List (Ck C)) (G : List Nat) (al : List (Nat × Bool)) (o : Op) : Ans :=
 match o with
 | .load t a => match ev tm m al a with
   | some (.ptr c i f) => if inL c F && xh c m0.length then match loadSV P m0 t c i f with
      | some (ps, v) => if SV.lt m0.length v then some (ps, v) else none
      | none => none
     else if inL c G then loadSV P m t c i f else none
   | some (.gp g) => match aggTy P t, (C g).gv with
     | some false, some v => some ([], v)
     | _, _ => none
   | _ => none
 | _ => none
def stepC {P : Program} (E : Env P C) (ops : Array Oper) (F : List Nat) (m0 : List (Ck C)) (G : List Nat) (o : Oper) (tm : Tm) (m : List (Ck C)) (K : Tm → Tr) : Tr :=
 match gd ops tm o.guard with
 | .lost => .no
 | .skip => match put? E.n tm o.dst [] .undef with
   | some tm' => K tm'
   | none => .no
 | .run cs => match pureP E tm m (alOf cs) o with
   | some (ps, v) => match put? E.n tm o.dst cs v with
     | some tm' => asks cs ps (K tm')
     | none => .no
   | none => match levF P tm m F m0 G (alOf cs) o.op with
     | some (ps, v) => match put? E.n tm o.dst cs v with
       | some tm' => asks cs ps (K tm')
       | none => .no
     | none => match cs with
       | [] => .no
       | _ :: _ => match put? E.n tm o.dst [] .undef with
         | some tm' => asks cs [False] (K tm')
         | none => .no
def stays (m0 m : List (Ck C)) : List Nat → Tr → Tr
 | [], X => X
 | c :: r, X => .and (.lf (nth m c = nth m0 c)) (stays m0 m r X)
def inMem (F : List Nat) (m : List (Ck C)) : Tr :=
 match memLt m.length m && F.all fun c => xh c m.length with
 | true => .yes
 | false => .no
def stepL {P : Program} (E : Env P C) (ops : Array Oper) (o : Oper) (tm : Tm) (m : List (Ck C)) (K : Tm → List (Ck C) → Tr) : Tr :=
 match gd ops tm o.guard with
 | .lost => .no
 | .skip => match put? E.n tm o.dst [] .undef with
   | some tm' => K tm' m
   | none => .no
 | .run cs => match famOf P E.fams tm m (alOf cs) o.op with
   | some _ => famQ E ops o 8 tm m K
   | none => match pureQ E tm m (alOf cs) o.op with
     | some (ps, v) => match put? E.n tm o.dst cs v with
       | some tm' => asks cs ps (K tm' m)
       | none => .no
     | none => .no
def famP {P : Program} (E : Env P C) (F : List Nat) (m0 : List (Ck C)) (tm : Tm) (m : List (Ck C)) (o : Oper) : Option (FamHit C) :=
 match o.guard with
 | none => match famOf P E.fams tm m [] o.op with
   | some h => match inL h.c F && xh h.c m0.length with
     | true => some h
     | false => none
   | none => none
 | some _ => none
def splanG {P : Program} (E : Env P C) (ops : Array Oper) (F : List Nat) (m0 : List (Ck C)) (G : List Nat) : PTree → Tm → List (Ck C) → (Tm → List (Ck C) → Tr) → Tr
 | .nil, tm, m, K => K tm m
 | .p i r, tm, m, K => match ops[i]? with
   | some o => match famP E F m0 tm m o with
     | some h => famT h tm m fun v m' => match put? E.n tm o.dst [] v with
       | some tm' => fTm1 tm' fun tm' => splanG E ops F m0 (m.length :: G) r tm' m' K
       | none => .no
     | none => stepC E ops F m0 G o tm m fun tm' => fTm1 tm' fun tm' => splanG E ops F m0 G r tm' m K
   | none => .no
 | .q i r, tm, m, K => match ops[i]? with
   | some o => stepL E ops o tm m fun tm' m' => fTm1 tm' fun tm' => splanG E ops F m0 [] r tm' m' K
   | none => .no
 | .e i r, tm, m, K => match ops[i]? with
   | some o => stepP E ops o tm m fun tm' m' => fTm1 tm' fun tm' => fM m' fun m' => stays m0 m' F (splanG E ops F m0 [] r tm' m' K)
   | none => .no
 | .f i r, tm, m, K => match ops[i]? with
   | some o => stepP E ops o tm m fun tm' m' => fTm1 tm' fun tm' => fM m' fun m' => splanG E ops [] m0 [] r tm' m' K
   | none => .no
 | .two i a j b, tm, m, K => match ops[i]?, ops[j]? with
   | some o, some o' => .and (stepP E ops o tm m fun tm' m' => fTm1 tm' fun tm' => fM m' fun m' => stays m0 m' F (splanG E ops F m0 [] a tm' m' K))
      (stepP E ops o' tm m fun tm' m' => fTm1 tm' fun tm' => fM m' fun m' => stays m0 m' F (splanG E ops F m0 [] b tm' m' K))
   | _, _ => .no
def splan {P : Program} (E : Env P C) (ops : Array Oper) (F : List Nat) (m0 : List (Ck C)) (l : PTree) (tm : Tm) (m : List (Ck C)) (K : Tm → List (Ck C) → Tr) : Tr := splanG E ops F m0 [] l tm m K
def Stay (F : List Nat) (m0 : List (Ck C)) (w : World) : Prop := (∀ c, inL c F = true → c < m0.length → ((nth m0 c).on = true → Ck.ok (ads m0) w (nth m0 c)) ∧ ∀ t x, (nth m0 c).cells.Has t x → (C t).good w x) ∧ ∀ g v, (C g).gv = some v → w.cell? ⟨g, 0, none⟩ = some (v.va noAd)
theorem stays_ok {m0 m : List (Ck C)} : ∀ {F : List Nat} {X : Tr}, stays m0 m F X → X.holds ∧ ∀ c, inL c F = true → nth m c = nth m0 c
 | [], X, h => ⟨h, fun c hc => by simp [inL] at hc⟩
 | x :: r, X, h => by
   obtain ⟨h1, h2⟩ := stays_ok h.2
   refine ⟨h1, fun c hc => ?_⟩
   simp only [inL, yr] at hc
   rcases hc with hc | hc
   · rw [← zr hc]; exact h.1
   · exact h2 c hc
theorem Stay.of {S : Sx} {w0 w : World} {F : List Nat} {m0 m : List (Ck C)} (hm : MemOK S w0 w m) (hlt : memLt m0.length m0 = true) (hs : ∀ c, inL c F = true → nth m c = nth m0 c) (ha : ∀ k, k < m0.length → ads m0 k = ads m k) : Stay F m0 w := by
 refine ⟨fun c hc hcl => ⟨fun hon => ?_, fun t x hl => ?_⟩, fun g v hv => (hm.more.gv g v hv).1⟩
 rotate_left
 · have h1 := hs c hc
   rw [← h1] at hl
   exact (hm.more.deep _ (nth_mem (lt_of_alive (Cells.Has.alive hl))) t x hl).1
 have h1 := hs c hc
 cases hl : (nth m0 c).alive with
 | false => unfold Ck.alive at hl; unfold Ck.ok; split at hl <;> simp_all
 | true =>
   have h2 := hm.ok _ (nth_mem (lt_of_alive (m := m) (c := c) (by rw [h1]; exact hl))) (by rw [h1]; exact hon)
   rw [h1] at h2
   exact Ck.ok_ads (fun k hk => (ha k hk).symm) (memLt_mem hlt (nth_mem hcl)) h2
theorem loadSV_ck {P : Program} {w : World} {m : List (Ck C)} {c : Nat} (hc : (nth m c).on = true → Ck.ok (ads m) w (nth m c)) {t i f : Nat} {ps : List Prop} {r : SV} (h : loadSV P m t c i f = some (ps, r)) (hp : allOf ps) :
 (loadVar t ((ads m c).at i f)).run P w = .ok (r.va (ads m)) w := by
 exact loadSV_okc hc h hp
def GsOK (F : List Nat) (m0 : List (Ck C)) (G : List Nat) (m : List (Ck C)) : Prop := ∀ c, inL c G = true → c < m.length ∧ ∀ w, Stay F m0 w → (nth m c).on = true → Ck.ok (ads m) w (nth m c)
theorem GsOK.nil {F : List Nat} {m0 m : List (Ck C)} : GsOK F m0 [] m := fun c hc => by simp [inL] at hc
theorem stepC_ok {P : Program} {E : Env P C} {ops : Array Oper} {F : List Nat} {m0 : List (Ck C)} {G : List Nat} {o : Oper} {tm : Tm} {m : List (Ck C)} (hg : GlOK m) (hads : ∀ k, k < m0.length → ads m0 k = ads m k) (hG : GsOK F m0 G m) {K : Tm → Tr} (hs : stepC E ops F m0 G o tm m K) {a : Act} (h : ActOK (ads m) E.n tm a) :
 ∃ v tm', YieldsT P ops (Stay F m0) o v a ∧ K tm' ∧ ActOK (ads m) E.n tm' (a.put o.dst v) := by
 unfold stepC at hs
 split at hs <;> try (first | contradiction | exact False.elim hs)
 · rename_i hgd
   have hw := gd_skip h hgd
   split at hs <;> try (first | contradiction | exact False.elim hs)
   rename_i tm' hp
   exact ⟨Go.undef, tm', .inr ⟨hw, rfl⟩, hs, put_ok h hp (by simp) _ rfl⟩
 · rename_i cs hgd
   obtain ⟨hw, hcs⟩ := gd_run h hgd
   have fin : ∀ (ps : List Prop) (v : SV) (tm' : Tm), put? E.n tm o.dst cs v = some tm' → asks cs ps (K tm') → (holds cs = true → allOf ps → ∀ w, Stay F m0 w → (execOp a.eval o).run P w = .ok (.value (v.va (ads m))) w) →
    ∃ v tm', YieldsT P ops (Stay F m0) o v a ∧ K tm' ∧ ActOK (ads m) E.n tm' (a.put o.dst v) := by
    intro ps v tm' hp hs hr
    obtain ⟨hK, hps⟩ := asks_ok hs
    cases e : holds cs with
    | true =>
      refine ⟨v.va (ads m), tm', .inl ⟨by rw [hw, e], fun w hT => hr e (hps e) w hT⟩, hK, put_ok h hp hcs _ ?_⟩
      cases cs with
      | nil => rfl
      | cons c r => simp [mkc, SV.va, e]
    | false =>
      refine ⟨Go.undef, tm', .inr ⟨by rw [hw, e], rfl⟩, hK, put_ok h hp hcs _ ?_⟩
      cases cs with
      | nil => cases e
      | cons c r => simp [mkc, SV.va, e]
   split at hs
   · rename_i ps v hpu
     split at hs <;> try (first | contradiction | exact False.elim hs)
     rename_i tm' hp
     exact fin ps v tm' hp hs fun e hps w _ => pureP_ok h hg (alOf_ok hcs e) hpu hps w
   · split at hs
     rotate_left
     · cases cs with
       | nil => exact False.elim hs
       | cons c1 c2 =>
         dsimp only at hs
         split at hs <;> try (first | contradiction | exact False.elim hs)
         rename_i tm' hp
         obtain ⟨hK, hno⟩ := asks_ok hs
         cases e : holds (c1 :: c2) with
         | true => exact (hno e).1.elim
         | false => exact ⟨Go.undef, tm', .inr ⟨by rw [hw, e], rfl⟩, hK, put_ok h hp (by simp) _ rfl⟩
     rename_i ps v hpu
     split at hs <;> try (first | contradiction | exact False.elim hs)
     rename_i tm' hp
     refine fin ps v tm' hp hs fun e hps w hT => ?_
     obtain ⟨dst, op, ty, pos, after, g⟩ := o
     simp only at hpu
     cases op <;> simp only [levF] at hpu <;> try contradiction
     rename_i t x
     split at hpu <;> try (first | contradiction | exact False.elim hpu)
     · rename_i c i f he
       split at hpu <;> try (first | contradiction | exact False.elim hpu)
       · rename_i hcF
         simp only [zx] at hcF
         have hcl : c < m0.length := by simpa using hcF.2
         split at hpu <;> try (first | contradiction | exact False.elim hpu)
         rename_i ps' v' hld
         split at hpu <;> try (first | contradiction | exact False.elim hpu)
         rename_i hvl
         simp only [Option.some.injEq, Prod.mk.injEq] at hpu
         obtain ⟨rfl, rfl⟩ := hpu
         have h1 := ev_ok h hg (alOf_ok hcs e) _ _ he
         have h2 := loadSV_ck (hT.1 c hcF.1 hcl).1 hld hps
         rw [hads c hcl, SV.va_congr hads _ hvl] at h2
         simp [execOp, Instr.loadAt, h1, SV.va, Instr.sureAddr, h2]
       · split at hpu <;> try (first | contradiction | exact False.elim hpu)
         rename_i hcG
         have h1 := ev_ok h hg (alOf_ok hcs e) _ _ he
         have h2 := loadSV_ck ((hG c hcG).2 w hT) hpu hps
         simp [execOp, Instr.loadAt, h1, SV.va, Instr.sureAddr, h2]
     · rename_i g he
       have h1 := ev_ok h hg (alOf_ok hcs e) _ _ he
       split at hpu <;> try (first | contradiction | exact False.elim hpu)
       rename_i v' hag hv
       simp only [Option.some.injEq, Prod.mk.injEq] at hpu
       obtain ⟨_, rfl⟩ := hpu
       have hc := hT.2 g v' hv
       rw [(C g).gflat v' hv noAd (ads m)] at hc
       have h2 := run_loadVar (P := P) (w := w) (a := ⟨g, 0, none⟩) hag (vs := [v'.va (ads m)]) 0 (fun h => by cases h) (fun _ => by simp) (fun j u hj _ h2 => by
        have : j = 0 := by simp at h2; omega
        subst this
        simp only [sf, Option.some.injEq] at hj
        subst hj
        simpa [Addr.add] using hc)
       simp [execOp, Instr.loadAt, h1, SV.va, Instr.sureAddr, h2]
theorem famS_ok {P : Program} {S : Sx} {w0 : World} {E : Env P C} {ops : Array Oper} {F : List Nat} {m0 : List (Ck C)} (hm0 : memLt m0.length m0 = true) {G : List Nat} {tm : Tm} {m : List (Ck C)} {a : Act} (h : ActOK (ads m) E.n tm a) (hg : GlOK m) (hads : ∀ k, k < m0.length → ads m0 k = ads m k) (hst : ∀ c, inL c F = true → c < m0.length ∧ nth m c = nth m0 c) (hG : GsOK F m0 G m) {o : Oper} {ht : FamHit C}
 (hf : famP E F m0 tm m o = some ht) {K : SV → List (Ck C) → Tr} (hK : (famT ht tm m K).holds) :
 ∃ v m', YieldsT P ops (Stay F m0) o (v.va (ads m')) a ∧ (K v m').holds ∧ (∀ w, MemOK S w0 w m ↔ MemOK S w0 w m') ∧ ActOK (ads m') E.n tm a ∧ GlOK m' ∧
   (m.length ≤ m'.length ∧ ∀ k, k < m.length → ads m k = ads m' k ∧ nth m' k = nth m k) ∧ GsOK F m0 (m.length :: G) m' := by
 unfold famP at hf
 split at hf <;> try contradiction
 rename_i hgd
 split at hf <;> try contradiction
 rename_i ht' hf'
 split at hf <;> try contradiction
 rename_i hcF
 simp only [Option.some.injEq] at hf
 subst hf
 simp only [zx] at hcF
 obtain ⟨F0, c0, as0, x0⟩ := ht'
 simp only at hcF
 have hcl0 : c0 < m0.length := by simpa using hcF.2
 have hst0 := (hst c0 hcF.1).2
 unfold famT at hK
 split at hK <;> try exact hK.elim
 rename_i hlt
 simp only [zx] at hlt
 obtain ⟨hp, hK⟩ := (conj_iff _ _).1 hK
 have hK := hK _ rfl
 obtain ⟨hc, hon, hx, hrun⟩ := famOf_run h hg (al := []) (by intro p hp; cases hp) hf' hp
 simp only at hc hon hx hrun
 have hx' : (∃ c ∈ m, c.cells.Has F0.te x0) ∨ x0 = (C F0.te).dflt := hx.imp (fun hx => ⟨_, nth_mem hc, hx⟩) id
 have hgood : ∀ w, Stay F m0 w → Rw.ok (C F0.t) w (F0.get x0) := fun w hT => by
  refine F0.good w _ ?_
  rcases hx with hx | hx
  · rw [hst0] at hx; exact (hT.1 _ hcF.1 hcl0).2 _ _ hx
  · rw [hx]; exact (C F0.te).dflt_deep.2 w
 generalize hr : F0.get x0 = r at hK hgood
 refine ⟨_, _, .inl ⟨?_, fun w hT => ?_⟩, hK, fun w => ⟨fun hm => (hm.ghost hlt.1 F0 hx' hr).1, MemOK.dropO hlt.1⟩, h.ads (ads_append m _) hlt.2, trivial, ⟨by simp, fun k hk => ⟨ads_append m _ k hk, by rw [nth_append, if_pos hk]⟩⟩, ?_⟩
 · unfold Region.wanted; rw [hgd]
 · have hgd' := hgood w hT
   have hok := (hT.1 _ hcF.1 hcl0).1 (by rw [← hst0]; exact hon)
   have hok' : Ck.ok (ads m) w (nth m c0) := by
    rw [hst0]
    exact Ck.ok_ads hads (memLt_mem hm0 (nth_mem hcl0)) hok
   rw [hrun w hok', hr, ghost_val r m fun ho => by
    unfold Rw.ok at hgd'
    simp only [ho] at hgd'
    exact hgd']
 · intro k hk
   simp only [inL, yr] at hk
   rcases hk with hk | hk
   · obtain rfl := zr hk
     refine ⟨by simp, fun w hT ho => ?_⟩
     have hgd := hgood w hT
     have e : nth (m ++ [(⟨r.b, r.base, (C F0.t).sz, false, some r.on, .rows F0.t r.l⟩ : Ck C)]) m.length = ⟨r.b, r.base, (C F0.t).sz, false, some r.on, .rows F0.t r.l⟩ := by
      rw [nth_append, if_neg (qz _), if_pos rfl]
     rw [e] at ho ⊢
     have ho : r.on = true := ho
     unfold Rw.ok at hgd
     simp only [ho] at hgd
     refine ⟨rfl, fun i' hi' f' hf' => ?_⟩
     rw [enc_flat (C F0.t) _ noAd _ f' hf']
     exact hgd i' hi' f' hf'
   · obtain ⟨g1, g2⟩ := hG k hk
     refine ⟨by simp; omega, fun w hT ho => ?_⟩
     rw [nth_append, if_pos g1] at ho ⊢
     exact Ck.ok_ads (ads_append m _) (memLt_mem hlt.1 (nth_mem g1)) (g2 w hT ho)
theorem stepL_ok {P : Program} {S : Sx} {w0 : World} {E : Env P C} {ops : Array Oper} {o : Oper} {tm : Tm} {m : List (Ck C)} (hg : GlOK m) {K : Tm → List (Ck C) → Tr} (hs : stepL E ops o tm m K) {a : Act} (h : ActOK (ads m) E.n tm a) :
 ∃ v tm' m', YieldsIn P ops (fun w => MemOK S w0 w m) o v a ∧ K tm' m' ∧ ActOK (ads m') E.n tm' (a.put o.dst v) ∧ (∀ w, MemOK S w0 w m ↔ MemOK S w0 w m') ∧ GlOK m' ∧ (m.length ≤ m'.length ∧ ∀ k, k < m.length → ads m k = ads m' k ∧ nth m' k = nth m k) := by
 have same : (∀ w, MemOK S w0 w m ↔ MemOK S w0 w m) ∧ GlOK m ∧ (m.length ≤ m.length ∧ ∀ k, k < m.length → ads m k = ads m k ∧ nth m k = nth m k) := ⟨fun _ => Iff.rfl, hg, zy _, fun _ _ => ⟨rfl, rfl⟩⟩
 unfold stepL at hs
 split at hs <;> try (first | contradiction | exact False.elim hs)
 · rename_i hgd
   have hw := gd_skip h hgd
   split at hs <;> try (first | contradiction | exact False.elim hs)
   rename_i tm' hp
   exact ⟨Go.undef, tm', m, .inr ⟨hw, rfl⟩, hs, put_ok h hp (by simp) _ rfl, same⟩
 · rename_i cs hgd
   obtain ⟨hw, hcs⟩ := gd_run h hgd
   split at hs
   · obtain ⟨v, tm', m', hr, hK, h', hiff, hg', hl⟩ := famQ_ok (S := S) (w0 := w0) hg 8 tm hs h
     refine ⟨v, tm', m', ?_, hK, h', hiff, hg', hl⟩
     rcases hr with ⟨hw', hr⟩ | hr
     · refine .inl ⟨hw', fun w hm => ?_⟩
       unfold Oper.quietAt; rw [hr w hm]; exact ⟨rfl, rfl⟩
     · exact .inr hr
   split at hs <;> try (first | contradiction | exact False.elim hs)
   rename_i ps v hpu
   split at hs <;> try (first | contradiction | exact False.elim hs)
   rename_i tm' hp
   obtain ⟨hK, hps⟩ := asks_ok hs
   cases e : holds cs with
   | true =>
     refine ⟨v.va (ads m), tm', m, .inl ⟨by rw [hw, e], fun w hm => ?_⟩, hK, put_ok h hp hcs _ ?_, same⟩
     · rcases pureQ_ok (S := S) (w0 := w0) h (alOf_ok hcs e) hpu (hps e) w hm with hr | ⟨f, vals, hr, hc⟩
       · unfold Oper.quietAt; rw [hr]; exact ⟨rfl, rfl⟩
       · unfold Oper.quietAt; rw [hr]; exact ⟨rfl, hc⟩
     · cases cs with
       | nil => rfl
       | cons c r => simp [mkc, SV.va, e]
   | false =>
     refine ⟨Go.undef, tm', m, .inr ⟨by rw [hw, e], rfl⟩, hK, put_ok h hp hcs _ ?_, same⟩
     cases cs with
     | nil => cases e
     | cons c r => simp [mkc, SV.va, e]
theorem allIx_ok {ops : Array Oper} {f : Nat → Bool} (h : allIx ops f = true) : ∀ j, j < ops.size → f j = true := by
 intro j hj
 exact List.all_eq_true.1 h j (List.mem_range.2 hj)
def TT (L : List Nat) (F : List Nat) (m0 : List (Ck C)) (l : Array Bool) (w : World) : Prop := ((∃ f ∈ L, l.getD f false = true) ∨ Stay F m0 w) ∧ Stay [] m0 w
theorem reachP_ok {ops : Array Oper} {L : List Nat} {late : Bool} {i : Nat} {listed Z : Array Bool} (hsz : listed.size = ops.size) (h : reachP ops L late i listed Z = true) :
 (∀ j oj, ops[j]? = some oj → j ≠ i → Z.getD j false = false → ∃ e ∈ oj.after, Region.binds .any e = true ∧ Z.getD e.on false = false) ∧
 (∀ j, listed.getD j false = true → Z.getD j false = true) ∧ (late = true ∨ ∀ f ∈ L, Z.getD f false = false) ∧ i ∉ L := by
 unfold reachP at h
 simp only [zx, yr, zl, vg] at h
 obtain ⟨⟨⟨h1, h2⟩, h3⟩, h4⟩ := h
 refine ⟨?_, ?_, h3, by simpa using h4⟩
 · intro j oj hoj hji hz
   have hj : j < ops.size := (Array.getElem?_eq_some_iff.1 hoj).1
   have := allIx_ok h1 j hj
   simp only [hoj, hz, ry, yu, zb, yr] at this
   rcases this with this | this
   · exact absurd (zr this) hji
   · obtain ⟨e, he, hb⟩ := Array.any_eq_true'.1 this
     simp only [zx, zl] at hb
     exact ⟨e, he, hb.1, hb.2⟩
 · intro j hj
   have hjl : j < ops.size := by
    rcases xr j ops.size with h' | h'
    · exact h'
    · simp [vz (by omega : listed.size ≤ j)] at hj
   have := allIx_ok h2 j hjl
   rw [hj] at this
   simpa using this
theorem TT_set {L F : List Nat} {m0 : List (Ck C)} {i : Nat} (hi : i ∉ L) (l : Array Bool) (w : World) (h : TT L F m0 (l.setIfInBounds i true) w) : TT L F m0 l w := by
 refine ⟨?_, h.2⟩
 rcases h.1 with ⟨f, hf, h⟩ | h
 · refine .inl ⟨f, hf, ?_⟩
   rw [getD_set_ne false (fun e => hi (by rw [e]; exact hf))] at h
   exact h
 · exact .inr h
theorem Stay.none {S : Sx} {w0 w : World} {m0 m : List (Ck C)} (hm : MemOK S w0 w m) : Stay [] m0 w := ⟨fun c hc => by simp [inL] at hc, fun g v hv => (hm.more.gv g v hv).1⟩
theorem splan_ok {P : Program} {S : Sx} {w0 : World} {E : Env P C} {ops : Array Oper} {W L F0 : List Nat} {m0 : List (Ck C)} (hm0 : memLt m0.length m0 = true) {Q : Exit → Act → World → Prop} (hQ : ∀ c a w, ¬ Q (.panic c) a w) (hns : Region.noSelect ops = true) :
 ∀ (l : PTree) (late : Bool) (F G : List Nat) (listed : Array Bool) (tm : Tm) (m : List (Ck C)) (K : Tm → List (Ck C) → Tr) (a : Act), listed.size = ops.size → planOK ops W L late l listed = true → splanG E ops F m0 G l tm m K → GsOK F m0 G m → ActOK (ads m) E.n tm a → GlOK m →
 (∀ k, k < m0.length → ads m0 k = ads m k) → m0.length ≤ m.length → (∀ c, inL c F = true → c < m0.length ∧ nth m c = nth m0 c) → (if late then F = [] ∧ ∃ f ∈ L, listed.getD f false = true else F = F0) →
 (∀ tm' m' a' w', K tm' m' → ActOK (ads m') E.n tm' a' → MemOK S w0 w' m' → (m0.length ≤ m'.length ∧ ∀ k, k < m0.length → ads m0 k = ads m' k) → Q .normal a' w') → Hy P ops (kW W) (TT L F0 m0) (fun w => MemOK S w0 w m) Q l.len listed a
 | .nil, late, F, G, listed, tm, m, K, a, _, hp, hs, _, h, _, hads, hle, _, _, hq => by
   simp only [planOK, List.isEmpty_iff] at hp
   exact ⟨hp, fun w hm => hq _ _ _ _ hs h hm ⟨hle, hads⟩⟩
 | .p i r, late, F, G, listed, tm, m, K, a, hsz, hp, hs, hG, h, hg, hads, hle, hst, hlt, hq => by
   simp only [planOK, zx, zl] at hp
   obtain ⟨⟨⟨⟨h1, h2⟩, h3⟩, h5⟩, h4⟩ := hp
   generalize (if (late || L.isEmpty) = true then xw ops.size true else reach ops i ops.size listed) = Z at h5
   obtain ⟨hZ, hLZ, hLL, hiL⟩ := reachP_ok hsz h5
   simp only [splanG] at hs
   split at hs <;> try (first | contradiction | exact False.elim hs)
   rename_i o ho
   have hlt' : if late then F = [] ∧ ∃ f ∈ L, (listed.setIfInBounds i true).getD f false = true else F = F0 := by
    cases late with
    | false => exact hlt
    | true => exact ⟨hlt.1, hlt.2.elim fun f hf => ⟨f, hf.1, getD_set_le hf.2⟩⟩
   have hall : ∀ (l : Array Bool) (w : World), (∀ k, l.getD k false = true → Z.getD k false = true) → TT L F0 m0 l w → Stay F m0 w := by
    intro l w hl hT
    cases late with
    | true =>
      obtain ⟨rfl, _⟩ := hlt
      exact hT.2
    | false =>
      simp only [xd, if_false] at hlt
      subst hlt
      rcases hT.1 with ⟨f, hf, hT⟩ | hT
      · rcases hLL with hLL | hLL
        · cases hLL
        · have := hl f hT
          rw [hLL f hf] at this; cases this
      · exact hT
   split at hs
   · rename_i ht hfp
     obtain ⟨v, m', hy, hK, hiff, h', hg', hl, hG'⟩ := famS_ok (S := S) (w0 := w0) (ops := ops) hm0 h hg hads hst hG hfp hs
     split at hK <;> try (first | contradiction | exact False.elim hK)
     rename_i tm' hpt
     rw [fTm1_eq] at hK
     have hnext := splan_ok (S := S) (w0 := w0) (a := a.put o.dst (v.va (ads m'))) hm0 hQ hns r late F _ _ tm' m' K (by simp [hsz]) h4 hK hG' (put_ok h' hpt (by simp) _ rfl) hg' (fun k hk => (hads k hk).trans (hl.2 k (by omega)).1) (by omega) (fun c hc => ⟨(hst c hc).1, (hl.2 c (by have := (hst c hc).1; omega)).2.trans (hst c hc).2⟩) hlt' hq
     rw [← memEq hiff] at hnext
     exact Hy_first_P (fun w hm => Stay.of hm hm0 (fun c hc => (hst c hc).2) hads) Z hZ hall (TT_set hiL) ho (Region.noSelect_spec hns) h3 (fun c a w hc => absurd hc (hQ _ _ _)) r.len listed a (Region.free_spec ho h2) hLZ (by simpa using h1) hy hnext
   obtain ⟨v, tm', hy, hK, h'⟩ := stepC_ok hg hads hG hs h
   rw [fTm1_eq] at hK
   exact Hy_first_P (fun w hm => Stay.of hm hm0 (fun c hc => (hst c hc).2) hads) Z hZ hall (TT_set hiL) ho (Region.noSelect_spec hns) h3 (fun c a w hc => absurd hc (hQ _ _ _)) r.len listed a (Region.free_spec ho h2) hLZ (by simpa using h1) hy
    (splan_ok hm0 hQ hns r late F _ _ tm' m K _ (by simp [hsz]) h4 hK hG h' hg hads hle hst hlt' hq)
 | .q i r, late, F, G, listed, tm, m, K, a, hsz, hp, hs, hG, h, hg, hads, hle, hst, hlt, hq => by
   simp only [planOK, zx, zl] at hp
   obtain ⟨⟨⟨⟨h1, h2⟩, h3⟩, h56⟩, h4⟩ := hp
   generalize reach ops i ops.size listed = Z at h56
   unfold reachOK at h56
   obtain ⟨h5, h6⟩ := Bool.and_eq_true_iff.1 h56
   simp only [splanG] at hs
   split at hs <;> try (first | contradiction | exact False.elim hs)
   rename_i o ho
   obtain ⟨v, tm', m', hy, hK, h', hiff, hg', hle', hads'⟩ := stepL_ok (S := S) (w0 := w0) hg hs h
   rw [fTm1_eq] at hK
   have hlt' : if late then F = [] ∧ ∃ f ∈ L, (listed.setIfInBounds i true).getD f false = true else F = F0 := by
    cases late with
    | false => exact hlt
    | true => exact ⟨hlt.1, hlt.2.elim fun f hf => ⟨f, hf.1, getD_set_le hf.2⟩⟩
   have hnext := splan_ok (S := S) (w0 := w0) hm0 hQ hns r late F _ _ tm' m' K _ (by simp [hsz]) h4 hK GsOK.nil h' hg' (fun k hk => (hads k hk).trans (hads' k (by omega)).1) (by omega) (fun c hc => ⟨(hst c hc).1, (hads' c (by have := (hst c hc).1; omega)).2.trans (hst c hc).2⟩) hlt' hq
   rw [← memEq hiff] at hnext
   refine Hy_first_Q ho (Region.noSelect_spec hns) h3 Z ?_ r.len listed a (Region.free_spec ho h2) ?_ ?_ (by simpa using h1) hy hnext
   · intro j oj hoj hji hz
     have hj : j < ops.size := (Array.getElem?_eq_some_iff.1 hoj).1
     have := allIx_ok h5 j hj
     simp only [hoj, hz, ry, yu, zb, yr] at this
     rcases this with this | this
     · exact absurd (zr this) hji
     · obtain ⟨e, he, hb⟩ := Array.any_eq_true'.1 this
       simp only [zx, zl] at hb
       exact ⟨e, he, hb.1, hb.2⟩
   · intro j hj
     have hjl : j < ops.size := by
      rcases xr j ops.size with h' | h'
      · exact h'
      · simp [vz (by omega : listed.size ≤ j)] at hj
     have := (Bool.and_eq_true_iff.1 (allIx_ok h6 j hjl)).1
     rw [hj] at this
     simpa using this
   · intro j hj hz
     have hjl : j < ops.size := by
      rcases xr j ops.size with h' | h'
      · exact h'
      · simp [vz (by omega : listed.size ≤ j)] at hj
     have := (Bool.and_eq_true_iff.1 (allIx_ok h6 j hjl)).2
     rw [hj, hz] at this
     simpa using this
 | .e i r, late, F, G, listed, tm, m, K, a, hsz, hp, hs, hG, h, hg, hads, hle, hst, hlt, hq => by
   simp only [planOK, zx] at hp
   obtain ⟨⟨h1, h2⟩, h4⟩ := hp
   have hr : Region.ready .any ops listed = [i] := by
    split at h1
    · rename_i j hj; rw [hj, zr h1]
    · cases h1
   simp only [splanG] at hs
   split at hs <;> try (first | contradiction | exact False.elim hs)
   rename_i o ho
   have hlt' : if late then F = [] ∧ ∃ f ∈ L, (listed.setIfInBounds i true).getD f false = true else F = F0 := by
    cases late with
    | false => exact hlt
    | true => exact ⟨hlt.1, hlt.2.elim fun f hf => ⟨f, hf.1, getD_set_le hf.2⟩⟩
   refine ⟨fun h0 => (by rw [hr] at h0; cases h0), fun j hj => ?_⟩
   rw [hr] at hj
   have hji : j = i := by simpa using hj
   subst hji
   rw [if_pos h2]
   intro w hm
   obtain ⟨g1, g2⟩ := stepP_ok (Q := Q) (next := wpAT P ops (TT L F0 m0) Q r.len (listed.setIfInBounds j true)) hs h hm
    (fun tm' m' a' w' hk h' hm' hads' => by
      simp only [fTm1_eq, fM_eq] at hk
      obtain ⟨hk', hst'⟩ := stays_ok hk
      have hads2 : ∀ k, k < m0.length → ads m0 k = ads m' k := fun k hkl => (hads k hkl).trans (hads'.2 k (by omega))
      refine Hy_sound _ _ _ _ ?_ (splan_ok hm0 hQ hns r late F _ _ tm' m' K a' (by simp [hsz]) h4 hk' GsOK.nil h' hm'.glob hads2 (yz hle hads'.1) (fun c hc => ⟨(hst c hc).1, hst' c hc⟩) hlt' hq) hm'
      intro l w hl hm
      cases late with
      | true =>
        obtain ⟨_, f, hf, hff⟩ := hlt'
        exact ⟨.inl ⟨f, hf, hl f hff⟩, Stay.none hm⟩
      | false =>
        simp only [xd, if_false] at hlt
        subst hlt
        exact ⟨.inr (Stay.of hm hm0 hst' hads2), Stay.none hm⟩)
   unfold wpOp
   simp only [ho]
   split
   · rename_i hw; exact .inl (g1 hw)
   · rename_i hw; exact g2 (by simpa using hw)
 | .f i r, late, F, G, listed, tm, m, K, a, hsz, hp, hs, hG, h, hg, hads, hle, hst, hlt, hq => by
   simp only [planOK, zx] at hp
   obtain ⟨⟨⟨h1, h2⟩, h3⟩, h4⟩ := hp
   have hr : Region.ready .any ops listed = [i] := by
    split at h1
    · rename_i j hj; rw [hj, zr h1]
    · cases h1
   simp only [splanG] at hs
   split at hs <;> try (first | contradiction | exact False.elim hs)
   rename_i o ho
   have hil : i < listed.size := by rw [hsz]; exact (Array.getElem?_eq_some_iff.1 ho).1
   have hlt' : ∃ f ∈ L, (listed.setIfInBounds i true).getD f false = true := ⟨i, by simpa using h3, by simp [hil]⟩
   refine ⟨fun h0 => (by rw [hr] at h0; cases h0), fun j hj => ?_⟩
   rw [hr] at hj
   have hji : j = i := by simpa using hj
   subst hji
   rw [if_pos h2]
   intro w hm
   obtain ⟨g1, g2⟩ := stepP_ok (Q := Q) (next := wpAT P ops (TT L F0 m0) Q r.len (listed.setIfInBounds j true)) hs h hm
    (fun tm' m' a' w' hk h' hm' hads' => by
      simp only [fTm1_eq, fM_eq] at hk
      have hads2 : ∀ k, k < m0.length → ads m0 k = ads m' k := fun k hkl => (hads k hkl).trans (hads'.2 k (by omega))
      refine Hy_sound _ _ _ _ ?_ (splan_ok hm0 hQ hns r true [] _ _ tm' m' K a' (by simp [hsz]) h4 hk GsOK.nil h' hm'.glob hads2 (yz hle hads'.1) (fun c hc => by simp [inL] at hc) ⟨rfl, hlt'⟩ hq) hm'
      intro l w hl hm
      obtain ⟨f, hf, hff⟩ := hlt'
      exact ⟨.inl ⟨f, hf, hl f hff⟩, Stay.none hm⟩)
   unfold wpOp
   simp only [ho]
   split
   · rename_i hw; exact .inl (g1 hw)
   · rename_i hw; exact g2 (by simpa using hw)
 | .two i a' j b', late, F, G, listed, tm, m, K, a, hsz, hp, hs, hG, h, hg, hads, hle, hst, hlt, hq => by
   simp only [planOK, zx] at hp
   obtain ⟨⟨⟨⟨⟨h1, h2⟩, h2'⟩, h5⟩, h4⟩, h4'⟩ := hp
   have h5 := zr h5
   have hr : Region.ready .any ops listed = [i, j] := by
    split at h1
    · rename_i x y hj
      simp only [zx] at h1
      rw [hj, zr h1.1, zr h1.2]
    · cases h1
   simp only [splanG] at hs
   split at hs <;> try (first | contradiction | exact False.elim hs)
   rename_i o o' ho ho'
   have one : ∀ (k : Nat) (ok : Oper) (t : PTree), ops[k]? = some ok → planOK ops W L late t (listed.setIfInBounds k true) = true →
    (stepP E ops ok tm m fun tm' m' => fTm1 tm' fun tm' => fM m' fun m' => stays m0 m' F (splanG E ops F m0 [] t tm' m' K)).holds →
    (∀ (tm' : Tm) (m' : List (Ck C)) (a2 : Act), (splanG E ops F m0 [] t tm' m' K).holds → ActOK (ads m') E.n tm' a2 → GlOK m' → (∀ k, k < m0.length → ads m0 k = ads m' k) → m0.length ≤ m'.length → (∀ c, inL c F = true → c < m0.length ∧ nth m' c = nth m0 c) →
      (if late then F = [] ∧ ∃ f ∈ L, (listed.setIfInBounds k true).getD f false = true else F = F0) → Hy P ops (kW W) (TT L F0 m0) (fun w => MemOK S w0 w m') Q t.len (listed.setIfInBounds k true) a2) →
    ∀ w, MemOK S w0 w m → wpOp P ops Q k (wpAT P ops (TT L F0 m0) Q t.len (listed.setIfInBounds k true)) a w := by
    intro k ok t ho hp4 hs ih w hm
    have hlt' : if late then F = [] ∧ ∃ f ∈ L, (listed.setIfInBounds k true).getD f false = true else F = F0 := by
     cases late with
     | false => exact hlt
     | true => exact ⟨hlt.1, hlt.2.elim fun f hf => ⟨f, hf.1, getD_set_le hf.2⟩⟩
    obtain ⟨g1, g2⟩ := stepP_ok (Q := Q) (next := wpAT P ops (TT L F0 m0) Q t.len (listed.setIfInBounds k true)) hs h hm
     (fun tm' m' a' w' hk h' hm' hads' => by
       simp only [fTm1_eq, fM_eq] at hk
       obtain ⟨hk', hst'⟩ := stays_ok hk
       have hads2 : ∀ k, k < m0.length → ads m0 k = ads m' k := fun k hkl => (hads k hkl).trans (hads'.2 k (by omega))
       refine Hy_sound _ _ _ _ ?_ (ih tm' m' a' hk' h' hm'.glob hads2 (yz hle hads'.1) (fun c hc => ⟨(hst c hc).1, hst' c hc⟩) hlt') hm'
       intro l w hl hm
       cases late with
       | true =>
         obtain ⟨_, f, hf, hff⟩ := hlt'
         exact ⟨.inl ⟨f, hf, hl f hff⟩, Stay.none hm⟩
       | false =>
         simp only [xd, if_false] at hlt
         subst hlt
         exact ⟨.inr (Stay.of hm hm0 hst' hads2), Stay.none hm⟩)
    unfold wpOp
    simp only [ho]
    split
    · rename_i hw; exact .inl (g1 hw)
    · rename_i hw; exact g2 (by simpa using hw)
   refine ⟨fun h0 => (by rw [hr] at h0; cases h0), fun k hk => ?_⟩
   rw [hr] at hk
   simp only [List.mem_cons, ww, or_false] at hk
   rcases hk with rfl | rfl
   · rw [if_pos h2]
     exact one k o a' ho h4 hs.1 fun tm' m' a2 g1 g2 g3 g4 g5 g6 g7 => splan_ok hm0 hQ hns a' late F _ _ tm' m' K a2 (by simp [hsz]) h4 g1 GsOK.nil g2 g3 g4 g5 g6 g7 hq
   · rw [if_pos h2']
     have e : a'.len = b'.len := h5
     show ∀ w, MemOK S w0 w m → wpOp P ops Q k (wpAT P ops (TT L F0 m0) Q a'.len (listed.setIfInBounds k true)) a w
     rw [e]
     exact one k o' b' ho' h4' hs.2 fun tm' m' a2 g1 g2 g3 g4 g5 g6 g7 => splan_ok hm0 hQ hns b' late F _ _ tm' m' K a2 (by simp [hsz]) h4' g1 GsOK.nil g2 g3 g4 g5 g6 g7 hq
theorem inMem_ok {F : List Nat} {m : List (Ck C)} (h : inMem F m) : memLt m.length m = true ∧ ∀ c, inL c F = true → c < m.length := by
 unfold inMem at h
 split at h
 · rename_i hc
   obtain ⟨h1, h2⟩ := Bool.and_eq_true_iff.1 hc
   refine ⟨h1, fun c hc => ?_⟩
   rw [vg] at h2
   have inl : ∀ (F : List Nat), inL c F = true → c ∈ F := by
    intro F
    induction F with
    | nil => intro h; cases h
    | cons x r ih =>
      intro h
      simp only [inL, yr] at h
      rcases h with h | h
      · rw [zr h]; simp
      · exact zg _ (ih h)
   have hmem := inl F hc
   simpa using h2 c hmem
 · exact h.elim
theorem draw_ok {P : Program} (hmix : P.follows .mixedOrders = true) {S : Sx} {w0 w : World} {E : Env P C} {ops : Array Oper} {id : Nat} {Q : Exit → Act → World → Prop} {tm : Tm} {m : List (Ck C)} {K : Tm → List (Ck C) → Tr} {a : Act}
 {F : List Nat} {pl : PTree} (hp : planned ops pl = true) (hin : inMem F m) (hs : splan E ops F m pl tm m K) (h : ActOK (ads m) E.n tm a) (hm : MemOK S w0 w m)
 (hq : ∀ tm' m' a' w', K tm' m' → ActOK (ads m') E.n tm' a' → MemOK S w0 w' m' → Q .normal a' w') : (Code.region id ops true).wp P Q a w := by
 unfold planned at hp
 simp only [zx] at hp
 obtain ⟨⟨h1, h2⟩, h3⟩ := hp
 have h3 := zr h3
 obtain ⟨hm0, hF⟩ := inMem_ok hin
 have key : (Code.region id ops true).wp P (fun e a w => match e with | .normal => Q .normal a w | _ => False) a w := by
  refine wp_region_any hmix ?_
  have := splan_ok (S := S) (w0 := w0) hm0 (Q := fun e a w => match e with | .normal => Q .normal a w | _ => False) (fun c a w hc => hc) (L := lates pl) (F0 := F) h1 pl false F [] _ tm m K a (by simp) h2 hs GsOK.nil h hm.glob (fun _ _ => rfl) (zy _) (fun c hc => ⟨hF c hc, rfl⟩) rfl (fun tm' m' a' w' hk h' hm' _ => hq _ _ _ _ hk h' hm')
  rw [h3] at this
  exact wpAT_any _ _ _ _ (Hy_sound _ _ _ _ (fun l w _ hm => ⟨.inr (Stay.of hm hm0 (fun _ _ => rfl) (fun _ _ => rfl)), Stay.none hm⟩) this hm.drew)
 refine wp_mono key fun e a w he => ?_
 cases e <;> first | exact he | exact he.elim
end Go.Vx
