/-
  The symbolic evaluator, twenty-third part: what a row's laid sentinels give a walk, a whole list of them.
  A slice of structs that came in, az a row of chunks.
  Inputs that hold slices: a struct's own slices, slices of slices; the frame that also tells what the input's blocks hold.
  The symbolic evaluator, twentieth part: the walk of a frame with marks among its deferred calls, and of a frame of a round.
  The symbolic evaluator, twenty-first part: the walk of a frame that calls yield, that is a round's, or that ranges over a function.
  The symbolic evaluator, twenty-second part: a range over a function, its iterator and its rounds gone through in one walk.
  Fields of characteristic 2: sums, values of polynomials, roots, Vandermonde: plain facts.
  The shortest recurrence of a list of sums of powers: plain facts.
  The field of 2^m elements, az numbers: doubling, products, the powers of 2: plain facts.
  The field of 2^m elements: the powers of 2 are all of it but 0: plain facts.
  Words az polynomials of bits: values, flips, the register of a division; when a word is mended, and that what is mended is right: plain facts.
  Polynomials az lists over the field, what the code makes of them; the way of Berlekamp and Massey, step by step: plain facts.
  Bits of bytes; the operations on bits, az numbers: plain facts.
  Round 10: element types; errors; slices of slices.
  Round 10: the field's tables, sums, products, powers, quotients.
  Conditions: none.
-/
import Derived.Test.YtfjogcklhibboaaGreatDoorM1
import Derived.Test.YtfjogcklhibboaaGreatDoorM2
import Derived.Test.YtfjogcklhibboaaGreatDoorM3
import Derived.Stop.LaidErr
import Derived.ProofKit
import Derived.OpenShut
import Derived.ChangeArms
import Derived.MakeChecks
import Derived.Deep.Slices
import Derived.Deep.Strs
import Derived.Handed
import Derived.Deep.Matrix
import Derived.RangeFuncRecord
import Derived.OrdersIn
import Derived.TacticsIn
import Derived.KernelRfl
import Derived.Test.YtfjogcklhibboaaGreatDoorProg
open Array renaming ext' → wd, replicate → uu
open Bool renaming and_eq_true → zq, toNat_le → ul, true_and → zd
open Int renaming emod_emod_of_dvd → tz, emod_eq_of_lt → rh, emod_lt_of_pos → sn, emod_nonneg → uf, natCast_emod → qv, toNat_natCast → zu
open List renaming ext_getElem → wv, getD_eq_getElem?_getD → zy, getElem?_append_left → yx, getElem?_eq_getElem → zt, getElem?_eq_none → yk, getElem?_map → zf, getElem?_range → xh, length_map → zn, length_range → um, map_congr_left → xm, map_cons → vw, mem_append → ue, mem_cons_of_mem → yw, mem_cons_self → xp, mem_of_find?_eq_some → pn, mem_of_getElem? → tw, mem_singleton → wq, pairwise_map → pp, range → xq
open Nat renaming add_comm → up, and_le_left → ub, beq → zi, ble → wc, blt → ye, eq_of_beq_eq_true → zp, eq_of_testBit_eq → vz, le_antisymm → pd, le_of_not_lt → vc, le_refl → zw, le_trans → xl, lt_of_le_of_lt → wh, lt_of_lt_of_le → zk, lt_pow_two_of_testBit → tq, lt_succ_of_lt → rc, lt_succ_self → wt, min_eq_left → xa, mod_lt → yv, mul_comm → xn, mul_div_cancel_left → ri, not_lt_zero → xi, one_lt_two_pow → ug, pos_of_ne_zero → rt, pow_le_pow_right → zj, pow_succ → wg, pow_zero → se, shiftLeft_eq → uw, strongRecOn → pc, sub_zero → rq, testBit_lt_two_pow → xw, testBit_succ → wy, testBit_two_pow → vy, testBit_xor → ww, two_pow_pos → yg, xor_assoc → sa, xor_comm → rp, xor_lt_two_pow → wo, xor_self → qm, xor_zero → sy, zero_le → zg, zero_lt_one → qk, zero_testBit → xj
open Option renaming getD_some → ym, map_some → yr
set_option linter.unusedVariables false
set_option linter.unusedSimpArgs false
set_option linter.unusedSectionVars false
namespace Go.Vx
open Go Go.RowKit Go.ChangeShapes
def SentL (P:Program) (nm:String) (ti:TypeId):List (String×DataW Unit)→List Nat→Prop
 | [],[]=>True
 | x :: r,g :: s=>(∃ text,x.2=.iface nm (.ptr (.agg [.lit (.string text)])))∧P.globalNamed x.1=some g∧(P.globals[g]?).map (·.type)=some ti∧SentL P nm ti r s
 | _,_=>False
def SentAt (W:World) (tp:TypeId):List Nat→List Addr→Prop
 | [],[]=>True
 | g :: s,a :: t=>W.cell? ⟨g,0,none⟩=some (.iface tp (.pointer (some a)))∧(∃ c ty,W.heap[a.block]? = some (.cells c ty (0,0)))∧a∉t∧SentAt W tp s t
 | _,_=>False
theorem laid_all {P:Program} {W:World} {nm:String} {ti tp te ts:TypeId} {ms:Array (String×TypeId)} {f:Field}
 (hi:P.underlying ti=some (.interface ms)) (hrow:∀ u,P.typeName? 3 u=some nm→u=tp) (hp:P.underlying tp=some (.pointer te)) (he:P.underlying te=some (.struct #[f]))
 (hft:f.type=ts) (hfo:f.offset=0) (hs:P.underlying ts=some .string) (hc:P.cellsOf te=1) (hcs:P.cellsOf ts=1):
 ∀ (L:List (String×DataW Unit)) (G:List Nat) (ps:List MemPlace),SentL P nm ti L G→DataW.LaidVars P W L ps→ps.Nodup→
   (∀ b off,MemPlace.cell b off∈ps→(∃ c t,W.heap[b]? = some (.cells c t (0,0)))∧∀ u v,W.cell? ⟨b,off,none⟩=some (.iface u v)→Value.okWide P W .any 0 u v)→
   ∃ az,SentAt W tp G az∧∀ a∈az,MemPlace.cell a.block a.off∈ps
 | [],[],ps,_,_,_,_=>⟨[],trivial,fun a h=>by cases h⟩
 | [],_ :: _,_,h,_,_,_=>h.elim
 | _ :: _,[],_,h,_,_,_=>h.elim
 | (n,d) :: r,g :: s,ps,hL,hv,hnd,hrows=>by
   obtain ⟨⟨text,rfl⟩,hg,ht,hL⟩:=hL
   obtain ⟨g',t',cs,fu,p,q,hg',ht',hv0,hd,hq,rfl⟩:=hv
   obtain rfl:=Option.some.inj (hg.symm.trans hg')
   obtain rfl:=Option.some.inj (ht.symm.trans ht')
   obtain ⟨l⟩:=cs
   have ok0:∀ u v,l=[.iface u v]→Value.okWide P W .any 0 u v:=fun u v e=>by
    subst e
    exact (hrows g 0 (by simp [MemPlace.row])).2 u v (by simpa using World.var?_cell hg' hv0 0)
   obtain ⟨a,str,rfl,hca,hsa,hza,rfl⟩:=errorString_of_trod hi hrow hp he hft hfo hs hc hcs hd ok0
   have hsub:q.Sublist (MemPlace.row ⟨g,0,none⟩ (#[Value.iface tp (.pointer (some a))]).size ++ MemPlace.row a 1 ++ q):=List.sublist_append_right _ _
   obtain ⟨az,h1,h2⟩:=laid_all hi hrow hp he hft hfo hs hc hcs r s q hL hq (hnd.sublist hsub) (fun b off hm=>hrows b off (hsub.subset hm))
   refine ⟨a :: az,⟨by simpa using World.var?_cell hg' hv0 0,(hrows a.block a.off (by simp [MemPlace.row])).1,fun hm => ?_,h1⟩,fun x hx => ?_⟩
   · have:=h2 a hm
     have hd2:=(List.nodup_append.1 hnd).2.2 (.cell a.block a.off) (by simp [MemPlace.row]) _ this
     exact hd2 rfl
   · rcases List.mem_cons.1 hx with rfl | hx
     · simp [MemPlace.row]
     · exact hsub.subset (h2 x hx)
theorem SentAt.get {W:World} {tp:TypeId}:∀ {G:List Nat} {az:List Addr},SentAt W tp G az→∀ i,i<G.length→
 W.cell? ⟨G.getD i 0,0,none⟩=some (.iface tp (.pointer (some (az.getD i default))))∧∃ c ty,W.heap[(az.getD i default).block]? = some (.cells c ty (0,0))
 | [],_,_,i,h=>by simp at h
 | g :: s,[],h,_,_=>h.elim
 | g :: s,a :: t,h,0,_=>⟨h.1,h.2.1⟩
 | g :: s,a :: t,h,i+1,hi=>by simpa using SentAt.get h.2.2.2 i (by simpa using hi)
theorem SentAt.apart {W:World} {tp:TypeId}:∀ {G:List Nat} {az:List Addr},SentAt W tp G az→az.length=G.length∧az.Nodup
 | [],[],_=>⟨rfl,List.nodup_nil⟩
 | [],_ :: _,h=>h.elim
 | _ :: _,[],h=>h.elim
 | g :: s,a :: t,h=>by
   obtain ⟨h1,h2⟩:=SentAt.apart h.2.2.2
   exact ⟨by simp [h1],List.nodup_cons.2 ⟨h.2.2.1,h2⟩⟩
theorem SentAt.one {W:World} {tp:TypeId} {G:List Nat} {az:List Addr} (h:SentAt W tp G az) {i j:Nat} (hi:i<G.length) (hj:j<G.length) (he:az.getD i default=az.getD j default):i=j:=by
 obtain ⟨h1,h2⟩:=h.apart
 have hi':i<az.length:=by omega
 have hj':j<az.length:=by omega
 rw [zy,zy,zt hi',zt hj'] at he
 exact (List.getElem_inj h2).1 he
end Go.Vx
namespace Go.Vx
open Go Go.ChangeShapes Go.WideShapes Go.Deep Go.RowKit
variable {C:Nat→Codec}
def cellV (c:Codec) (b:c.α) (f:Nat):Value:=(((c.enc b).getD f .junk)).va noAd
def IsRows (c:Codec) (w:World) (a:Option Addr) (len cap:Nat) (zs:List c.α):Prop:=
 (a=none∧len=0∧cap=0∧zs=[])∨
 ∃ x,a=some x∧x.spot=none∧x.block<w.heap.size∧len≤cap∧zs.length=cap∧∀ i,i<cap→∀ f,f<c.sz→w.cell? (x.add (i*c.sz+f))=some (cellV c (zs.getD i c.dflt) f)
theorem rows_ok {ad:Nat→Ad} {w:World} {x:Addr} {t:Nat} {l:List (C t).α} {wr:Bool} {gl:Option Bool} (hx:x.spot=none) (hc:∀ i,i<l.length→∀ f,f<(C t).sz→w.cell? (x.add (i*(C t).sz+f))=some (cellV (C t) (l.getD i (C t).dflt) f)):
 Ck.ok ad w (⟨x.block,x.off,(C t).sz,wr,gl,.rows t l⟩:Ck C):=by
 unfold Ck.ok
 refine ⟨rfl,fun i hi f hf => ?_⟩
 have e:(⟨x.block,x.off+(i*(C t).sz+f),none⟩:Addr)=x.add (i*(C t).sz+f):=by
  unfold Addr.add
  split
  · rename_i h;rw [h]
    obtain ⟨b,o,s⟩:=x
    simp only at hx;subst hx;rfl
  · simp
 show w.cell? ⟨x.block,x.off+(i*(C t).sz+f),none⟩=_
 rw [e,hc i hi f hf]
 have hl:=(C t).len (l.getD i (C t).dflt)
 have e2:=congrArg (fun L=>L[f]?) ((C t).flat (l.getD i (C t).dflt) noAd ad)
 simp only [zf,zt (show f<((C t).enc (l.getD i (C t).dflt)).length by omega),yr,Option.some.injEq] at e2
 unfold cellV
 rw [zy (l:=(C t).enc (l.getD i (C t).dflt)),zt (show f<((C t).enc (l.getD i (C t).dflt)).length by omega)]
 exact congrArg some e2
end Go.Vx
namespace Go.Vx
open Go Go.ChangeShapes Go.WideShapes Go.Deep Go.RowKit
variable {C:Nat→Codec}
def IsPart (c:Codec) (w:World) (a:Option Addr) (len cap:Nat) (zs:List c.α):Prop:=
 (a=none∧len=0∧cap=0∧zs=[])∨
 ∃ x,a=some x∧x.spot=none∧x.block<w.heap.size∧len≤cap∧len≤zs.length∧∀ i,i<zs.length→∀ f,f<c.sz→w.cell? (x.add (i*c.sz+f))=some (cellV c (zs.getD i c.dflt) f)
theorem IsRows.part {c:Codec} {w:World} {a:Option Addr} {len cap:Nat} {zs:List c.α} (h:IsRows c w a len cap zs):IsPart c w a len cap zs:=by
 rcases h with h | ⟨x,h1,h2,h3,h4,h5,h6⟩
 · exact .inl h
 · exact .inr ⟨x,h1,h2,h3,h4,by omega,fun i hi=>h6 i (by omega)⟩
theorem deep_ro {W:World} {mem:List (Ck C)} (hnw:noWr mem=true) (h:∀ c∈mem,∀ t x,c.cells.Has t x→(C t).good W x∧∀ b∈(C t).blks x,b<W.heap.size):
 ∀ c∈mem,∀ t x,c.cells.Has t x→(C t).good W x∧∀ b∈(C t).blks x,Blk (wrS mem) W W mem ((C t).own && c.wr) b:=by
 intro c hc t x hx
 obtain ⟨h1,h2⟩:=h c hc t x hx
 refine ⟨h1,fun b hb=>⟨h2 b hb,fun _=>.inr ⟨by rw [noWr_ok hnw c hc,Bool.and_false],c,hc,t,x,hx,hb⟩,fun c' hc' hw => ?_,fun p hp=>by cases hp⟩⟩
 rw [noWr_ok hnw c' hc'] at hw;cases hw
def inB (a:Option Addr):Nat:=match a with
 | none=>0
 | some x=>x.block
def inQ (a:Option Addr):Nat:=match a with
 | none=>0
 | some x=>x.off
abbrev inCk (t:Nat) (a:Option Addr) (l:List (C t).α):Ck C:=⟨inB a,inQ a,(C t).sz,false,some a.isSome,.rows t l⟩
theorem IsPart.ok {W:World} {t:Nat} {a:Option Addr} {n c:Nat} {l:List (C t).α} (h:IsPart (C t) W a n c l) (ad:Nat→Ad) (ho:(inCk t a l:Ck C).on=true):Ck.ok ad W (inCk t a l:Ck C):=by
 rcases h with ⟨rfl,_⟩ | ⟨x,rfl,hx,hb,hl,hz,hc⟩
 · cases ho
 · exact rows_ok hx hc
theorem IsPart.lt {W:World} {t:Nat} {a:Option Addr} {n c:Nat} {l:List (C t).α} (h:IsPart (C t) W a n c l) (ho:(inCk t a l:Ck C).on=true):(inCk t a l:Ck C).block<W.heap.size:=by
 rcases h with ⟨rfl,_⟩ | ⟨x,rfl,hx,hb,hl,hz,hc⟩
 · cases ho
 · exact hb
theorem IsPart.sq {c':Codec} {W:World} {a:Option Addr} {n c:Nat} {l:List c'.α} (h:IsPart c' W a n c l):n≤c∧n≤l.length∧(a.isSome=false→n=0∧c=0):=by
 rcases h with ⟨rfl,rfl,rfl,rfl⟩ | ⟨x,rfl,hx,hb,hl,hz,hc⟩
 · exact ⟨zw _,zw _,fun _=>⟨rfl,rfl⟩⟩
 · exact ⟨hl,hz,fun h=>by cases h⟩
theorem IsPart.va {W:World} {t:Nat} {a:Option Addr} {n c:Nat} {l:List (C t).α} (h:IsPart (C t) W a n c l) {ad:Nat→Ad} {i:Nat} (hi:ad i=(inCk t a l:Ck C).ad):SV.va ad (.sl i 0 n c)=.slice a n c:=by
 rcases h with ⟨rfl,rfl,rfl,rfl⟩ | ⟨x,rfl,hx,hb,hl,hz,hc⟩
 · simp only [SV.va,hi];rfl
 · simp only [SV.va,hi]
   obtain ⟨b,o,s⟩:=x
   simp only at hx;subst hx
   simp [Ck.ad,Ck.on,Ad.at,inB,inQ]
end Go.Vx
namespace Go.Vx
open Go
variable {C:Nat→Codec}
def FR:Option Nat→Fence
 | none=>Fence.wide
 | some l=>Fence.wide.inRound l
theorem FR_fn (r:Option Nat) (f:FuncId):(FR r).fn f:=by cases r <;> trivial
theorem FR_depth (r:Option Nat):(FR r).depth=none:=by cases r <;> rfl
theorem FR_fenced (P:Program) (r:Option Nat):Machine.fenced P (FR r)=Machine.fenced P Fence.wide:=by cases r <;> rfl
theorem callsFR {r:Option Nat} {n:Nat} {P:Program} {f:FuncId} {args:Array Value} {w:World} {R:Ending→World→Prop} (h:Calls P f args w R):CallsIn (FR r) n P f args w R:=by
 cases r with
 | none=>exact callsIn_wide.2 h
 | some l=>exact (callsIn_wide (n:=n)).2 h
theorem rowsFR {r:Option Nat} {n:Nat} {P:Program} {row:String} {args:Array Value} {w:World} {R:Value→World→Prop} (h:Rows P row args w R):RowsIn (FR r) n P row args w R:=by
 intro c cs _
 obtain ⟨v,w',hr,hs⟩:=h c cs
 exact ⟨v,w',hr,by rw [FR_fenced];exact stepsIn_wide.2 hs⟩
def wa (a:Act) (ds:List Deferred):Act:={ a with defers:=a.defers ++ ds }
theorem wa_eval (a:Act) (ds:List Deferred):(wa a ds).eval=a.eval:=by funext x;cases x <;> rfl
theorem wa_put (a:Act) (ds:List Deferred) (dst:Option Tmp) (v:Value):(wa a ds).put dst v=wa (a.put dst v) ds:=by cases dst <;> rfl
def liftN (ds:List Deferred) (K:Act→World→Prop) (a:Act) (w:World):Prop:=∃ b,K b w∧a=wa b ds
def liftQ (ds:List Deferred) (Q:Exit→Act→World→Prop) (e:Exit) (a:Act) (w:World):Prop:=∃ b,Q e b w∧a=wa b ds
def isDefer:Op→Bool
 | .defer _=>true
 | _=>false
def noDefer:List Oper→Bool
 | []=>true
 | o :: r=>match isDefer o.op with
   | true=>false
   | false=>noDefer r
theorem noDefer_ok:∀ {l:List Oper},noDefer l=true→∀ o∈l,∀ c,o.op≠.defer c
 | [],_,o,ho=>by cases ho
 | x :: r,h,o,ho=>by
   simp only [noDefer] at h
   split at h
   · cases h
   · rename_i hx
     rcases List.mem_cons.1 ho with rfl | ho
     · intro c hc;rw [hc] at hx;cases hx
     · exact noDefer_ok h o ho
theorem wpIn_of_wp {P:Program} {r:Option Nat} {n:Nat} {o:Oper} (hnd:∀ c,o.op≠.defer c) {a:Act} {w:World} {ds:List Deferred} {next:Act→World→Prop} {Q Q':Exit→Act→World→Prop} (h:o.wp P a w next Q) (hQ:∀ e b w,Q e b w→Q' e (wa b ds) w):
 o.wpIn (FR r) n P (wa a ds) w (liftN ds next) Q':=by
 refine ⟨fun f _=>FR_fn r f,?_⟩
 rw [wa_eval,Oper.semAt_eq _ _ _ hnd]
 unfold Oper.wp at h
 generalize (execOp a.eval o).run P w=res at h
 have hd:∀ {p:Prop},(FR r).depth.isSome=true→p:=fun h=>by rw [FR_depth] at h;cases h
 cases res with
 | ok nx w'=>
   cases nx with
   | value v=>exact ⟨_,h,wa_put a ds _ _⟩
   | skip=>exact ⟨_,h,wa_put a ds _ _⟩
   | defer d=>
     refine ⟨_,h,?_⟩
     show ({ wa a ds with defers:=d :: (a.defers ++ ds) }:Act).put o.dst undef=_
     cases o.dst <;> rfl
   | enter f args=>
     refine ⟨hd,(callsFR h).mono ?_⟩
     intro e w'' he
     cases e with
     | returned v=>exact ⟨_,he,wa_put a ds _ _⟩
     | panicked c=>exact hQ _ _ _ he
     | outgrown=>obtain ⟨b,u,hb⟩:=he;exact ⟨wa b ds,u,hQ _ _ _ hb⟩
   | row row args=>exact ⟨hd,(rowsFR h).mono fun v w'' he=>⟨_,he,wa_put a ds _ _⟩⟩
   | _=>exact h.elim
 | halt x w'=>
   cases x with
   | panic v=>exact hQ _ _ _ h
   | _=>exact h.elim
theorem wpAnyIn_of {P:Program} {r:Option Nat} {n:Nat} {md:Region.Mode} {ops:Array Oper} (hnd:∀ (i:Nat) (o:Oper),ops[i]? = some o→∀ c,o.op≠.defer c) {ds:List Deferred} {Q:Exit→Act→World→Prop} (hQ:∀ a w,¬ Q .outgrown a w):
 ∀ (fuel:Nat) (listed:Array Bool) (a:Act) (w:World),wpAny P md ops Q fuel listed a w→wpAnyIn (FR r) n P md ops (liftQ ds Q) fuel listed (wa a ds) w
 | 0,listed,a,w,h=>⟨h.1,a,h.2,rfl⟩
 | fuel+1,listed,a,w,h=>by
   refine ⟨fun h0=>⟨a,h.1 h0,rfl⟩,fun i hi => ?_⟩
   have h1:=h.2 i hi
   unfold wpOp at h1
   unfold wpOpIn
   cases ho:ops[i]? with
   | none=>rw [ho] at h1;exact wpAnyIn_of hnd hQ fuel _ a w h1
   | some o=>
     rw [ho] at h1
     simp only at h1 ⊢
     have ht:(wa a ds).tmps=a.tmps:=rfl
     rw [ht]
     split
     · rename_i hw
       rw [if_pos hw] at h1
       rcases h1 with h1 | ⟨_,b,u,hb⟩
       · refine Oper.wpIn_mono ?_ (wpIn_of_wp (hnd i o ho) h1 fun e b w hb=>⟨b,hb,rfl⟩)
         rintro a' w' ⟨b,hb,rfl⟩
         exact wpAnyIn_of hnd hQ fuel _ b w' hb
       · exact (hQ _ _ hb).elim
     · rename_i hw
       rw [if_neg hw] at h1
       refine ⟨fun f _=>FR_fn r f,?_⟩
       rw [wa_put]
       exact wpAnyIn_of hnd hQ fuel _ _ w h1
end Go.Vx
namespace Go.Vx
open Go
variable {C:Nat→Codec}
theorem draw_any {P:Program} {S:Sx} {w0 w:World} {E:Env P C} {ops:Array Oper} {Q:Act→World→Prop} {tm:Tm} {m:List (Ck C)} {K:Tm→List (Ck C)→Tr} {a:Act}
 {F:List Nat} {pl:PTree} (hp:planned ops pl=true) (hin:inMem F m) (hs:splan E ops F m pl tm m K) (h:ActOK (ads m) E.n tm a) (hm:MemOK S w0 w m)
 (hq:∀ tm' m' a' w',K tm' m'→ActOK (ads m') E.n tm' a'→MemOK S w0 w' m'→(m.length≤m'.length∧∀ k,k<m.length→ads m k=ads m' k)→Q a' w'):
 wpAny P .any ops (fun e a w=>match e with | .normal=>Q a w | _=>False) ops.size (uu ops.size false) a { w with drawn:=w.drawn+1 }:=by
 unfold planned at hp
 simp only [zq] at hp
 obtain ⟨⟨h1,h2⟩,h3⟩:=hp
 have h3:=zp h3
 obtain ⟨hm0,hF⟩:=inMem_ok hin
 have:=splan_ok (S:=S) (w0:=w0) hm0 (Q:=fun e a w=>match e with | .normal=>Q a w | _=>False) (fun c a w hc=>hc) (L:=lates pl) (F0:=F) h1 pl false F [] _ tm m K a (by simp) h2 hs GsOK.nil h hm.glob (fun _ _=>rfl) (zw _) (fun c hc=>⟨hF c hc,rfl⟩) rfl (fun tm' m' a' w' hk h' hm' hg=>hq _ _ _ _ hk h' hm' hg)
 rw [h3] at this
 exact wpAT_any _ _ _ _ (Hy_sound _ _ _ _ (fun l w _ hm=>⟨.inr (Stay.of hm hm0 (fun _ _=>rfl) (fun _ _=>rfl)),Stay.none hm⟩) this hm.drew)
def FixOK (A0:Nat→Ad) (fx:List Nat) (m:List (Ck C)):Prop:=∀ c∈fx,c<m.length∧ads m c=A0 c
theorem FixOK.grow {A0:Nat→Ad} {fx:List Nat} {m m':List (Ck C)} (h:FixOK A0 fx m) (hl:m.length≤m'.length) (ha:∀ k,k<m.length→ads m k=ads m' k):FixOK A0 fx m':=by
 intro c hc
 obtain ⟨h1,h2⟩:=h c hc
 exact ⟨by omega,(ha c h1).symm.trans h2⟩
def fixB (ρ:List Nat) (n:Nat):List Nat→Bool
 | []=>true
 | c :: r=>zi (rn ρ c) c && ye c n && fixB ρ n r
theorem fixB_ok {ρ:List Nat} {n:Nat}:∀ {fx:List Nat},fixB ρ n fx=true→∀ c∈fx,rn ρ c=c∧c<n
 | [],_,c,hc=>by cases hc
 | x :: r,h,c,hc=>by
   simp only [fixB,zq] at h
   rcases List.mem_cons.1 hc with rfl | hc
   · exact ⟨zp h.1.1,by simpa using h.1.2⟩
   · exact fixB_ok h.2 c hc
mutual
def SV.nm:SV→List Nat
 | .ptr c _ _=>[c]
 | .sl c _ _ _=>[c]
 | .mp c=>[c]
 | .agg vs=>SV.nms vs
 | .tup vs=>SV.nms vs
 | .ifc _ v=>SV.nm v
 | .fn _ a b=>SV.nms a ++ SV.nms b
 | .cnd _ v=>SV.nm v
 | _=>[]
def SV.nms:List SV→List Nat
 | []=>[]
 | v :: r=>SV.nm v ++ SV.nms r
end
mutual
theorem SV.va_nm {ad ad':Nat→Ad}:∀ v:SV,(∀ c∈v.nm,ad c=ad' c)→SV.va ad v=SV.va ad' v
 | .junk,_ | .undef,_ | .int _ _,_ | .bool _,_ | .nilp,_ | .nils,_ | .nili,_ | .nilf,_ | .gp _,_ | .val _,_=>by simp [SV.va]
 | .ptr c i f,h=>by simp [SV.va,h c (by simp [SV.nm])]
 | .sl c i f m,h=>by simp [SV.va,h c (by simp [SV.nm])]
 | .mp c,h=>by simp [SV.va,h c (by simp [SV.nm])]
 | .agg vs,h=>by simp [SV.va,SV.vas_nm vs (by simpa [SV.nm] using h)]
 | .tup vs,h=>by simp [SV.va,SV.vas_nm vs (by simpa [SV.nm] using h)]
 | .ifc t v,h=>by simp [SV.va,SV.va_nm v (by simpa [SV.nm] using h)]
 | .fn f a b,h=>by
   simp only [SV.nm,ue] at h
   simp [SV.va,SV.vas_nm a (fun c hc=>h c (.inl hc)),SV.vas_nm b (fun c hc=>h c (.inr hc))]
 | .cnd cs v,h=>by simp [SV.va,SV.va_nm v (by simpa [SV.nm] using h)]
theorem SV.vas_nm {ad ad':Nat→Ad}:∀ vs:List SV,(∀ c∈SV.nms vs,ad c=ad' c)→SV.vas ad vs=SV.vas ad' vs
 | [],_=>rfl
 | v :: r,h=>by
   simp only [SV.nms,ue] at h
   simp [SV.vas,SV.va_nm v (fun c hc=>h c (.inl hc)),SV.vas_nm r (fun c hc=>h c (.inr hc))]
end
def tmNm:Tm→List Nat
 | []=>[]
 | (_,v) :: r=>SV.nm v ++ tmNm r
theorem tmNm_get:∀ {tm:Tm} {t c:Nat},c∈(get tm t).nm→c∈tmNm tm
 | [],t,c,h=>by simp [get,SV.nm] at h
 | (k,v) :: r,t,c,h=>by
   rw [get_put] at h
   simp only [tmNm,ue]
   split at h
   · exact .inl h
   · exact .inr (tmNm_get h)
theorem ActOK.fixed {ad ad':Nat→Ad} {n:Nat} {tm:Tm} {a:Act} (h:ActOK ad n tm a) (he:∀ c∈tmNm tm,ad c=ad' c):ActOK ad' n tm a:=by
 refine ⟨h.defers,h.size,fun t => ?_,h.inv⟩
 rcases h.tmps t with h1 | h1
 · exact .inl h1
 · right;rw [h1,SV.va_nm _ (fun c hc=>he c (tmNm_get hc))]
def subRx (fx:List Nat) (tm:Tm) (m:List (Ck C)) (tm':Tm) (m':List (Ck C)) (ρ:List Nat):Tr:=
 match fx with
 | []=>subR tm m tm' m' ρ
 | _ :: _=>match allLt m.length ρ && fixB ρ m'.length fx with
   | false=>.no
   | true=>subR tm m tm' m' ρ
def subPx (fx:List Nat) (tm:Tm) (m:List (Ck C)) (tm':Tm) (m':List (Ck C)) (acc:List (Nat×Nat)):Tr:=
 fP acc fun acc=>unifMemK m 0 m' acc fun A=>fNames (namesOf A 0 m') fun ρ=>subRx fx tm m tm' m' ρ
theorem subPx_ok {S:Sx} {w0 w:World} {n:Nat} {fx:List Nat} {A0:Nat→Ad} {tm tm':Tm} {m m':List (Ck C)} {acc:List (Nat×Nat)} (h:subPx fx tm m tm' m' acc) {a:Act} (ha:ActOK (ads m) n tm a) (hm:MemOK S w0 w m) (hx:FixOK A0 fx m):
 ActOK (ads m') n tm' a∧MemOK S w0 w m'∧FixOK A0 fx m':=by
 unfold subPx at h
 rw [fP_eq,unifMemK_eq,fNames_eq] at h
 unfold subRx at h
 split at h
 · have hP:(subP tm m tm' m' acc).holds:=by rw [subP_eq];exact h
   obtain ⟨h1,h2⟩:=subP_ok hP ha hm
   exact ⟨h1,h2,fun c hc=>by cases hc⟩
 split at h
 · exact h.elim
 rename_i hf
 obtain ⟨hall,hf⟩:=Bool.and_eq_true_iff.1 hf
 obtain ⟨⟨h1,h2⟩,h3⟩:=subR_ok h ha hm
 refine ⟨h1,h2,fun c hc => ?_⟩
 obtain ⟨hr,hl⟩:=fixB_ok hf c hc
 refine ⟨hl,?_⟩
 rw [h3 hall c hl,hr]
 exact (hx c hc).2
abbrev PJ:=Option Ex
abbrev Yf (C:Nat→Codec):=List SV→Tm→List (Ck C)→(Bool→PJ→List (Ck C)→Tr)→Tr
abbrev Rf (C:Nat→Codec):=Operand→Array Tmp→Code→Code→Tm→List (Ck C)→(Ex→Tm→List (Ck C)→Tr)→Tr
def yieldOf (tm:Tm) (m:List (Ck C)) (o:Oper):Option (Nat×List SV):=
 match o.guard with
 | some _=>none
 | none=>match o.op with
   | .call c=>match c.callee with
     | .value f=>match ev tm m [] f,optAll (ev tm m []) c.args.toList with
       | some (.fn (.yield l) [] []),some az=>some (l,az)
       | _,_=>none
     | _=>none
   | _=>none
def stepY {P:Program} (E:Env P C) (Y:Option (Nat×Yf C)) (ops:Array Oper) (o:Oper) (pj:PJ) (tm:Tm) (m:List (Ck C)) (K:PJ→Tm→List (Ck C)→Tr):Tr:=
 match Y with
 | none=>stepP E ops o tm m (K pj)
 | some (l,go)=>match yieldOf tm m o with
   | none=>stepP E ops o tm m (K pj)
   | some (l',az)=>match pj with
     | some _=>.no
     | none=>.and (.lf (l'=l)) (go az tm m fun b pj' m'=>match put? E.n tm o.dst [] (.bool (SB.lit b)) with
       | some tm'=>K pj' tm' m'
       | none=>.no)
def sopsG {P:Program} (E:Env P C) (Y:Option (Nat×Yf C)) (ops:Array Oper):List Oper→PJ→Tm→List (Ck C)→(PJ→Tm→List (Ck C)→Tr)→Tr
 | [],pj,tm,m,K=>K pj tm m
 | o :: r,pj,tm,m,K=>stepY E Y ops o pj tm m fun pj' tm' m'=>fTm1 tm' fun tm'=>fM m' fun m'=>sopsG E Y ops r pj' tm' m' K
structure Gs where
 r:Option Nat
 Sp:PJ→List Nat→Sx
 w0:World
 dm:List Nat→List Deferred
 A0:Nat→Ad
 fx:List Nat
def YOK (P:Program) (G:Gs) (Y:Option (Nat×Yf C)):Prop:=
 ∀ l go,Y=some (l,go)→∀ az tm (m:List (Ck C)) Kc w ds R,(go az tm m Kc:Tr).holds→MemOK (G.Sp none ds) G.w0 w m→FixOK G.A0 G.fx m→
   (∀ b pj m' w',(Kc b pj m').holds→MemOK (G.Sp pj ds) G.w0 w' m'→FixOK G.A0 G.fx m'→(∀ c∈tmNm tm,c<m'.length∧ads m' c=ads m c)→R (.returned (.bool b)) w')→
   ∃ fn tmps assign body,(Instr.yield l (SV.vas (ads m) az).toArray).run P w=.ok (.round l fn tmps assign body) w∧RoundIn (FR G.r) 0 P l fn tmps assign body w R
def ROK (P:Program) (n:Nat) (G:Gs) (RF:Rf C):Prop:=
 ∀ g ps az bd tm (m:List (Ck C)) K a w (Q:Exit→Act→World→Prop) ds,(RF g ps az bd tm m K).holds→ActOK (ads m) n tm a→MemOK (G.Sp none ds) G.w0 w m→FixOK G.A0 G.fx m→
   (∀ e tm' m' a' w' ds',(K e tm' m').holds→ActOK (ads m') n tm' a'→MemOK (G.Sp none ds') G.w0 w' m'→FixOK G.A0 G.fx m'→Q (Ex.of e) (wa a' (G.dm ds')) w')→(Code.rangeFunc g ps az bd).wpIn (FR G.r) 0 P Q (wa a (G.dm ds)) w
theorem sopsG_ok {P:Program} {G:Gs} {E:Env P C} {Y:Option (Nat×Yf C)} (hY:YOK P G Y) {ops:Array Oper} {ds:List Nat} {Q:Exit→Act→World→Prop}:∀ {l:List Oper} (hnd:∀ o∈l,∀ c,o.op≠.defer c) {pj:PJ} {tm:Tm} {m:List (Ck C)} {K:PJ→Tm→List (Ck C)→Tr} {a:Act} {w:World},
 (sopsG E Y ops l pj tm m K).holds→ActOK (ads m) E.n tm a→MemOK (G.Sp pj ds) G.w0 w m→FixOK G.A0 G.fx m→
 (∀ pj' tm' m' a' w',(K pj' tm' m').holds→ActOK (ads m') E.n tm' a'→MemOK (G.Sp pj' ds) G.w0 w' m'→FixOK G.A0 G.fx m'→Q .normal (wa a' (G.dm ds)) w')→wpListIn (FR G.r) 0 P ops Q l (wa a (G.dm ds)) w
 | [],_,pj,tm,m,K,a,w,hs,h,hm,hx,hq=>hq _ _ _ _ _ hs h hm hx
 | o :: r,hnd,pj,tm,m,K,a,w,hs,h,hm,hx,hq=>by
   have hndr:∀ o∈r,∀ c,o.op≠.defer c:=fun o ho=>hnd o (yw _ ho)
   have ht:(wa a (G.dm ds)).tmps=a.tmps:=rfl
   have plain:stepP E ops o tm m (fun tm' m'=>fTm1 tm' fun tm'=>fM m' fun m'=>sopsG E Y ops r pj tm' m' K)→wpListIn (FR G.r) 0 P ops Q (o :: r) (wa a (G.dm ds)) w:=by
    intro hs
    obtain ⟨h1,h2⟩:=stepP_ok (Q:=fun _ _ _=>False) (next:=fun a' w'=>wpListIn (FR G.r) 0 P ops Q r (wa a' (G.dm ds)) w') hs h hm (fun tm' m' a' w' hk h' hm' hads=>by
     simp only [fTm1_eq,fM_eq] at hk
     exact sopsG_ok hY hndr hk h' hm' (hx.grow hads.1 hads.2) hq)
    unfold wpListIn
    rw [ht]
    split
    · rename_i hw
      refine Oper.wpIn_mono ?_ (wpIn_of_wp (r:=G.r) (n:=0) (ds:=G.dm ds) (hnd o (xp ..)) (h1 hw) fun e b w hb=>hb.elim)
      rintro a' w' ⟨b,hb,rfl⟩;exact hb
    · rename_i hw
      refine ⟨fun f _=>FR_fn _ f,?_⟩
      rw [wa_put]
      exact h2 (by simpa using hw)
   simp only [sopsG] at hs
   unfold stepY at hs
   split at hs
   · exact plain hs
   · rename_i l go
     split at hs
     · exact plain hs
     · rename_i l' az hyo
       split at hs
       · exact hs.elim
       obtain ⟨hl,hs⟩:=hs
       have hl:l'=l:=hl
       subst hl
       -- the call
       unfold yieldOf at hyo
       split at hyo <;> try contradiction
       rename_i hg
       split at hyo <;> try contradiction
       rename_i c hop
       split at hyo <;> try contradiction
       rename_i fo hcal
       split at hyo <;> try contradiction
       rename_i l2 as2 hf has
       simp only [Option.some.injEq,Prod.mk.injEq] at hyo
       obtain ⟨rfl,rfl⟩:=hyo
       have hnil:AlOK tm []:=by intro p hp;cases hp
       have ef:=ev_ok h hm.glob hnil _ _ hf
       have eas:=optAll_ok (g:=SV.va (ads m)) (ev_ok h hm.glob hnil) has
       unfold wpListIn
       rw [ht,if_pos (by simp [Region.wanted,hg])]
       refine ⟨fun f _=>FR_fn _ f,?_⟩
       rw [wa_eval,Oper.semAt_eq _ _ _ (hnd o (xp ..))]
       obtain ⟨fn,tmps,assign,body,hy,hR⟩:=hY _ _ rfl as2 tm m _ w ds (fun e w''=>match e with
        | .returned v=>wpListIn (FR G.r) 0 P ops Q r ((wa a (G.dm ds)).put o.dst v) w''
        | _=>False) hs hm hx (by
        intro b pj' m' w' hk hm' hx' hfx
        split at hk
        · rename_i tm' hp
          show wpListIn (FR G.r) 0 P ops Q r ((wa a (G.dm ds)).put o.dst (.bool b)) w'
          rw [wa_put]
          have hA:ActOK (ads m') E.n tm a:=h.fixed (fun c hc=>((hfx c hc).2).symm)
          have hA':=put_ok hA hp (by simp) (.bool b) (by simp [mkc,SV.va,SB.val_lit])
          simp only [fTm1_eq,fM_eq] at hk
          exact sopsG_ok hY hndr hk hA' hm' hx' hq
        · exact hk.elim)
       have hexec:(execOp a.eval o).run P w=.ok (.round l2 fn tmps assign body) w:=by
        have hargs:c.args.map a.eval=(SV.vas (ads m) as2).toArray:=by
         apply wd
         simp [SV.vas_eq,eas]
        obtain ⟨dst,op,type,pos,after,guard⟩:=o
        simp only at hop
        subst hop
        obtain ⟨callee,args,argTypes⟩:=c
        simp only at hcal
        subst hcal
        simp only at hargs
        simp only [execOp,resolve,ef,SV.va,SV.vas,hargs,Deferred.ofValue]
        simp [invoke,hy]
       rw [hexec]
       refine ⟨fun hd=>(by rw [FR_depth] at hd;cases hd),hR.mono ?_⟩
       intro e w'' he
       cases e with
       | returned v=>exact he
       | panicked _=>exact he.elim
       | outgrown=>exact he.elim
def sregG {P:Program} (E:Env P C) (Y:Option (Nat×Yf C)) (id:Nat) (ops:Array Oper) (draw:Bool) (pj:PJ) (tm:Tm) (m:List (Ck C)) (K:PJ→Tm→List (Ck C)→Tr):Tr:=
 match noDefer ops.toList with
 | false=>.no
 | true=>match draw with
   | false=>sopsG E Y ops ops.toList pj tm m K
   | true=>match findPlan id E.plans with
     | none=>.and (.lf (Region.lexB .any ops=true)) (sopsQ E ops ops.toList tm m (K pj))
     | some (F,pl)=>.and (.lf (planned ops pl=true)) (.and (inMem (frozen tm F) m) (splan E ops (frozen tm F) m pl tm m (K pj)))
def sexecG {P:Program} (E:Env P C) (L:List (Inv' C)) (fx:List Nat) (Y:Option (Nat×Yf C)) (RF:Rf C):Code→PJ→Tm→List (Ck C)→(Ex→PJ→Tm→List (Ck C)→Tr)→Tr
 | .skip,pj,tm,m,K=>K .nor pj tm m
 | .region id ops draw,pj,tm,m,K=>sregG E Y id ops draw pj tm m fun pj' tm' m'=>K .nor pj' tm' m'
 | .seq a b,pj,tm,m,K=>match findJ b L with
   | []=>sexecG E L fx Y RF a pj tm m fun e pj' tm' m'=>match e with
     | .nor=>sexecG E L fx Y RF b pj' tm' m' K
     | e=>K e pj' tm' m'
   | I0 :: Ir=>match pj with
     | some _=>.no
     | none=>fL (I0 :: Ir) fun Is=>fLN (writes a) fun ws=>
       .and (sexecG E L fx Y RF a none tm m fun e pj' tm' m'=>match e with
        | .nor=>match pj' with
          | some _=>.no
          | none=>Tr.lf (Stands Is fun I' x'=>I'.inv x'∧(linked (noP (I'.mem x' m) m ++ linkP ws tm (I'.tm x')) (subPx fx tm' m' (I'.tm x' ++ keepTm (keysOf (I'.tm x') ++ ws) tm) (I'.mem x' m) (unifTm tm' (I'.tm x')))).holds)
        | e=>K e pj' tm' m')
       (allI Is fun I=>.all fun x=>ifNo (linkNo ws tm (I.tm x)) (ifNo (notApp (I.mem x m) m) (.imp (I.inv x) (linkT (linkP ws tm (I.tm x)) (fTm (I.tm x ++ keepTm (keysOf (I.tm x) ++ ws) tm) fun tmL=>fM (I.mem x m) fun mL=>sexecG E L fx Y RF b none tmL mL K)))))
 | .cond c x y,pj,tm,m,K=>match ev tm m [] c with
   | some (.bool .t)=>sexecG E L fx Y RF x pj tm m K
   | some (.bool .f)=>sexecG E L fx Y RF y pj tm m K
   | some (.bool (.tm b))=>.and (.imp (b=true) (sexecG E L fx Y RF x pj tm m K)) (.imp (b=false) (sexecG E L fx Y RF y pj tm m K))
   | _=>.no
 | .block id c,pj,tm,m,K=>sexecG E L fx Y RF c pj tm m fun e pj' tm' m'=>match e with
   | .exit i=>match zi i id with
     | true=>K .nor pj' tm' m'
     | false=>K (.exit i) pj' tm' m'
   | e=>K e pj' tm' m'
 | .loop c,pj,tm,m,K=>match pj with
   | some _=>.no
   | none=>fL (findInvs (firstId c) L) fun Is=>fLN (writes c) fun ws=>
     .and (.lf (Stands Is fun I x0=>I.inv x0∧(linked (noP (I.mem x0 m) m ++ linkP ws tm (I.tm x0)) (subPx fx tm m (I.tm x0 ++ keepTm (keysOf (I.tm x0) ++ ws) tm) (I.mem x0 m) (unifTm tm (I.tm x0)))).holds))
      (allI Is fun I=>.all fun x=>ifNo (linkNo ws tm (I.tm x)) (ifNo (notApp (I.mem x m) m) (.imp (I.inv x) (linkT (linkP ws tm (I.tm x)) (fTm (I.tm x ++ keepTm (keysOf (I.tm x) ++ ws) tm) fun tmL=>fM (I.mem x m) fun mL=>sexecG E L fx Y RF c none tmL mL fun e pj' tm' m'=>match e with
        | .nor=>match pj' with
          | some _=>.no
          | none=>Tr.lf (Stands Is fun I' x'=>I'.inv x'∧I'.meas x'<I.meas x∧(linked (noP (I'.mem x' m) m ++ linkP ws tm (I'.tm x')) (subPx fx tm' m' (I'.tm x' ++ keepTm (keysOf (I'.tm x') ++ ws) tm) (I'.mem x' m) (unifTm tm' (I'.tm x')))).holds)
        | e=>K e pj' tm' m')))))
 | .exit id,pj,tm,m,K=>K (.exit id) pj tm m
 | .ret,pj,tm,m,K=>K .ret pj tm m
 | .rangeFunc g ps az bd,pj,tm,m,K=>match pj with
   | some _=>.no
   | none=>RF g ps az bd tm m fun e tm' m'=>K e none tm' m'
 | _,_,_,_,_=>.no
theorem wpIn_loop' {F:Fence} {n:Nat} {P:Program} {Q:Exit→Act→World→Prop} {a:Act} {w:World} {c:Code} (I:Nat→Act→World→Prop) (k0:Nat) (h₀:I k0 a w)
 (round:∀ k a w,I k a w→c.wpIn F n P (Exit.then (fun a' w'=>∃ k',k'<k∧I k' a' w') Q) a w):(Code.loop c).wpIn F n P Q a w:=by
 intro b k cs hro hb hr
 have key:∀ j a w,I j a w→∃ e a' w',Q e a' w'∧ArrivesIn (Machine.fenced P F) P (lone (b.atR a (.code c :: .inLoop c :: k)) cs w) b k cs e a' w':=by
  intro j
  induction j using pc with
  | _ j ih=>
    intro a w hI
    obtain ⟨e,a₁,w₁,hq,harr⟩:=round j a w hI b (.inLoop c :: k) cs hro hb hr
    cases e with
    | normal=>
      obtain ⟨j',hlt,hI₁⟩:=hq
      obtain ⟨e₂,a₂,w₂,hq₂,harr₂⟩:=ih j' hlt a₁ w₁ hI₁
      exact ⟨e₂,a₂,w₂,hq₂,.of_steps (StepsIn.trans harr (.one (fenced_calm hb hr rfl) stepR_inLoop)) harr₂⟩
    | exit id=>exact ⟨_,a₁,w₁,hq,.pass (x:=.inLoop c) rfl (fun _ _=>.inl (by simp)) harr⟩
    | goto l=>exact ⟨_,a₁,w₁,hq,.pass (x:=.inLoop c) rfl (fun _ _=>.inl (by simp)) harr⟩
    | ret=>exact ⟨_,a₁,w₁,hq,.pass (x:=.inLoop c) rfl (fun _ _=>.inl (by simp)) harr⟩
    | panic ch=>exact ⟨_,a₁,w₁,hq,.pass (x:=.inLoop c) rfl (fun _ _=>.inl (by simp)) harr⟩
    | outgrown=>exact ⟨_,a₁,w₁,hq,.pass (x:=.inLoop c) rfl (fun _ _=>.inl (by simp)) harr⟩
 obtain ⟨e,a',w',hq,harr⟩:=key k0 a w h₀
 exact ⟨e,a',w',hq,.of_steps (.one (fenced_calm hb hr rfl) stepR_loop) harr⟩
theorem sexecG_ok {P:Program} (hmix:P.follows .mixedOrders=true) {G:Gs} {E:Env P C} {L:List (Inv' C)} {Y:Option (Nat×Yf C)} {RF:Rf C} (hY:YOK P G Y) (hR:ROK P E.n G RF):
 ∀ {c:Code} {pj:PJ} {tm:Tm} {m:List (Ck C)} {K:Ex→PJ→Tm→List (Ck C)→Tr} {a:Act} {w:World} {ds:List Nat} {Q:Exit→Act→World→Prop},
 (sexecG E L G.fx Y RF c pj tm m K).holds→ActOK (ads m) E.n tm a→MemOK (G.Sp pj ds) G.w0 w m→FixOK G.A0 G.fx m→
 (∀ e pj' tm' m' a' w' ds',(K e pj' tm' m').holds→ActOK (ads m') E.n tm' a'→MemOK (G.Sp pj' ds') G.w0 w' m'→FixOK G.A0 G.fx m'→Q (Ex.of e) (wa a' (G.dm ds')) w')→c.wpIn (FR G.r) 0 P Q (wa a (G.dm ds)) w:=by
 intro c
 induction c with
 | skip=>intro pj tm m K a w ds Q hs h hm hx hq;exact wpIn_skip (hq _ _ _ _ _ _ _ hs h hm hx)
 | region id ops draw=>
   intro pj tm m K a w ds Q hs h hm hx hq
   simp only [sexecG,sregG] at hs
   split at hs
   · exact hs.elim
   rename_i hnd
   have hnd':=noDefer_ok hnd
   cases draw with
   | false=>exact wpIn_region_list (sopsG_ok hY hnd' hs h hm hx (fun pj' tm' m' a' w' hk h' hm' hx'=>hq _ _ _ _ _ _ _ hk h' hm' hx'))
   | true=>
     have hndi:∀ (i:Nat) (o:Oper),ops[i]? = some o→∀ c,o.op≠.defer c:=fun i o ho=>hnd' o (by
      have:=tw (l:=ops.toList) (i:=i) (by simpa using ho)
      exact this)
     have fin:∀ (Q0:Act→World→Prop),(∀ a' w',Q0 a' w'→Q .normal (wa a' (G.dm ds)) w')→
      wpAny P .any ops (fun e a w=>match e with | .normal=>Q0 a w | _=>False) ops.size (uu ops.size false) a { w with drawn:=w.drawn+1 }→(Code.region id ops true).wpIn (FR G.r) 0 P Q (wa a (G.dm ds)) w:=by
      intro Q0 h0 hA
      refine Go.wpIn_mono (wpIn_region_any hmix (wpAnyIn_of hndi (fun _ _ h=>h) _ _ _ _ hA)) ?_
      rintro e a' w' ⟨b,hb,rfl⟩
      cases e with
      | normal=>exact h0 _ _ hb
      | _=>exact hb.elim
     simp only at hs
     split at hs
     · obtain ⟨hB,hs⟩:=hs
       have hB':Region.lexB .any ops=true:=hB
       simp only [Region.lexB,zq] at hB'
       refine fin (fun a' w'=>Q .normal (wa a' (G.dm ds)) w') (fun _ _ h=>h) ?_
       refine wpAny_of_quiet (C:=fun w=>MemOK (G.Sp pj ds) G.w0 w m) (Q:=fun a'=>∀ w',MemOK (G.Sp pj ds) G.w0 w' m→Q .normal (wa a' (G.dm ds)) w') (fun _ w' hw' h=>h w' hw') _ _ _ _ hm.drew ?_
       have:=wpAnyQ_lex (C:=fun w=>MemOK (G.Sp pj ds) G.w0 w m) (md:=.any) hB'.1 ops.toList 0 (uu ops.size false) a (by simp) (by simpa using hB'.2)
        (sopsQ_ok (Q:=fun a'=>∀ w',MemOK (G.Sp pj ds) G.w0 w' m→Q .normal (wa a' (G.dm ds)) w') hm.glob hs h (fun tm' m' a' hk h' hiff hgr w' hm'=>hq _ _ _ _ _ _ _ hk h' ((hiff w').1 hm') (hx.grow hgr.1 hgr.2)))
       simpa using this
     · exact fin (fun a' w'=>∃ tm' m',(K .nor pj tm' m').holds∧ActOK (ads m') E.n tm' a'∧MemOK (G.Sp pj ds) G.w0 w' m'∧FixOK G.A0 G.fx m')
        (fun a' w' ⟨tm',m',hk,h',hm',hx'⟩=>hq _ _ _ _ _ _ _ hk h' hm' hx') (by
          refine draw_any hs.1 hs.2.1 hs.2.2 h hm (fun tm' m' a' w' hk h' hm' hg=>⟨tm',m',hk,h',hm',hx.grow hg.1 hg.2⟩))
 | seq x y ihx ihy=>
   intro pj tm m K a w ds Q hs h hm hx hq
   simp only [sexecG] at hs
   split at hs
   · refine wpIn_seq (ihx hs h hm hx fun e pj' tm' m' a' w' ds' hk h' hm' hx' => ?_)
     cases e with
     | nor=>exact ihy hk h' hm' hx' hq
     | exit i=>exact hq _ _ _ _ _ _ _ hk h' hm' hx'
     | ret=>exact hq _ _ _ _ _ _ _ hk h' hm' hx'
   · rename_i I0 Ir _
     split at hs
     · exact hs.elim
     simp only [fL_eq,fLN_eq] at hs
     obtain ⟨hs,hround⟩:=hs
     have hround:=allI_ok hround
     refine wpIn_seq (ihx hs h hm hx fun e pj' tm' m' a' w' ds' hk h' hm' hx' => ?_)
     cases e with
     | nor=>
       simp only at hk
       split at hk
       · exact hk.elim
       obtain ⟨I,hI,x,hix,hs'⟩:=hk
       obtain ⟨hlx,hs'⟩:=linked_ok hs'
       obtain ⟨hna,hlx⟩:=noP_ok hlx
       obtain ⟨ha',hm'',hx''⟩:=subPx_ok hs' h' hm' hx'
       have hro:=(ifNo_h (hround I hI x)).resolve_left (fun hno=>linkNo_ok hno hlx)
       have hro:=(ifNo_h hro).resolve_left (fun hno=>by rw [hna] at hno;cases hno)
       have hro:=linkT_ok (hro hix) hlx
       simp only [fTm_eq,fM_eq] at hro
       exact ihy hro ha' hm'' hx'' hq
     | exit i=>exact hq _ _ _ _ _ _ _ hk h' hm' hx'
     | ret=>exact hq _ _ _ _ _ _ _ hk h' hm' hx'
 | cond c x y ihx ihy=>
   intro pj tm m K a w ds Q hs h hm hx hq
   have hnil:AlOK tm []:=by intro p hp;cases hp
   simp only [sexecG] at hs
   split at hs <;> try (first | contradiction | exact False.elim hs)
   · rename_i hc
     exact wpIn_cond (t:=true) (by rw [wa_eval];exact ev_ok h hm.glob hnil _ _ hc) (ihx hs h hm hx hq)
   · rename_i hc
     exact wpIn_cond (t:=false) (by rw [wa_eval];exact ev_ok h hm.glob hnil _ _ hc) (ihy hs h hm hx hq)
   · rename_i b hc
     cases b with
     | true=>exact wpIn_cond (t:=true) (by rw [wa_eval];exact ev_ok h hm.glob hnil _ _ hc) (ihx (hs.1 rfl) h hm hx hq)
     | false=>exact wpIn_cond (t:=false) (by rw [wa_eval];exact ev_ok h hm.glob hnil _ _ hc) (ihy (hs.2 rfl) h hm hx hq)
 | block id c ih=>
   intro pj tm m K a w ds Q hs h hm hx hq
   refine wpIn_block (ih hs h hm hx fun e pj' tm' m' a' w' ds' hk h' hm' hx' => ?_)
   cases e with
   | nor=>exact hq _ _ _ _ _ _ _ hk h' hm' hx'
   | exit i=>
     simp only [Ex.of,Exit.inBlock]
     simp only at hk
     split at hk
     · rename_i hb
       rw [if_pos (zp hb)]
       exact hq _ _ _ _ _ _ _ hk h' hm' hx'
     · rename_i hb
       rw [if_neg (Nat.ne_of_beq_eq_false hb)]
       exact hq _ _ _ _ _ _ _ hk h' hm' hx'
   | ret=>exact hq _ _ _ _ _ _ _ hk h' hm' hx'
 | loop c ih=>
   intro pj tm m K a w ds Q hs h hm hx hq
   simp only [sexecG,fL_eq,fLN_eq] at hs
   split at hs
   · exact hs.elim
   obtain ⟨⟨I0,hI0,x0,hi0,hs0⟩,hround⟩:=hs
   have hround:=allI_ok hround
   obtain ⟨hl0,hs0⟩:=linked_ok hs0
   obtain ⟨hn0,hl0⟩:=noP_ok hl0
   obtain ⟨ha0,hm0,hx0⟩:=subPx_ok hs0 h hm hx
   refine wpIn_loop' (fun n a w=>∃ I∈findInvs (firstId c) L,∃ x,∃ b ds,a=wa b (G.dm ds)∧(I.inv x∧notApp (I.mem x m) m=false∧allOf (linkP (writes c) tm (I.tm x)))∧I.meas x=n∧ActOK (ads (I.mem x m)) E.n (I.tm x ++ keepTm (keysOf (I.tm x) ++ writes c) tm) b∧MemOK (G.Sp none ds) G.w0 w (I.mem x m)∧FixOK G.A0 G.fx (I.mem x m)) (I0.meas x0) ⟨I0,hI0,x0,a,ds,rfl,⟨hi0,hn0,hl0⟩,rfl,ha0,hm0,hx0⟩ ?_
   rintro n a1 w1 ⟨I,hI,x,b,ds1,rfl,⟨hix,hna,hlx⟩,rfl,hax,hmx,hxx⟩
   have hro:=(ifNo_h (hround I hI x)).resolve_left (fun hno=>linkNo_ok hno hlx)
   have hro:=(ifNo_h hro).resolve_left (fun hno=>by rw [hna] at hno;cases hno)
   have hro:=linkT_ok (hro hix) hlx
   simp only [fTm_eq,fM_eq] at hro
   refine ih hro hax hmx hxx fun e pj' tm' m' a' w' ds' hk h' hm' hx' => ?_
   cases e with
   | nor=>
     simp only at hk
     split at hk
     · exact hk.elim
     obtain ⟨I',hI',x',hi',hlt,hs'⟩:=hk
     obtain ⟨hl',hs'⟩:=linked_ok hs'
     obtain ⟨hn',hl'⟩:=noP_ok hl'
     obtain ⟨ha',hm'',hx''⟩:=subPx_ok hs' h' hm' hx'
     exact ⟨I'.meas x',hlt,I',hI',x',a',ds',rfl,⟨hi',hn',hl'⟩,rfl,ha',hm'',hx''⟩
   | exit i=>exact hq _ _ _ _ _ _ _ hk h' hm' hx'
   | ret=>exact hq _ _ _ _ _ _ _ hk h' hm' hx'
 | exit id=>intro pj tm m K a w ds Q hs h hm hx hq;exact wpIn_exit (hq _ _ _ _ _ _ _ hs h hm hx)
 | ret=>intro pj tm m K a w ds Q hs h hm hx hq;exact wpIn_ret (hq _ _ _ _ _ _ _ hs h hm hx)
 | rangeFunc g ps az bd _ _=>
   intro pj tm m K a w ds Q hs h hm hx hq
   simp only [sexecG] at hs
   split at hs
   · exact hs.elim
   exact hR _ _ _ _ _ _ _ _ _ _ _ hs h hm hx fun e tm' m' a' w' ds' hk h' hm' hx'=>hq _ _ _ _ _ _ _ hk h' hm' hx'
 | scope _ _=>intro pj tm m K a w ds Q hs;exact False.elim hs
 | label _=>intro pj tm m K a w ds Q hs;exact False.elim hs
 | goto _=>intro pj tm m K a w ds Q hs;exact False.elim hs
 | refuse _=>intro pj tm m K a w ds Q hs;exact False.elim hs
end Go.Vx
namespace Go.Vx
open Go
variable {C:Nat→Codec}
theorem heap_put_other {w:World} {l k:Nat} {o:Obj} (h:k≠l):(w.putObj l o).heap[k]? = w.heap[k]? := World.putObj_heap_other h
theorem MemOK.pinNew {s rd:Nat→Prop} {ps:List (Nat×Obj)} {w0 w:World} {m:List (Ck C)} (h:MemOK ⟨s,ps,rd⟩ w0 w m) (o:Obj):MemOK ⟨s,(w.heap.size,o) :: ps,rd⟩ w0 (w.alloc o) m:=by
 have hb:∀ k,k<w.heap.size→(w.alloc o).heap[k]? = w.heap[k]? := fun k hk=>heap_alloc_lt w o hk
 refine ⟨h.os,h.tape,h.output,by have:=h.size;simp;omega,?_,h.inS,?_,?_,h.apart,?_,?_⟩
 · intro k hk hno;rw [hb k (zk hk h.size)];exact h.keep k hk hno
 · intro c hc ho;exact Ck.ok_same (h.ok c hc ho) (hb _ (h.lt c hc ho))
 · intro c hc hw hl a ha
   rw [World.frozen?_of_block (w:=w) (by rw [ha];exact hb _ (h.lt c hc (Ck.live_iff.1 hl).2))]
   exact h.wrok c hc hw hl a ha
 · intro c hc ho;have:=h.lt c hc ho;simp;omega
 · have hm:=h.more
   refine ⟨fun g v hv => ?_,fun g p hp => ?_,fun p hp => ?_,?_,fun c hc t x hx => ?_⟩
   rotate_left 4
   · obtain ⟨g1,g2⟩:=hm.deep c hc t x hx
     refine ⟨(C t).good_keep w _ x (fun b hb'=>hb b (g2 b hb').lt) g1,fun b hb' => ?_⟩
     have hB:=g2 b hb'
     refine ⟨by have:=hB.lt;simp;omega,hB.old,hB.no,fun p hp => ?_⟩
     rcases List.mem_cons.1 hp with rfl | hp
     · exact fun e=>absurd hB.lt (by simp only at e;omega)
     · exact hB.pin p hp
   · obtain ⟨h1,h2,h3⟩:=hm.gv g v hv
     exact ⟨(World.cell?_of_block (w:=w) (a:=⟨g,0,none⟩) (hb g (zk h2 h.size))).trans h1,h2,h3⟩
   · obtain ⟨h1,h2,h3⟩:=hm.gp g p hp
     exact ⟨(hb _ (zk h2 h.size)).trans h1,h2,h3⟩
   · rcases List.mem_cons.1 hp with rfl | hp
     · exact ⟨World.alloc_heap_new w o,h.size,fun c hc hl=>Nat.ne_of_lt (h.lt c hc (Ck.live_iff.1 hl).2)⟩
     · obtain ⟨h1,h2,h3⟩:=hm.pin p hp
       exact ⟨(hb _ (heap_size_of h1)).trans h1,h2,h3⟩
   · have:w.heap.size∉ps.map (·.1):=by
      intro hmem
      obtain ⟨p,hp,he⟩:=List.mem_map.1 hmem
      have:=heap_size_of (hm.pin p hp).1
      omega
     simpa [this] using hm.nod
theorem MemOK.repin {s rd:Nat→Prop} {ps:List (Nat×Obj)} {w0 w:World} {m:List (Ck C)} {l:Nat} {o:Obj} (h:MemOK ⟨s,(l,o) :: ps,rd⟩ w0 w m) (o':Obj):MemOK ⟨s,(l,o') :: ps,rd⟩ w0 (w.putObj l o') m:=by
 have hm:=h.more
 obtain ⟨hl1,hl2,hl3⟩:=hm.pin (l,o) (by simp)
 simp only at hl1 hl2 hl3
 have hb:∀ k,k≠l→(w.putObj l o').heap[k]? = w.heap[k]? := fun k hk=>heap_put_other hk
 have hlv:∀ c∈m,c.alive=false→∀ w',Ck.ok (ads m) w' c:=by
  intro c _ hc w'
  unfold Ck.alive at hc;unfold Ck.ok
  split at hc <;> first | cases hc | skip
  rename_i hd;rw [hd];trivial
 refine ⟨h.os,h.tape,h.output,by have:=h.size;simpa using this,?_,h.inS,?_,?_,h.apart,?_,?_⟩
 · intro k hk hno
   rw [hb k (by omega)]
   exact h.keep k hk hno
 · intro c hc ho
   cases hcl:c.alive with
   | false=>exact hlv c hc hcl _
   | true=>exact Ck.ok_same (h.ok c hc ho) (hb _ (hl3 c hc (Ck.live_iff.2 ⟨hcl,ho⟩)))
 · intro c hc hw hl a ha
   rw [World.frozen?_of_block (w:=w) (by rw [ha];exact hb _ (hl3 c hc hl))]
   exact h.wrok c hc hw hl a ha
 · intro c hc ho;have:=h.lt c hc ho;simpa using this
 · have hnod:=hm.nod
   simp only [vw,List.nodup_cons] at hnod
   refine ⟨fun g v hv => ?_,fun g p hp => ?_,fun p hp => ?_,by simpa using hm.nod,fun c hc t x hx => ?_⟩
   rotate_left 3
   · obtain ⟨g1,g2⟩:=hm.deep c hc t x hx
     refine ⟨(C t).good_keep w _ x (fun b hb'=>hb b (fun e=>(g2 b hb').pin (l,o) (by simp) e.symm)) g1,fun b hb' => ?_⟩
     have hB:=g2 b hb'
     refine ⟨by have:=hB.lt;simpa using this,hB.old,hB.no,fun p hp => ?_⟩
     rcases List.mem_cons.1 hp with rfl | hp
     · exact hB.pin (l,o) (by simp)
     · exact hB.pin p (yw _ hp)
   · obtain ⟨h1,h2,h3⟩:=hm.gv g v hv
     exact ⟨(World.cell?_of_block (w:=w) (a:=⟨g,0,none⟩) (hb g (by omega))).trans h1,h2,h3⟩
   · obtain ⟨h1,h2,h3⟩:=hm.gp g p hp
     exact ⟨(hb _ (by omega)).trans h1,h2,h3⟩
   · rcases List.mem_cons.1 hp with rfl | hp
     · exact ⟨World.putObj_heap_same (heap_size_of hl1),hl2,hl3⟩
     · obtain ⟨h1,h2,h3⟩:=hm.pin p (yw _ hp)
       refine ⟨(hb _ ?_).trans h1,h2,h3⟩
       rintro he
       exact hnod.1 (he ▸ List.mem_map.2 ⟨p,hp,rfl⟩)
theorem MemOK.unpin {s rd:Nat→Prop} {ps:List (Nat×Obj)} {w0 w:World} {m:List (Ck C)} {l:Nat} {o:Obj} (h:MemOK ⟨s,(l,o) :: ps,rd⟩ w0 w m):MemOK ⟨s,ps,rd⟩ w0 w m:=by
 have hm:=h.more
 refine ⟨h.os,h.tape,h.output,h.size,h.keep,h.inS,h.ok,h.wrok,h.apart,h.lt,hm.gv,hm.gp,fun p hp=>hm.pin p (yw _ hp),?_,fun c hc t x hx => ?_⟩
 rotate_left
 · obtain ⟨g1,g2⟩:=hm.deep c hc t x hx
   exact ⟨g1,fun b hb=>⟨(g2 b hb).lt,(g2 b hb).old,(g2 b hb).no,fun p hp=>(g2 b hb).pin p (yw _ hp)⟩⟩
 have:=hm.nod
 simp only [vw,List.nodup_cons] at this
 exact this.2
structure It (P:Program) (C:Nat→Codec) where
 f:Nat
 fn:Func
 c:Code
 E:Env P C
 L:List (Inv' C)
 hf:P.funcs[f]? = some fn
 hb:fn.body=some c
 hname : (fn.name == "runtime.NumGoroutine") = false
 hn:fn.ntmps=E.n
def findIt {P:Program} (f:Nat):List (It P C)→Option (It P C)
 | []=>none
 | x :: r=>match zi x.f f with
   | true=>some x
   | false=>findIt f r
theorem findIt_f {P:Program} {f:Nat}:∀ {l:List (It P C)} {it:It P C},findIt f l=some it→it.f=f
 | [],_,h=>by cases h
 | x :: r,it,h=>by
   simp only [findIt] at h
   split at h
   · rename_i he;simp only [Option.some.injEq] at h;subst h;exact zp he
   · exact findIt_f h
def noRf:Rf C:=fun _ _ _ _ _ _ _=>.no
theorem noRf_ok {P:Program} {n:Nat} {G:Gs}:ROK (C:=C) P n G noRf:=fun _ _ _ _ _ _ _ _ _ _ _ h=>h.elim
theorem noY_ok {P:Program} {G:Gs}:YOK (C:=C) P G none:=fun _ _ h=>by cases h
def putAll (n:Nat):Tm→List Nat→List SV→Option Tm
 | tm,[],[]=>some tm
 | tm,p :: r,v :: s=>match put? n tm (some p) [] v with
   | some tm'=>putAll n tm' r s
   | none=>none
 | _,_,_=>none
theorem putAll_len {n:Nat}:∀ {ps:List Nat} {vs:List SV} {tm tm':Tm},putAll n tm ps vs=some tm'→ps.length=vs.length
 | [],[],_,_,_=>rfl
 | p :: r,v :: s,tm,tm',h=>by
   simp only [putAll] at h
   split at h
   · simp [putAll_len h]
   · cases h
 | [],_ :: _,_,_,h=>by simp [putAll] at h
 | _ :: _,[],_,_,h=>by simp [putAll] at h
theorem putAll_ok {ad:Nat→Ad} {n:Nat}:∀ {ps:List Nat} {vs:List SV} {tm tm':Tm} {a:Act},ActOK ad n tm a→putAll n tm ps vs=some tm'→
 ActOK ad n tm' { tmps:=(ps.zip (SV.vas ad vs)).foldl (fun t (p,v)=>t.setIfInBounds p v) a.tmps,defers:=[] }
 | [],[],tm,tm',a,h,hp=>by
   simp only [putAll,Option.some.injEq] at hp;subst hp
   exact ⟨rfl,h.size,h.tmps,h.inv⟩
 | p :: r,v :: s,tm,tm',a,h,hp=>by
   simp only [putAll] at hp
   split at hp
   · rename_i tm1 h1
     have hA:=put_ok h h1 (by simp) (v.va ad) (by simp [mkc])
     exact putAll_ok (a:=a.put (some p) (v.va ad)) hA hp
   · cases hp
 | [],_ :: _,_,_,_,_,h=>by simp [putAll] at h
 | _ :: _,[],_,_,_,_,h=>by simp [putAll] at h
def PJ.code:Ex→Code
 | .nor=>.skip
 | .exit i=>.exit i
 | .ret=>.ret
def PJ.back:PJ→Ex
 | none=>.nor
 | some e=>e
def goR {P:Program} (E:Env P C) (L:List (Inv' C)) (tmC:Tm) (ps:Array Tmp) (asg bd:Code):Yf C:=fun vs tmI m Kc=>
 match tmLt m.length tmI,putAll E.n tmC ps.toList vs with
 | true,some tmb=>sexecG E L (tmNm tmI ++ tmNm tmC) none noRf asg none tmb m fun e _ tma ma=>match e with
   | .nor=>sexecG E L (tmNm tmI ++ tmNm tmC) none noRf bd none tma ma fun e _ tm2 m2=>match e with
     | .nor=>Kc true none m2
     | .exit i=>Kc false (some (.exit i)) m2
     | .ret=>Kc false (some .ret) m2
   | _=>.no
 | _,_=>.no
def rangeF {P:Program} (E:Env P C) (L:List (Inv' C)) (its:List (It P C)):Rf C:=fun g ps asg bd tm m K=>
 match ev tm m [] g with
 | some (.fn (.func gf) [] cap)=>match findIt gf its with
   | some it=>match tmLt m.length tm && SV.lts m.length cap && wc (cap.length+1) it.E.n && noCnds cap with
     | false=>.no
     | true=>.all fun (l:Nat)=>fTm (initTm 0 (.fn (.yield l) [] [] :: cap)) fun tmI=>sexecG it.E it.L (tmNm tm) (some (l,goR E L tm ps asg bd)) noRf it.c none tmI m fun e pj tmI' m'=>match e with
       | .exit _=>.no
       | _=>match retSV P it.fn tmI' m' with
         | some (qs,_)=>conj qs (K pj.back tm m')
         | none=>.no
   | none=>.no
 | _=>.no
theorem tmLt_nm {n:Nat}:∀ {tm:Tm},tmLt n tm=true→∀ c∈tmNm tm,c<n:=by
 have hv:∀ (v:SV),SV.lt n v=true→∀ c∈v.nm,c<n:=by
  intro v
  induction v using SV.rec (motive_2:=fun vs=>SV.lts n vs=true→∀ c∈SV.nms vs,c<n) with
  | ptr c i f=>intro h k hk;simp only [SV.lt] at h;simp only [SV.nm,wq] at hk;subst hk;simpa using h
  | sl c i f m=>intro h k hk;simp only [SV.lt] at h;simp only [SV.nm,wq] at hk;subst hk;simpa using h
  | mp c=>intro h k hk;simp only [SV.lt] at h;simp only [SV.nm,wq] at hk;subst hk;simpa using h
  | agg vs ih=>intro h k hk;simp only [SV.lt] at h;simp only [SV.nm] at hk;exact ih h k hk
  | tup vs ih=>intro h k hk;simp only [SV.lt] at h;simp only [SV.nm] at hk;exact ih h k hk
  | ifc t v ih=>intro h k hk;simp only [SV.lt] at h;simp only [SV.nm] at hk;exact ih h k hk
  | fn f a b iha ihb=>
    intro h k hk
    simp only [SV.lt,zq] at h
    simp only [SV.nm,ue] at hk
    rcases hk with hk | hk
    · exact iha h.1 k hk
    · exact ihb h.2 k hk
  | cnd cs v ih=>intro h k hk;simp only [SV.lt] at h;simp only [SV.nm] at hk;exact ih h k hk
  | nil=>rename_i k hk;cases hk
  | cons v r ihv ihr=>
    rename_i h k hk
    simp only [SV.lts,zq] at h
    simp only [SV.nms,ue] at hk
    rcases hk with hk | hk
    · exact ihv h.1 k hk
    · exact ihr h.2 k hk
  | _=>intro _ k hk;simp [SV.nm] at hk
 intro tm
 induction tm with
 | nil=>intro _ c hc;cases hc
 | cons p r ih=>
   obtain ⟨k,v⟩:=p
   intro h c hc
   simp only [tmLt,zq] at h
   simp only [tmNm,ue] at hc
   rcases hc with hc | hc
   · exact hv v h.1 c hc
   · exact ih h.2 c hc
def recOf (rec:LoopState→Option Code→Loop):PJ→Obj
 | none=>.loop (rec .ready none)
 | some e=>.loop (rec .done (some (PJ.code e)))
theorem goR_ok {P:Program} (hmix:P.follows .mixedOrders=true) {E:Env P C} {L:List (Inv' C)} {tmC:Tm} {ps:Array Tmp} {asg bd:Code} {s rd:Nat→Prop} {old:List (Nat×Obj)} {w0:World} {A0:Nat→Ad} {a0:Act} {l:Nat} {fn:FuncId} {D:Nat}
 {rec:LoopState→Option Code→Loop} (hrec:∀ st pe,rec st pe={ state:=st,pending:=pe,fn:=fn,tmps:=a0.tmps,params:=ps,assign:=asg,body:=bd,defers:=D }) (ha0:ActOK A0 E.n tmC a0):
 YOK P ⟨none,fun pj _=>⟨s,(l,recOf rec pj) :: old,rd⟩,w0,fun _=>[],A0,tmNm tmC⟩ (some (l,goR E L tmC ps asg bd)):=by
 intro l' go hgo vs tmI m Kc w ds R h hm hx hK
 simp only [Option.some.injEq,Prod.mk.injEq] at hgo
 obtain ⟨rfl,rfl⟩:=hgo
 unfold goR at h
 split at h
 rotate_left
 · exact h.elim
 rename_i tmb hlt hput
 simp only at hm hx hK
 have hpin:=(hm.more.pin (l,recOf rec none) (by simp)).1
 simp only [recOf] at hpin
 have hlen:=putAll_len hput
 have hy:=run_yield (P:=P) (args:=(SV.vas (ads m) vs).toArray) hpin (by rw [hrec];simp [SV.vas_eq,← hlen])
 refine ⟨_,_,_,_,hy,?_⟩
 simp only [hrec]
 have hact:ActOK (ads m) E.n tmC a0:=ha0.fixed (fun c hc=>((hx c hc).2).symm)
 have hactb:=putAll_ok hact hput
 have hz:(ps.zip (SV.vas (ads m) vs).toArray).foldl (fun tmps (x:Tmp×Value)=>tmps.setIfInBounds x.1 x.2) a0.tmps=(ps.toList.zip (SV.vas (ads m) vs)).foldl (fun t (x:Nat×Value)=>t.setIfInBounds x.1 x.2) a0.tmps:=by
  rw [← Array.foldl_toList]
  simp
 obtain ⟨G1,hG1⟩:∃ G1:Gs,G1=⟨some l,fun _ _=>⟨s,(l,.loop (rec .ready none)) :: old,rd⟩,w0,fun _=>[],ads m,tmNm tmI ++ tmNm tmC⟩:=⟨_,rfl⟩
 obtain ⟨G2,hG2⟩:∃ G2:Gs,G2=⟨some l,fun _ _=>⟨s,(l,.loop (rec .busy none)) :: old,rd⟩,w0,fun _=>[],ads m,tmNm tmI ++ tmNm tmC⟩:=⟨_,rfl⟩
 have hfx:FixOK (ads m) (tmNm tmI ++ tmNm tmC) m:=by
  intro c hc
  rcases List.mem_append.1 hc with hc | hc
  · exact ⟨tmLt_nm hlt c hc,rfl⟩
  · exact ⟨(hx c hc).1,rfl⟩
 have back:∀ m':List (Ck C),FixOK (ads m) (tmNm tmI ++ tmNm tmC) m'→FixOK A0 (tmNm tmC) m'∧(∀ c∈tmNm tmI,c<m'.length∧ads m' c=ads m c):=by
  intro m' h'
  refine ⟨fun c hc => ?_,fun c hc=>h' c (List.mem_append.2 (.inl hc))⟩
  obtain ⟨h1,h2⟩:=h' c (List.mem_append.2 (.inr hc))
  exact ⟨h1,h2.trans (hx c hc).2⟩
 refine roundIn_of_wpIn (FR_fn none fn) ?_
 have h1:=sexecG_ok (P:=P) hmix (G:=G1) (E:=E) (L:=L) (Y:=none) (RF:=noRf) noY_ok noRf_ok (c:=asg) (pj:=none) (tm:=tmb) (m:=m) (ds:=[]) (w:=w)
  (a:={ tmps:=(ps.toList.zip (SV.vas (ads m) vs)).foldl (fun t (x:Nat×Value)=>t.setIfInBounds x.1 x.2) a0.tmps,defers:=[] })
  (Q:=Exit.then (fun a₁ w₁=>∃ w₂,(Instr.beginRound l).run P w₁=.ok () w₂∧bd.wpIn (Fence.wide.inRound l) 0 P (roundPost P l R) a₁ w₂) (fun _ _ _=>False))
  (by subst hG1;exact h) hactb (by subst hG1;exact hm) (by subst hG1;exact hfx) ?_
 · have e:wa ({ tmps:=(ps.toList.zip (SV.vas (ads m) vs)).foldl (fun t (x:Nat×Value)=>t.setIfInBounds x.1 x.2) a0.tmps,defers:=[] }:Act) (G1.dm [])={ tmps:=(ps.toList.zip (SV.vas (ads m) vs)).foldl (fun t (x:Nat×Value)=>t.setIfInBounds x.1 x.2) a0.tmps,defers:=[] }:=by subst hG1;rfl
   rw [e] at h1
   rw [hz]
   have e2:FR G1.r=Fence.wide.inRound l:=by subst hG1;rfl
   rw [e2] at h1
   exact h1
 intro e pj' tma ma a1 w1 ds' hk ha1 hm1 hx1
 subst hG1
 cases e with
 | exit i=>exact hk.elim
 | ret=>exact hk.elim
 | nor=>
   simp only at hk hm1 hx1
   have hpin1:=(hm1.more.pin (l,.loop (rec .ready none)) (by simp)).1
   have hbr:=run_beginRound (P:=P) hpin1 (by rw [hrec])
   have hm2:=hm1.repin (.loop { rec .ready none with state:=.busy })
   have ebusy:({ rec .ready none with state:=.busy }:Loop)=rec .busy none:=by rw [hrec,hrec]
   rw [ebusy] at hm2 hbr
   refine ⟨_,hbr,?_⟩
   have h2:=sexecG_ok (P:=P) hmix (G:=G2) (E:=E) (L:=L) (Y:=none) (RF:=noRf) noY_ok noRf_ok (c:=bd) (pj:=none) (tm:=tma) (m:=ma) (ds:=[]) (w:=w1.putObj l (.loop (rec .busy none))) (a:=a1)
    (Q:=roundPost P l R) (by subst hG2;exact hk) ha1 (by subst hG2;exact hm2) (by subst hG2;exact hx1) ?_
   · have e:wa a1 (G2.dm [])=wa a1 []:=by subst hG2;rfl
     rw [e] at h2
     have e2:FR G2.r=Fence.wide.inRound l:=by subst hG2;rfl
     rw [e2] at h2
     exact h2
   intro e pj2 tm2 m2 a2 w2 ds2 hk2 ha2 hm3 hx2
   subst hG2
   simp only at hm3 hx2
   have hpin2:=(hm3.more.pin (l,.loop (rec .busy none)) (by simp)).1
   obtain ⟨b1,b2⟩:=back m2 hx2
   have fin:∀ (jump:Option Code) (pj:PJ),(jump.isNone=true↔pj=none)→pj.map PJ.code=jump→(Kc jump.isNone pj m2).holds→∃ v w',(Instr.endRound l jump).run P w2=.ok v w'∧R (.returned v) w':=by
    intro jump pj hj hpj hkc
    have her:=run_endRound (P:=P) jump hpin2
    refine ⟨_,_,her,hK _ pj m2 _ hkc ?_ b1 b2⟩
    have hm4:=hm3.repin (.loop { rec .busy none with state:=if jump.isNone then .ready else .done,pending:=jump })
    have e:(Obj.loop { rec .busy none with state:=if jump.isNone then .ready else .done,pending:=jump })=recOf rec pj:=by
     cases pj with
     | none=>
       simp only [Option.map_none] at hpj
       subst hpj
       simp [recOf,hrec]
     | some e=>
       simp only [yr] at hpj
       subst hpj
       simp [recOf,hrec]
    rw [e] at hm4 ⊢
    exact hm4
   cases e with
   | nor=>exact fin none none (by simp) rfl hk2
   | exit i=>exact fin (some (.exit i)) (some (.exit i)) (by simp) rfl hk2
   | ret=>exact fin (some .ret) (some .ret) (by simp) rfl hk2
theorem init_ok {ad:Nat→Ad} {n:Nat} {args:List SV} (hlen:wc args.length n=true) (hnc:noCnds args=true):
 ActOK ad n (initTm 0 args) { tmps:=(SV.vas ad args).toArray ++ uu (n - (SV.vas ad args).toArray.size) Go.undef,defers:=[] }:=by
 have hlen:args.length≤n:=Nat.le_of_ble_eq_true hlen
 have hsz:(SV.vas ad args).toArray.size=args.length:=by simp [SV.vas_eq]
 refine ⟨rfl,by simp [SV.vas_eq];omega,fun t => ?_,?_⟩
 · rcases get_init args 0 t with h1 | ⟨_,v,h2,h3⟩
   · exact .inl h1
   · right
     simp only [rq] at h2
     have hlt:t<args.length:=(List.getElem?_eq_some_iff.1 h2).1
     rw [h3,Array.getElem?_append_left (by rw [hsz];exact hlt)]
     simp [SV.vas_eq,h2]
 · intro t cs v hg
   exfalso
   rcases get_init args 0 t with h1 | ⟨_,u,h2,h3⟩
   · rw [h1] at hg;cases hg
   · rw [h3] at hg
     exact notCnd_ok (noCnds_ok hnc u (tw h2)) cs v hg
def mark (D:Nat):Deferred:={ target:=.collected D,args := #[] }
def mpin (D:Nat):Nat×Obj:=(D,.deferred (some []))
theorem rangeF_ok {P:Program} (hmix:P.follows .mixedOrders=true) {E:Env P C} {L:List (Inv' C)} {its:List (It P C)} {s rd:Nat→Prop} {w0:World}:
 ROK P E.n ⟨none,fun _ ds=>⟨s,ds.map mpin,rd⟩,w0,fun ds=>ds.map mark,noAd,[]⟩ (rangeF E L its):=by
 intro g ps asg bd tm m K a w Q ds h ha hm hx hq
 simp only at hm hq
 unfold rangeF at h
 split at h <;> try (first | contradiction | exact False.elim h)
 rename_i gf cap hg
 split at h
 rotate_left
 · exact h.elim
 rename_i it hit
 split at h
 · exact h.elim
 rename_i hc
 simp only [zq] at hc
 obtain ⟨⟨⟨c1,c2⟩,c3⟩,c4⟩:=hc
 have hf:=findIt_f hit
 subst hf
 have hnil:AlOK tm []:=by intro p hp;cases hp
 have eg:(wa a (ds.map mark)).eval g=.func (.func it.f) #[] (SV.vas (ads m) cap).toArray:=by
  rw [wa_eval,ev_ok ha hm.glob hnil _ _ hg];rfl
 refine wpIn_rangeFunc ?_
 intro fn _
 obtain ⟨rec,hrec⟩:∃ rec:LoopState→Option Code→Loop,rec=fun st pe=>{ state:=st,pending:=pe,fn,tmps:=a.tmps,params:=ps,assign:=asg,body:=bd,defers:=w.heap.size }:=⟨_,rfl⟩
 have hrec':∀ st pe,rec st pe={ state:=st,pending:=pe,fn:=fn,tmps:=a.tmps,params:=ps,assign:=asg,body:=bd,defers:=w.heap.size }:=fun _ _=>by rw [hrec]
 obtain ⟨W1,hW1⟩:∃ W1,(w.alloc (.deferred (some []))).alloc (.loop (rec .ready none))=W1:=⟨_,rfl⟩
 have hm1:MemOK ⟨s,(w.heap.size+1,recOf rec none) :: (mpin w.heap.size) :: ds.map mpin,rd⟩ w0 W1 m:=by
  have:=(hm.pinNew (.deferred (some []))).pinNew (.loop (rec .ready none))
  rw [World.size_alloc,hW1] at this
  exact this
 refine ⟨w.heap.size+1,[mark w.heap.size],W1,{ target:=.fn (.func it.f) (SV.vas (ads m) cap).toArray,args := #[.func (.yield (w.heap.size+1)) #[] #[]] },W1,it.f,
  #[.func (.yield (w.heap.size+1)) #[] #[]] ++ (SV.vas (ads m) cap).toArray,W1,?_,?_,?_,?_,fun hd=>(by rw [FR_depth] at hd;cases hd),?_⟩
 · rw [← hW1,hrec];exact run_enterLoop_outer _ _ _ _ _
 · simp only [resolve,eg,Deferred.ofValue]
   simp [Act.eval]
 · intro f' _;exact FR_fn _ f'
 · simp [invoke,run_callFunc it.hf it.hb it.hname]
 · have hin:=h (w.heap.size+1)
   simp only [fTm_eq] at hin
   refine callsIn_of_wp it.hf it.hb (FR_fn _ _) ?_
   obtain ⟨GI,hGI⟩:∃ GI:Gs,GI=⟨none,fun pj _=>⟨s,(w.heap.size+1,recOf rec pj) :: mpin w.heap.size :: ds.map mpin,rd⟩,w0,fun _=>[],ads m,tmNm tm⟩:=⟨_,rfl⟩
   have hy:YOK P GI (some (w.heap.size+1,goR E L tm ps asg bd)):=by
    subst hGI
    exact goR_ok hmix hrec' ha
   have hargs:(#[Value.func (.yield (w.heap.size+1)) #[] #[]] ++ (SV.vas (ads m) cap).toArray)=(SV.vas (ads m) (.fn (.yield (w.heap.size+1)) [] [] :: cap)).toArray:=by
    apply wd;simp [SV.vas,SV.va]
   rw [hargs]
   have hinit:=init_ok (ad:=ads m) (n:=it.E.n) (args:=.fn (.yield (w.heap.size+1)) [] [] :: cap) (by simpa using c3) (by simp [noCnds,notCnd,c4])
   rw [← it.hn] at hinit
   rw [it.hn] at hinit
   have h3:=sexecG_ok (P:=P) hmix (G:=GI) (E:=it.E) (L:=it.L) (Y:=some (w.heap.size+1,goR E L tm ps asg bd)) (RF:=noRf) hy noRf_ok (c:=it.c) (pj:=none) (m:=m) (ds:=[]) (w:=W1)
    (Q:=bodyPost P it.fn (rangePost (FR none) 0 P (w.heap.size+1) Q { wa a (ds.map mark) with defers:=[mark w.heap.size] ++ (wa a (ds.map mark)).defers }))
    (by subst hGI;exact hin) hinit (by subst hGI;exact hm1) (by subst hGI;exact fun c hc=>⟨tmLt_nm c1 c hc,rfl⟩) ?_
   · have e2:FR GI.r=FR none:=by subst hGI;rfl
     have e3:∀ b:Act,b.defers=[]→wa b (GI.dm [])=b:=by
      intro b hb;subst hGI
      show ({ b with defers:=b.defers ++ [] }:Act)=b
      cases b;simp at hb ⊢
     rw [e2,e3 _ rfl,← it.hn] at h3
     exact h3
   intro e pj tmI' m' a' w' ds' hk ha' hm' hx'
   have fin:(match retSV P it.fn tmI' m' with | some (qs,_)=>conj qs (K pj.back tm m') | none=>.no:Tr).holds→
    (wa a' (GI.dm ds')).defers=[]∧∃ v,(results it.fn (wa a' (GI.dm ds')).tmps).run P w'=.ok v w'∧
      rangePost (FR none) 0 P (w.heap.size+1) Q { wa a (ds.map mark) with defers:=[mark w.heap.size] ++ (wa a (ds.map mark)).defers } (.returned v) w':=by
    intro hk
    split at hk <;> try (first | contradiction | exact False.elim hk)
    rename_i qs r hr
    obtain ⟨hp,hK⟩:=(conj_iff _ _).1 hk
    refine ⟨by subst hGI;show a'.defers ++ []=[];rw [ha'.defers];rfl,_,retSV_ok (S:=GI.Sp pj ds') ha' hm' hr hp,?_⟩
    subst hGI
    simp only at hm' hx'
    have hpin:=(hm'.more.pin (w.heap.size+1,recOf rec pj) (by simp)).1
    have hA:ActOK (ads m') E.n tm a:=ha.fixed (fun c hc=>((hx' c hc).2).symm)
    have hdf:({ wa a (ds.map mark) with defers:=[mark w.heap.size] ++ (wa a (ds.map mark)).defers }:Act)=wa a ((w.heap.size :: ds).map mark):=by
     show ({ tmps:=a.tmps,defers:=[mark w.heap.size] ++ (a.defers ++ ds.map mark) }:Act)={ tmps:=a.tmps,defers:=a.defers ++ ((w.heap.size :: ds).map mark) }
     rw [ha.defers];rfl
    rw [hdf]
    have hend:∀ (o:Obj),MemOK ⟨s,(w.heap.size :: ds).map mpin,rd⟩ w0 (w'.putObj (w.heap.size+1) o) m':=fun o=>(hm'.repin o).unpin
    cases pj with
    | none=>
      simp only [recOf] at hpin
      refine ⟨none,_,by have:=run_endLoop (P:=P) hpin (by rw [hrec];simp);rw [hrec] at this;exact this,?_⟩
      refine hq .nor tm m' a _ (w.heap.size :: ds) hK hA ?_ (fun c hc=>by cases hc)
      exact hend _
    | some e=>
      simp only [recOf] at hpin
      refine ⟨some (PJ.code e),_,by have:=run_endLoop (P:=P) hpin (by rw [hrec];simp);rw [hrec] at this;exact this,?_⟩
      have hQ:∀ w4,MemOK ⟨s,(w.heap.size :: ds).map mpin,rd⟩ w0 w4 m'→Q (Ex.of e) (wa a ((w.heap.size :: ds).map mark)) w4:=fun w4 hm4=>hq e tm m' a w4 (w.heap.size :: ds) hK hA hm4 (fun c hc=>by cases hc)
      cases e with
      | nor=>exact wpIn_skip (hQ _ (hend _))
      | exit i=>exact wpIn_exit (hQ _ (hend _))
      | ret=>exact wpIn_ret (hQ _ (hend _))
   cases e with
   | nor=>exact fin hk
   | exit i=>exact hk.elim
   | ret=>exact fin hk
def fexecR {P:Program} (E:Env P C) (L:List (Inv' C)) (its:List (It P C)) (fn:Func) (c:Code) (args:List SV) (mem:List (Ck C)) (G:SV→List (Ck C)→Tr):Tr:=
 fTm (initTm 0 args) fun tm0=>fM mem fun mem0=>sexecG E L [] none (rangeF E L its) c none tm0 mem0 fun e _ tm m=>match e with
  | .exit _=>.no
  | _=>match retSV P fn tm m with
    | some (ps,r)=>conj ps (fSV r fun r=>fM m fun m=>G r m)
    | none=>.no
theorem leaves_marks {P:Program} {fn:Func} {tmps:Array Value} {R:Ending→World→Prop} {s rd:Nat→Prop} {w0:World} {m:List (Ck C)}:∀ (ds:List Nat) (w:World),MemOK ⟨s,ds.map mpin,rd⟩ w0 w m→
 (∀ w',MemOK ⟨s,[],rd⟩ w0 w' m→∃ v,(results fn tmps).run P w'=.ok v w'∧R (.returned v) w')→LeavesInM (FR none) 0 P fn tmps R (ds.map mark) .returning w
 | [],w,hm,h=>h w hm
 | D :: ds,w,hm,h=>by
   refine ⟨by simp,.inl ⟨D,_,rfl,run_takeDeferred (hm.more.pin (mpin D) (by simp)).1,?_⟩⟩
   exact leaves_marks ds _ ((hm.repin (.deferred none)).unpin) h
theorem fexecR_ok {P:Program} (hmix:P.follows .mixedOrders=true) {E:Env P C} {L:List (Inv' C)} {its:List (It P C)} {f:FuncId} {fn:Func} {c:Code} {args:List SV} {mem:List (Ck C)} {G:SV→List (Ck C)→Tr}
 (hf:P.funcs[f]? = some fn) (hb:fn.body=some c) (hn:fn.ntmps=E.n) (hlen:wc args.length E.n=true) (hnc:noCnds args=true) (h:fexecR E L its fn c args mem G) (w:World) (hm:MemOK (wrS mem) w w mem):
 Calls P f (SV.vas (ads mem) args).toArray w fun e w'=>∃ r m',e=.returned (r.va (ads m'))∧MemOK (wrS mem) w w' m'∧G r m':=by
 refine (callsIn_wide (n:=0)).1 (callsIn_of_wp_marks hf hb trivial ?_)
 have hinit:=init_ok (ad:=ads mem) (n:=E.n) hlen hnc
 unfold fexecR at h
 simp only [fTm_eq,fM_eq,fSV_eq] at h
 have h3:=sexecG_ok (P:=P) hmix (G:=⟨none,fun _ ds=>⟨(wrS mem).set,ds.map mpin,(wrS mem).rd⟩,w,fun ds=>ds.map mark,noAd,[]⟩) (E:=E) (L:=L) (Y:=none) (RF:=rangeF E L its) noY_ok (rangeF_ok hmix) (c:=c) (pj:=none) (m:=mem) (ds:=[]) (w:=w)
  (Q:=bodyPostM Fence.wide 0 P fn (fun e w'=>∃ r m',e=.returned (r.va (ads m'))∧MemOK (wrS mem) w w' m'∧G r m')) h hinit hm (fun c hc=>by cases hc) ?_
 · rw [← hn] at h3
   exact h3
 intro e pj' tm m a w' ds hk ha hm' _
 have fin:(match retSV P fn tm m with | some (ps,r)=>conj ps (G r m) | none=>.no:Tr).holds→LeavesInM Fence.wide 0 P fn a.tmps (fun e w'=>∃ r m',e=.returned (r.va (ads m'))∧MemOK (wrS mem) w w' m'∧G r m') (wa a (ds.map mark)).defers .returning w':=by
  intro hk
  split at hk <;> try (first | contradiction | exact False.elim hk)
  rename_i ps r hr
  obtain ⟨hp,hG⟩:=(conj_iff _ _).1 hk
  have e:(wa a (ds.map mark)).defers=ds.map mark:=by show a.defers ++ _=_;rw [ha.defers];rfl
  rw [e]
  exact leaves_marks ds w' hm' fun w'' hm''=>⟨_,retSV_ok ha hm'' hr hp,r,m,rfl,hm'',hG⟩
 cases e with
 | nor=>exact fin hk
 | exit i=>exact hk.elim
 | ret=>exact fin hk
theorem loc_fnR {P:Program} (hmix:P.follows .mixedOrders=true) {E:Env P C} {L:List (Inv' C)} (its:List (It P C)) {f:FuncId} {fn:Func} {c:Code} {args:List SV} {mem:List (Ck C)} {alts:List (Alt C)}
 (hf : P.funcs[f]? = some fn) (hb : fn.body = some c) (hname : (fn.name == "runtime.NumGoroutine") = false) (hn : fn.ntmps = E.n) (hlen : wc args.length E.n = true) (hnc : noCnds args = true)
 (h:fexecR E L its fn c args mem fun r m=>.lf (Ends alts fun A y=>(finP mem r m (A.res y) (A.out y)).holds)):
 LocG P (.fn f) mem args fun r m'=>Ends alts fun A y=>r=A.res y∧m'=A.out y:=by
 intro w hm
 refine ⟨f,_,run_callFunc hf hb hname _ w,(fexecR_ok hmix hf hb hn hlen hnc h w hm).mono ?_⟩
 rintro e w' ⟨r,m',rfl,hm',A,hA,y,hy,hfin⟩
 obtain ⟨hm'',hv,hx⟩:=finP_ok hfin hm' hm
 exact ⟨A.res y,A.out y,by rw [hv],hm'',hx,A,hA,y,hy,rfl,rfl⟩
end Go.Vx
namespace Go.Vx
class Fd (K:Type) extends Add K,Mul K where
 zr:K
 un:K
 iv:K→K
 addA:∀ a b c:K,a+b+c=a+(b+c)
 addC:∀ a b:K,a+b=b+a
 add0:∀ a:K,a+zr=a
 add2:∀ a:K,a+a=zr
 mulA:∀ a b c:K,a*b*c=a*(b*c)
 mulC:∀ a b:K,a*b=b*a
 mul1:∀ a:K,a*un=a
 dist:∀ a b c:K,a*(b+c)=a*b+a*c
 ne:un≠zr
 inv:∀ a:K,a≠zr→a*iv a=un
namespace Fd
variable {K:Type} [Fd K]
theorem zadd (a:K):zr+a=a:=by rw [addC,add0]
theorem addL (a b c:K):a+(b+c)=b+(a+c):=by rw [← addA,addC a b,addA]
theorem mulL (a b c:K):a*(b*c)=b*(a*c):=by rw [← mulA,mulC a b,mulA]
theorem kill (a b:K):a+(a+b)=b:=by rw [← addA,add2,zadd]
theorem eq_of_add {a b:K} (h:a+b=zr):a=b:=by
 have:a+b+b=zr+b:=by rw [h]
 rw [addA,add2,add0,zadd] at this
 exact this
theorem add_of_eq {a b:K} (h:a=b):a+b=zr:=by rw [h,add2]
theorem add_ne {a b:K} (h:a≠b):a+b≠zr:=fun e=>h (eq_of_add e)
theorem add_left {a b c:K} (h:a+b=a+c):b=c:=by
 have:a+(a+b)=a+(a+c):=by rw [h]
 rw [kill,kill] at this
 exact this
theorem mul0 (a:K):a*zr=zr:=by
 have:a*zr+a*zr=a*zr:=by rw [← dist,add0]
 rw [add2] at this
 exact this.symm
theorem zmul (a:K):zr*a=zr:=by rw [mulC,mul0]
theorem umul (a:K):un*a=a:=by rw [mulC,mul1]
theorem distr (a b c:K):(a+b)*c=a*c+b*c:=by rw [mulC,dist,mulC c a,mulC c b]
theorem eq_zero {a b:K} (h:a*b=zr) (ha:a≠zr):b=zr:=by
 have:iv a*(a*b)=zr:=by rw [h,mul0]
 rw [← mulA,mulC (iv a),inv a ha,umul] at this
 exact this
theorem mul_ne {a b:K} (ha:a≠zr) (hb:b≠zr):a*b≠zr:=fun h=>hb (eq_zero h ha)
theorem iv_ne {a:K} (ha:a≠zr):iv a≠zr:=by
 intro h
 have:=inv a ha
 rw [h,mul0] at this
 exact ne this.symm
theorem mul_cancel {a b c:K} (ha:a≠zr) (h:a*b=a*c):b=c:=by
 have h1:a*(b+c)=zr:=by rw [dist,h,add2]
 exact eq_of_add (eq_zero h1 ha)
theorem iv_uniq {a b:K} (h:a*b=un):b=iv a:=by
 have ha:a≠zr:=fun e=>ne (by rw [← h,e,zmul])
 exact mul_cancel ha (h.trans (inv a ha).symm)
theorem sqD (a b:K):(a+b)*(a+b)=a*a+b*b:=by
 rw [dist,distr,distr,mulC b a,addA,addL (a*b),← addA (a*b),add2,zadd] <;> rfl
def pw (x:K):Nat→K
 | 0=>un
 | n+1=>pw x n*x
theorem pw_add (x:K) (a:Nat):∀ b,pw x (a+b)=pw x a*pw x b
 | 0=>(mul1 _).symm
 | b+1=>by show pw x (a+b)*x=_*(pw x b*x);rw [pw_add x a b,mulA]
theorem pw_one (x:K):pw x 1=x:=umul x
theorem pw_mulx (x y:K):∀ n,pw (x*y) n=pw x n*pw y n
 | 0=>(mul1 _).symm
 | n+1=>by show pw (x*y) n*(x*y)=pw x n*x*(pw y n*y);rw [pw_mulx x y n,mulA,mulA,mulL (pw y n)]
theorem pw_ne {x:K} (h:x≠zr):∀ n,pw x n≠zr
 | 0=>ne
 | n+1=>mul_ne (pw_ne h n) h
theorem pw_sq (x:K) (n:Nat):pw (x*x) n=pw x n*pw x n:=pw_mulx x x n
def su {α:Type}:List α→(α→K)→K
 | [],_=>zr
 | a :: l,f=>f a+su l f
section
variable {α:Type} {l:List α} {f g:α→K}
theorem su_congr (h:∀ x∈l,f x=g x):su l f=su l g:=by
 induction l with
 | nil=>rfl
 | cons a l ih=>show f a+_=g a+_;rw [h a (xp ..),ih fun x hx=>h x (yw _ hx)]
theorem su_zero (h:∀ x∈l,f x=zr):su l f=zr:=by
 induction l with
 | nil=>rfl
 | cons a l ih=>show f a+_=zr;rw [h a (xp ..),ih fun x hx=>h x (yw _ hx),add0]
theorem su_add:su l (fun x=>f x+g x)=su l f+su l g:=by
 induction l with
 | nil=>exact (add0 _).symm
 | cons a l ih=>show f a+g a+_=f a+_+(g a+_);rw [ih,addA,addA,addL (g a)]
theorem su_mul (c:K):su l (fun x=>c*f x)=c*su l f:=by
 induction l with
 | nil=>exact (mul0 _).symm
 | cons a l ih=>show c*f a+_=c*(f a+_);rw [ih,dist]
theorem su_app (l':List α):su (l ++ l') f=su l f+su l' f:=by
 induction l with
 | nil=>exact (zadd _).symm
 | cons a l ih=>show f a+su (l ++ l') f=f a+su l f+su l' f;rw [ih,addA]
theorem su_map {β:Type} {l:List β} (h:β→α):su (l.map h) f=su l fun x=>f (h x):=by
 induction l with
 | nil=>rfl
 | cons a l ih=>show f (h a)+_=f (h a)+_;rw [ih]
theorem su_sq:su l f*su l f=su l fun x=>f x*f x:=by
 induction l with
 | nil=>exact mul0 _
 | cons a l ih=>show (f a+su l f)*(f a+su l f)=f a*f a+_;rw [sqD,ih]
theorem su_split (p:α→Bool):su l f=su (l.filter p) f+su (l.filter fun x=>!p x) f:=by
 induction l with
 | nil=>exact (add0 _).symm
 | cons a l ih=>
   show f a+su l f=_
   rw [ih,List.filter_cons,List.filter_cons]
   cases p a with
   | true=>exact (addA _ _ _).symm
   | false=>exact addL _ _ _
end
def sm:Nat→(Nat→K)→K
 | 0,_=>zr
 | n+1,f=>sm n f+f n
section
variable {n:Nat} {f g:Nat→K}
theorem sm_congr (h:∀ i,i<n→f i=g i):sm n f=sm n g:=by
 induction n with
 | zero=>rfl
 | succ n ih=>show sm n f+f n=sm n g+g n;rw [ih fun i hi=>h i (rc hi),h n (wt n)]
theorem sm_zero (h:∀ i,i<n→f i=zr):sm n f=zr:=by
 induction n with
 | zero=>rfl
 | succ n ih=>show sm n f+f n=zr;rw [ih fun i hi=>h i (rc hi),h n (wt n),add0]
theorem sm_add:sm n (fun x=>f x+g x)=sm n f+sm n g:=by
 induction n with
 | zero=>exact (add0 _).symm
 | succ n ih=>show _+(f n+g n)=_+f n+(_+g n);rw [ih,addA,addA,addL (f n)]
theorem sm_mul (c:K):sm n (fun x=>c*f x)=c*sm n f:=by
 induction n with
 | zero=>exact (mul0 _).symm
 | succ n ih=>show _+c*f n=c*(_+f n);rw [ih,dist]
theorem sm_split (a:Nat):∀ b,sm (a+b) f=sm a f+sm b fun i=>f (a+i)
 | 0=>(add0 _).symm
 | b+1=>by show sm (a+b) f+f (a+b)=sm a f+(_+f (a+b));rw [sm_split a b,addA]
theorem sm_head:sm (n+1) f=f 0+sm n fun i=>f (i+1):=by
 rw [up n 1,sm_split 1 n]
 show zr+f 0+_=_
 rw [zadd]
 congr 1
 exact sm_congr fun i _=>by rw [up]
theorem sm_sum {α:Type} {l:List α} {F:Nat→α→K}:sm n (fun i=>su l (F i))=su l fun x=>sm n fun i=>F i x:=by
 induction n with
 | zero=>exact (su_zero fun _ _=>rfl).symm
 | succ n ih=>show sm n _+su l (F n)=su l fun x=>sm n _+F n x;rw [ih,← su_add]
theorem sm_more {m:Nat} (h:n≤m) (hz:∀ i,n≤i→i<m→f i=zr):sm m f=sm n f:=by
 obtain ⟨b,rfl⟩:∃ b,m=n+b:=⟨m - n,by omega⟩
 rw [sm_split,sm_zero (n:=b) (fun i hi=>hz _ (by omega) (by omega)),add0]
theorem sm_sq:sm n f*sm n f=sm n fun x=>f x*f x:=by
 induction n with
 | zero=>exact mul0 _
 | succ n ih=>show (sm n f+f n)*(sm n f+f n)=_+f n*f n;rw [sqD,ih]
end
theorem vand {l:List K} (hn:l.Nodup):∀ {Y:K→K},(∀ k,k<l.length→su l (fun x=>Y x*pw x k)=zr)→∀ x∈l,Y x=zr:=by
 induction l with
 | nil=>intro Y _ x hx;cases hx
 | cons a r ih=>
   intro Y h
   obtain ⟨ha,hr⟩:=List.nodup_cons.1 hn
   have h1:∀ x∈r,Y x*(x+a)=zr:=by
    refine ih hr (Y:=fun x=>Y x*(x+a)) fun k hk => ?_
    have e1:=h (k+1) (Nat.succ_lt_succ hk)
    have e2:=h k (rc hk)
    have e3:su (a :: r) (fun x=>Y x*pw x (k+1)+a*(Y x*pw x k))=zr:=by rw [su_add,su_mul,e1,e2,mul0,add0]
    have e4:su (a :: r) (fun x=>Y x*pw x (k+1)+a*(Y x*pw x k))=su (a :: r) fun x=>Y x*(x+a)*pw x k:=by
     refine su_congr fun x _ => ?_
     show Y x*(pw x k*x)+a*(Y x*pw x k)=_
     rw [dist,distr,mulC (pw x k),mulA,mulA,mulL a]
    rw [e4] at e3
    change Y a*(a+a)*pw a k+_=zr at e3
    rw [add2,mul0,zmul,zadd] at e3
    exact e3
   have h2:∀ x∈r,Y x=zr:=fun x hx=>by
    have:=h1 x hx
    rw [mulC] at this
    exact eq_zero this (add_ne fun e=>ha (e ▸ hx))
   intro x hx
   rcases List.mem_cons.1 hx with rfl | hx
   · have:=h 0 (Nat.succ_pos _)
     change Y x*un+_=zr at this
     rwa [su_zero fun y hy=>by rw [h2 y hy,zmul],add0,mul1] at this
   · exact h2 x hx
theorem vand_has {l:List K} (hn:l.Nodup):∀ s:Nat→K,∃ Y:K→K,∀ k,k<l.length→su l (fun x=>Y x*pw x k)=s k:=by
 induction l with
 | nil=>exact fun s=>⟨fun _=>zr,fun k hk=>absurd hk (xi k)⟩
 | cons a r ih=>
   intro s
   obtain ⟨ha,hr⟩:=List.nodup_cons.1 hn
   obtain ⟨Z,hZ⟩:=ih hr fun k=>s (k+1)+a*s k
   have hne:∀ x∈r,x+a≠zr:=fun x hx=>add_ne fun e=>ha (e ▸ hx)
   classical
   refine ⟨fun x=>if x=a then s 0+su r (fun x=>Z x*iv (x+a)) else Z x*iv (x+a),fun k hk => ?_⟩
   have hr':∀ k,su r (fun x=>(if x=a then s 0+su r (fun x=>Z x*iv (x+a)) else Z x*iv (x+a))*pw x k)=su r fun x=>Z x*iv (x+a)*pw x k:=fun k=>
    su_congr fun x hx=>by rw [if_neg (fun e:x=a=>ha (e ▸ hx))]
   induction k with
   | zero=>
     show (if a=a then _ else _)*un+_=_
     rw [hr' 0,if_pos rfl,mul1]
     show _+su r (fun x=>Z x*iv (x+a)*un)=_
     rw [su_congr (g:=fun x=>Z x*iv (x+a)) fun x _=>mul1 _,addA,add2,add0]
   | succ k ih2=>
     have e2:=ih2 (Nat.lt_of_succ_lt hk)
     have e1:=hZ k (Nat.lt_of_succ_lt_succ hk)
     refine add_left (a:=a*s k) ?_
     rw [addC (a*s k) (s (k+1)),← e1,← e2]
     rw [← su_mul,← su_add]
     show _+su r _=_
     rw [show (fun x=>a*((if x=a then s 0+su r (fun x=>Z x*iv (x+a)) else Z x*iv (x+a))*pw x k)+(if x=a then s 0+su r (fun x=>Z x*iv (x+a)) else Z x*iv (x+a))*pw x (k+1)) a=zr by
      show a*(_*pw a k)+_*(pw a k*a)=zr
      rw [mulC (pw a k),mulL a,add2],zadd]
     refine su_congr fun x hx => ?_
     show a*((if x=a then _ else _)*pw x k)+(if x=a then _ else _)*pw x (k+1)=_
     rw [if_neg (fun e:x=a=>ha (e ▸ hx))]
     show a*(Z x*iv (x+a)*pw x k)+Z x*iv (x+a)*(pw x k*x)=_
     rw [mulL a,← dist,mulC a (pw x k),← dist,addC a x,mulC (pw x k),← mulA,mulA (Z x),mulC (iv (x+a)),inv _ (hne x hx),mul1]
def ev:List K→K→K
 | [],_=>zr
 | c :: l,x=>c+x*ev l x
theorem ev_sm:∀ (l:List K) (x:K),ev l x=sm l.length fun i=>l.getD i zr*pw x i
 | [],x=>rfl
 | c :: l,x=>by
   show c+x*ev l x=sm (l.length+1) _
   rw [sm_head,ev_sm l x,← sm_mul]
   congr 1
   · exact (mul1 c).symm
   · exact sm_congr fun i _=>by
      show x*(l.getD i zr*pw x i)=l.getD i zr*(pw x i*x)
      rw [mulL,mulC x]
def syn (a:K):List K→List K
 | []=>[]
 | c :: l=>match l with
   | []=>[]
   | d :: r=>ev (d :: r) a :: syn a (d :: r)
theorem syn_len (a:K):∀ l:List K,(syn a l).length=l.length - 1
 | []=>rfl
 | [c]=>rfl
 | c :: d :: r=>by show (syn a (d :: r)).length+1=_;rw [syn_len a (d :: r)];rfl
theorem syn_ev (a x:K):∀ l:List K,ev l x+ev l a=(x+a)*ev (syn a l) x
 | []=>by show zr+zr=_*zr;rw [add0,mul0]
 | [c]=>by show (c+x*zr)+(c+a*zr)=_*zr;rw [mul0,mul0,mul0,add2]
 | c :: d :: r=>by
   have ih:=syn_ev a x (d :: r)
   show c+x*ev (d :: r) x+(c+a*ev (d :: r) a)=(x+a)*(ev (d :: r) a+x*ev (syn a (d :: r)) x)
   rw [dist,mulL (x+a) x,← ih,addA,addL (x*_) c,kill,dist,distr]
   generalize ev (d :: r) x=p,ev (d :: r) a=q
   rw [addA,addL (a*q),addL (x*q),addC (a*q) (x*q),kill]
theorem roots {R:List K} (hn:R.Nodup):∀ {l:List K},l.length≤R.length→(∀ x∈R,ev l x=zr)→∀ c∈l,c=zr:=by
 induction R with
 | nil=>intro l hl _ c hc;cases l with | nil=>cases hc | cons _ _=>exact absurd hl (Nat.not_succ_le_zero _)
 | cons a R ih=>
   intro l hl h
   obtain ⟨ha,hr⟩:=List.nodup_cons.1 hn
   have h1:∀ c∈syn a l,c=zr:=by
    refine ih hr (by rw [syn_len];have:l.length≤R.length+1:=hl;omega) fun x hx => ?_
    have:=syn_ev a x l
    rw [h x (yw _ hx),h a (xp ..),add0] at this
    exact eq_zero this.symm (add_ne fun e=>ha (e ▸ hx))
   have h0:=h a (xp ..)
   clear ih hl h
   induction l with
   | nil=>intro c hc;cases hc
   | cons c l ih=>
     cases l with
     | nil=>
       change c+a*zr=zr at h0
       rw [mul0,add0] at h0
       intro d hd
       rw [List.mem_singleton.1 hd,h0]
     | cons d r=>
       have e1:ev (d :: r) a=zr:=h1 _ (xp ..)
       have e2:=ih (fun x hx=>h1 x (yw _ hx)) e1
       change c+a*ev (d :: r) a=zr at h0
       rw [e1,mul0,add0] at h0
       intro x hx
       rcases List.mem_cons.1 hx with rfl | hx
       · exact h0
       · exact e2 x hx
end Fd
end Go.Vx
namespace Go.Vx.Fd
variable {K:Type} [Fd K]
def phi (C:Nat→K) (L:Nat) (s:Nat→K) (j:Nat):K:=sm (L+1) fun i=>C i*s (j - i)
def rv (C:Nat→K) (L:Nat) (x:K):K:=sm (L+1) fun i=>C i*pw x (L - i)
def Rep (s:Nat→K) (n:Nat) (l:List K) (Y:K→K):Prop:=∀ k,k<n→s k=su l fun x=>Y x*pw x k
variable {s:Nat→K} {n:Nat} {C B:Nat→K} {L:Nat} {l:List K} {Y:K→K}
theorem phi_rep (h:Rep s n l Y) {j:Nat} (hL:L≤j) (hj:j<n):phi C L s j=su l fun x=>Y x*rv C L x*pw x (j - L):=by
 unfold phi rv
 rw [sm_congr (g:=fun i=>su l fun x=>C i*(Y x*pw x (j - i))) fun i hi=>by rw [h _ (by omega),su_mul]]
 rw [sm_sum]
 refine su_congr fun x _ => ?_
 rw [mulA,mulC (sm _ _),← sm_mul,← sm_mul]
 refine sm_congr fun i hi => ?_
 rw [mulL,mulL (pw x (j - L)),← pw_add]
 congr 3
 omega
theorem low_of (h:Rep s (n+1) l Y) (hl:l.Nodup) (hz:∀ j,L≤j→j<n→phi C L s j=zr) (hd:phi C L s n≠zr) (hL:L≤n):n+1 - L≤l.length:=by
 refine vc fun hlt=>hd ?_
 have h0:∀ x∈l,Y x*rv C L x=zr:=by
  refine vand hl (Y:=fun x=>Y x*rv C L x) fun k hk => ?_
  have:=hz (L+k) (by omega) (by omega)
  rw [phi_rep h (by omega) (by omega),show L+k - L=k by omega] at this
  exact this
 rw [phi_rep h hL (by omega)]
 exact su_zero fun x hx=>by rw [h0 x hx,zmul]
structure BM (s:Nat→K) (n:Nat) (C B:Nat→K) (L k b:Nat) (e:K):Prop where
 c0:C 0=un
 cd:∀ i,L<i→C i=zr
 bd:∀ i,b<i→B i=zr
 k1:1≤k
 e0:e≠zr
 rel:k+b+L=n+1
 cz:∀ j,L≤j→j<n→phi C L s j=zr
 bz:L=0∨(k≤n∧b≤n - k∧phi B b s (n - k)=e∧∀ j,b≤j→j<n - k→phi B b s j=zr)
 low:∀ l Y,l.Nodup→Rep s n l Y→L≤l.length
def upd (C B:Nat→K) (k:Nat) (q:K) (i:Nat):K:=C i+(if i<k then zr else B (i - k))*q
theorem phi_upd {L' b k:Nat} {q:K} (hc:∀ i,L<i→C i=zr) (hb:∀ i,b<i→B i=zr) (h1:L≤L') (h2:k+b≤L') {j:Nat} (hj:L'≤j):
 phi (upd C B k q) L' s j=phi C L s j+q*phi B b s (j - k):=by
 have e1:phi (upd C B k q) L' s j=sm (L'+1) (fun i=>C i*s (j - i))+q*sm (L'+1) fun i=>(if i<k then zr else B (i - k))*s (j - i):=by
  unfold phi
  rw [← sm_mul,← sm_add]
  refine sm_congr fun i _ => ?_
  unfold upd
  rw [distr,mulC _ q,mulA]
 rw [e1,sm_more (n:=L+1) (by omega) fun i hi _=>by rw [hc i (by omega),zmul]]
 congr 2
 obtain ⟨r,hr⟩:∃ r,L'+1=k+r:=⟨L'+1 - k,by omega⟩
 rw [hr,sm_split,sm_zero (n:=k) fun i hi=>by rw [if_pos hi,zmul],zadd]
 rw [sm_more (n:=b+1) (by omega) fun i hi _=>by rw [if_neg (by omega),show k+i - k=i by omega,hb i (by omega),zmul]]
 refine sm_congr fun i hi => ?_
 rw [if_neg (by omega),show k+i - k=i by omega,show j - (k+i)=j - k - i by omega]
theorem Rep.less (h:Rep s (n+1) l Y):Rep s n l Y:=fun k hk=>h k (rc hk)
variable {k b:Nat} {e:K}
theorem bm_start (hs:C 0=un) (hc:∀ i,0<i→C i=zr) (hb:∀ i,0<i→B i=zr):BM s 0 C B 0 1 0 un:=
 ⟨hs,hc,hb,zw 1,ne,rfl,fun j _ h=>absurd h (xi j),.inl rfl,fun _ _ _ _=>zg _⟩
theorem bm_fit (h:BM s n C B L k b e) (hd:phi C L s n=zr):BM s (n+1) C B L (k+1) b e:=by
 refine ⟨h.c0,h.cd,h.bd,by omega,h.e0,by have:=h.rel;omega,fun j h1 h2 => ?_,?_,fun l Y h1 h2=>h.low l Y h1 h2.less⟩
 · by_cases hj:j=n
   · rw [hj];exact hd
   · exact h.cz j h1 (by omega)
 · refine h.bz.imp id fun ⟨h1,h2,h3,h4⟩ => ?_
   rw [show n+1 - (k+1)=n - k by omega]
   exact ⟨by omega,h2,h3,h4⟩
theorem bm_turn (h:BM s n C B L k b e) (hd:phi C L s n≠zr) {L':Nat} (h1:L≤L') (h2:k+b≤L') (h3:L'≤n+1) {q:K} (hq:q=phi C L s n*iv e):
 upd C B k q 0=un∧(∀ i,L'<i→upd C B k q i=zr)∧∀ j,L'≤j→j<n+1→phi (upd C B k q) L' s j=zr:=by
 have hk:=h.k1
 refine ⟨?_,fun i hi => ?_,fun j h4 h5 => ?_⟩
 · unfold upd
   rw [if_pos (by omega),zmul,add0,h.c0]
 · unfold upd
   rw [h.cd i (by omega),if_neg (by omega),h.bd _ (by omega),zmul,add0]
 · have hr:=h.rel
   rw [phi_upd h.cd h.bd h1 h2 h4]
   rcases h.bz with h0 | ⟨g1,g2,g3,g4⟩
   · omega
   · by_cases hj:j=n
     · rw [hj,g3,hq,mulA,mulC (iv e),inv _ h.e0,mul1,add2]
     · rw [h.cz j (by omega) (by omega),g4 _ (by omega) (by omega),mul0,add0]
theorem bm_stay (h:BM s n C B L k b e) (hd:phi C L s n≠zr) (h2:n<2*L) {q:K} (hq:q=phi C L s n*iv e):BM s (n+1) (upd C B k q) B L (k+1) b e:=by
 have hr:=h.rel
 obtain ⟨a1,a2,a3⟩:=bm_turn h hd (zw L) (by omega) (by omega) hq
 refine ⟨a1,a2,h.bd,by omega,h.e0,by omega,a3,?_,fun l Y h1 h2=>h.low l Y h1 h2.less⟩
 refine h.bz.imp id fun ⟨h1,h2,h3,h4⟩ => ?_
 rw [show n+1 - (k+1)=n - k by omega]
 exact ⟨by omega,h2,h3,h4⟩
theorem bm_grow (h:BM s n C B L k b e) (hd:phi C L s n≠zr) (h2:2*L≤n) {q:K} (hq:q=phi C L s n*iv e):BM s (n+1) (upd C B k q) C (n+1 - L) 1 L (phi C L s n):=by
 have hr:=h.rel
 obtain ⟨a1,a2,a3⟩:=bm_turn h hd (L':=n+1 - L) (by omega) (by omega) (by omega) hq
 refine ⟨a1,a2,h.cd,zw 1,hd,by omega,a3,.inr ⟨by omega,by omega,rfl,fun j h3 h4=>h.cz j h3 h4⟩,fun l Y h3 h4=>low_of h4 h3 h.cz hd (by omega)⟩
theorem rv_roots (h:BM s n C B L k b e) (hr:Rep s n l Y) (hl:l.Nodup) (hY:∀ x∈l,Y x≠zr) (hn:2*l.length≤n):L≤l.length∧∀ x∈l,rv C L x=zr:=by
 have hL:=h.low l Y hl hr
 refine ⟨hL,fun x hx => ?_⟩
 have h0:∀ x∈l,Y x*rv C L x=zr:=by
  refine vand hl (Y:=fun x=>Y x*rv C L x) fun k hk => ?_
  have:=h.cz (L+k) (by omega) (by omega)
  rw [phi_rep hr (by omega) (by omega),show L+k - L=k by omega] at this
  exact this
 exact eq_zero (h0 x hx) (hY x hx)
theorem pw_iv {x:K} (h:x≠zr):∀ n,pw x n*pw (iv x) n=un
 | 0=>mul1 _
 | n+1=>by
   show pw x n*x*(pw (iv x) n*iv x)=un
   rw [mulA,mulL x,inv x h,mul1,pw_iv h n]
theorem rv_ev {x:K} (hx:x≠zr):rv C L x=pw x L*sm (L+1) fun i=>C i*pw (iv x) i:=by
 unfold rv
 rw [← sm_mul]
 refine sm_congr fun i hi => ?_
 rw [mulL (pw x L)]
 congr 1
 have e:pw x L=pw x (L - i)*pw x i:=by rw [← pw_add];congr 1;omega
 rw [e,mulA,pw_iv hx,mul1]
theorem rep_of (h0:C 0=un) (hz:∀ j,L≤j→j<n→phi C L s j=zr) (hl:l.Nodup) (hL:l.length=L) (hr:∀ x∈l,rv C L x=zr):∃ Y,Rep s n l Y:=by
 obtain ⟨Y,hY⟩:=vand_has hl s
 refine ⟨Y,fun k hk => ?_⟩
 induction k using pc with
 | ind k ih=>
   by_cases h:k<L
   · exact (hY k (by omega)).symm
   · have e1:=hz k (by omega) hk
     have e2:phi C L (fun k=>su l fun x=>Y x*pw x k) k=zr:=by
      rw [phi_rep (n:=k+1) (fun _ _=>rfl) (by omega) (by omega)]
      exact su_zero fun x hx=>by rw [hr x hx,mul0,zmul]
     unfold phi at e1 e2
     rw [sm_head,h0,umul,rq] at e1 e2
     have e3:sm L (fun i=>C (i+1)*s (k - (i+1)))=sm L fun i=>C (i+1)*su l fun x=>Y x*pw x (k - (i+1)):=
      sm_congr fun i hi=>by rw [ih _ (by omega) (by omega)]
     rw [e3] at e1
     exact (eq_of_add e1).trans (eq_of_add e2).symm
theorem sq_inj {x y:K} (h:x*x=y*y):x=y:=by
 have:(x+y)*(x+y)=zr:=by rw [sqD,h,add2]
 exact eq_of_add (Classical.byContradiction fun hn=>hn (eq_zero this hn))
theorem nodup_sq (h:l.Nodup):(l.map fun x=>x*x).Nodup:=by
 rw [List.Nodup,pp]
 exact List.Pairwise.imp (fun hab hab'=>hab (sq_inj hab')) h
theorem plain {S:Nat→K} {t:Nat} (h:BM (fun k=>S (k+1)) (2*t) C B L k b e) (hS:∀ i,1≤i→i≤t→S (2*i)=S i*S i) (hLt:L≤t) (hl:l.Nodup) (hL:l.length=L)
 (hx:∀ x∈l,x≠zr) (hr:∀ x∈l,rv C L x=zr):∀ i,1≤i→i≤2*t→S i=su l fun x=>pw x i:=by
 obtain ⟨Y,hY⟩:=rep_of h.c0 h.cz hl hL hr
 have hW:∀ i,1≤i→i≤2*t→S i=su l fun x=>Y x*iv x*pw x i:=fun i h1 h2=>by
  have:=hY (i - 1) (by omega)
  change S (i - 1+1)=_ at this
  rw [show i - 1+1=i by omega] at this
  rw [this]
  refine su_congr fun x hm => ?_
  have e:pw x i=pw x (i - 1)*x:=by
   have:i=i - 1+1:=by omega
   rw [this];rfl
  rw [e,mulA,mulL (iv x),mulC (iv x),inv x (hx x hm),mul1]
 have h2:∀ y∈l.map (fun x=>x*x),∀ x∈l,y=x*x→(Y x*iv x+Y x*iv x*(Y x*iv x))*y=zr:=by
  classical
  -- a weight of a square: that of its root
  have hf:∀ y∈l.map (fun x=>x*x),∃ x,x∈l∧x*x=y:=fun y hy=>by
   obtain ⟨x,h1,h2⟩:=List.mem_map.1 hy
   exact ⟨x,h1,h2⟩
  let g:K→K:=fun y=>if h:∃ x,x∈l∧x*x=y then Classical.choose h else zr
  have hg:∀ x∈l,g (x*x)=x:=fun x hm=>by
   have he:∃ z,z∈l∧z*z=x*x:=⟨x,hm,rfl⟩
   show (if h:∃ z,z∈l∧z*z=x*x then Classical.choose h else zr)=x
   rw [dif_pos he]
   exact sq_inj (Classical.choose_spec he).2
  have hv:=vand (nodup_sq hl) (Y:=fun y=>(Y (g y)*iv (g y)+Y (g y)*iv (g y)*(Y (g y)*iv (g y)))*y) fun k hk=>by
   rw [zn] at hk
   rw [su_map]
   have e1:=hW (2*(k+1)) (by omega) (by omega)
   have e2:=hW (k+1) (by omega) (by omega)
   have e3:=hS (k+1) (by omega) (by omega)
   rw [e1,e2,su_sq] at e3
   have e4:=add_of_eq e3
   rw [← su_add] at e4
   rw [← e4]
   refine su_congr fun x hm => ?_
   rw [hg x hm]
   generalize Y x*iv x=w
   rw [Nat.two_mul,pw_add,← pw_sq]
   have e:w*pw x (k+1)*(w*pw x (k+1))=w*w*pw (x*x) (k+1):=by
    rw [pw_sq,mulA,mulL (pw x (k+1)),mulA]
   rw [e,← distr,mulA]
   congr 1
   show x*x*pw (x*x) k=pw (x*x) k*(x*x)
   rw [mulC]
  intro y hy x hm e
  have:=hv y hy
  rw [e,hg x hm] at this
  rw [e]
  exact this
 have h3:∀ x∈l,Y x*iv x=zr∨Y x*iv x=un:=fun x hm=>by
  have:=h2 (x*x) (List.mem_map.2 ⟨x,hm,rfl⟩) x hm rfl
  rw [mulC] at this
  have h4:=eq_of_add (eq_zero this (mul_ne (hx x hm) (hx x hm)))
  by_cases h5:Y x*iv x=zr
  · exact .inl h5
  · refine .inr (mul_cancel h5 ?_)
    rw [← h4,mul1]
 have h4:∀ x∈l,Y x*iv x=un:=by
  classical
  have h5:=h.low (l.filter fun x=>decide (Y x*iv x=un)) (fun x=>x) (hl.sublist List.filter_sublist) fun k hk=>by
   show S (k+1)=_
   rw [hW (k+1) (by omega) (by omega),su_split fun x=>decide (Y x*iv x=un)]
   have e1:su (l.filter fun x=>!decide (Y x*iv x=un)) (fun x=>Y x*iv x*pw x (k+1))=zr:=su_zero fun x hm=>by
    obtain ⟨m1,m2⟩:=List.mem_filter.1 hm
    rcases h3 x m1 with h6 | h6
    · rw [h6,zmul]
    · simp [h6] at m2
   rw [e1,add0]
   refine su_congr fun x hm => ?_
   have m2:=ng (List.mem_filter.1 hm).2
   rw [m2,umul]
   exact mulC _ _
  intro x hm
  have h6:(l.filter fun x=>decide (Y x*iv x=un)).length=l.length:=pd (List.length_filter_le _ _) (by rw [hL];exact h5)
  have h7:=List.length_filter_eq_length_iff.1 h6 x hm
  exact ng h7
 intro i h5 h6
 rw [hW i h5 h6]
 exact su_congr fun x hm=>by rw [h4 x hm,umul]
end Go.Vx.Fd
namespace Go.Vx
def mulx (m p a:Nat):Nat:=if a.testBit (m - 1) then (2*a) ^^^ p else 2*a
def mx (m p:Nat):Nat→Nat→Nat
 | 0,a=>a
 | i+1,a=>mulx m p (mx m p i a)
def mg (m p:Nat):Nat→Nat→Nat→Nat
 | 0,_,_=>0
 | f+1,a,b=>(if b.testBit 0 then a else 0) ^^^ mg m p f (mulx m p a) (b / 2)
theorem two_xor (a b:Nat):2*(a ^^^ b)=(2*a) ^^^ (2*b):=by
 refine vz fun i => ?_
 rw [ww]
 cases i with
 | zero=>simp
 | succ i=>rw [wy,wy,wy];simp
theorem half_xor (a b:Nat):(a ^^^ b) / 2=(a / 2) ^^^ (b / 2):=by
 refine vz fun i => ?_
 rw [ww,← wy,← wy,← wy,ww]
theorem xor_swap (a b c d:Nat):(a ^^^ b) ^^^ (c ^^^ d)=(a ^^^ c) ^^^ (b ^^^ d):=by
 rw [sa,sa,← sa b,rp b c,sa c]
theorem ite_xor (b c:Bool) (a:Nat):(if (b ^^ c)=true then a else 0)=(if b=true then a else 0) ^^^ (if c=true then a else 0):=by
 cases b <;> cases c <;> simp
variable {m p:Nat}
theorem mulx_eq (a:Nat):mulx m p a=(2*a) ^^^ (if a.testBit (m - 1) then p else 0):=by
 unfold mulx
 split
 · rfl
 · rw [sy]
theorem mulx_xor (a b:Nat):mulx m p (a ^^^ b)=mulx m p a ^^^ mulx m p b:=by
 rw [mulx_eq,mulx_eq,mulx_eq,two_xor,ww,ite_xor,xor_swap]
theorem mulx_zero:mulx m p 0=0:=by simp [mulx]
theorem mx_xor (a b:Nat):∀ i,mx m p i (a ^^^ b)=mx m p i a ^^^ mx m p i b
 | 0=>rfl
 | i+1=>by show mulx m p _=_;rw [mx_xor a b i,mulx_xor];rfl
theorem mx_zero:∀ i,mx m p i 0=0
 | 0=>rfl
 | i+1=>by show mulx m p _=_;rw [mx_zero i,mulx_zero]
theorem mx_add (i a:Nat):∀ j,mx m p (i+j) a=mx m p j (mx m p i a)
 | 0=>rfl
 | j+1=>congrArg (mulx m p) (mx_add i a j)
theorem mx_comm (a:Nat):∀ i,mx m p i (mulx m p a)=mulx m p (mx m p i a)
 | 0=>rfl
 | i+1=>by show mulx m p _=_;rw [mx_comm a i];rfl
theorem mg_xor (a a':Nat):∀ (f:Nat) (b:Nat),mg m p f (a ^^^ a') b=mg m p f a b ^^^ mg m p f a' b:=by
 intro f
 induction f generalizing a a' with
 | zero=>intro b;exact (qm 0).symm
 | succ f ih=>
   intro b
   show _ ^^^ mg m p f _ _=(_ ^^^ _) ^^^ (_ ^^^ _)
   rw [mulx_xor,ih,xor_swap]
   congr 1
   split
   · rfl
   · rfl
theorem mg_xorr:∀ (f a b b':Nat),mg m p f a (b ^^^ b')=mg m p f a b ^^^ mg m p f a b'
 | 0,_,_,_=>(qm 0).symm
 | f+1,a,b,b'=>by
   show _ ^^^ mg m p f _ _=(_ ^^^ _) ^^^ (_ ^^^ _)
   rw [half_xor,mg_xorr f,xor_swap,ww,ite_xor]
theorem mg_mulx:∀ (f a b:Nat),mg m p f (mulx m p a) b=mulx m p (mg m p f a b)
 | 0,a,b=>mulx_zero.symm
 | f+1,a,b=>by
   show _ ^^^ mg m p f _ _=mulx m p (_ ^^^ _)
   rw [mulx_xor,mg_mulx f (mulx m p a)]
   congr 1
   split
   · rfl
   · exact mulx_zero.symm
theorem mg_mx (f a b:Nat):∀ i,mg m p f (mx m p i a) b=mx m p i (mg m p f a b)
 | 0=>rfl
 | i+1=>by show mg m p f (mulx m p _) b=mulx m p _;rw [mg_mulx,mg_mx f a b i]
theorem mg_zero:∀ (f a:Nat),mg m p f a 0=0
 | 0,_=>rfl
 | f+1,a=>by show _ ^^^ mg m p f _ (0 / 2)=0;rw [Nat.zero_div,mg_zero f];simp
theorem mg_zl:∀ (f b:Nat),mg m p f 0 b=0
 | 0,_=>rfl
 | f+1,b=>by show _ ^^^ mg m p f _ (b / 2)=0;rw [mulx_zero,mg_zl f];simp
theorem mg_more:∀ (f g a b:Nat),b<2 ^ f→mg m p (f+g) a b=mg m p f a b
 | 0,g,a,b,h=>by rw [show b=0 by rw [se] at h;omega,mg_zero];rfl
 | f+1,g,a,b,h=>by
   rw [show f+1+g=f+g+1 by omega]
   show _ ^^^ mg m p (f+g) _ _=_ ^^^ mg m p f _ _
   rw [mg_more f g _ _ (by rw [wg] at h;omega)]
theorem mg_one (h:1≤m) (a:Nat):mg m p m a 1=a:=by
 obtain ⟨k,rfl⟩:∃ k,m=k+1:=⟨m - 1,by omega⟩
 show _ ^^^ mg (k+1) p k _ (1 / 2)=a
 rw [show 1 / 2=0 by rfl,mg_zero,sy]
 rfl
theorem mx_one:∀ i,i<m→mx m p i 1=2 ^ i
 | 0,_=>rfl
 | i+1,h=>by
   show mulx m p _=_
   rw [mx_one i (by omega)]
   unfold mulx
   rw [vy,if_neg (by simp;omega),wg,xn]
theorem low_xor (b:Nat):(if b.testBit 0=true then 1 else 0) ^^^ 2*(b / 2)=b:=by
 refine vz fun i => ?_
 rw [ww]
 cases i with
 | zero=>cases h:b.testBit 0 <;> simp
 | succ i=>
   rw [wy,wy,wy,ri _ (by omega)]
   cases h:b.testBit 0 <;> simp
theorem bit_xor (b j:Nat):(if b.testBit 0=true then 2 ^ j else 0) ^^^ 2 ^ (j+1)*(b / 2)=2 ^ j*b:=by
 have e:∀ x:Nat,2 ^ j*x=x <<< j:=fun x=>by rw [uw,xn]
 have e1:(if b.testBit 0=true then 2 ^ j else 0)=(if b.testBit 0=true then 1 else 0) <<< j:=by split <;> simp [uw]
 have e2:2 ^ (j+1)*(b / 2)=(2*(b / 2)) <<< j:=by rw [← e,wg,Nat.mul_assoc]
 rw [e1,e2,← Nat.shiftLeft_xor_distrib,low_xor,e]
theorem mg_bits:∀ (f j b:Nat),j+f≤m→j<m→b<2 ^ f→mg m p f (2 ^ j) b=2 ^ j*b
 | 0,j,b,_,_,h=>by rw [show b=0 by rw [se] at h;omega,Nat.mul_zero];rfl
 | f+1,j,b,h1,h2,h=>by
   show _ ^^^ mg m p f (mulx m p (2 ^ j)) (b / 2)=_
   by_cases hf:f=0
   · subst hf
     rw [show b / 2=0 by rw [show 0+1=1 from rfl,Nat.pow_one] at h;omega,mg_zero,sy]
     rcases (by rw [show 0+1=1 from rfl,Nat.pow_one] at h;omega:b=0∨b=1) with rfl | rfl
     · simp
     · simp
   · have e:mulx m p (2 ^ j)=2 ^ (j+1):=by
      unfold mulx
      rw [vy,if_neg (by simp;omega),wg,xn]
     rw [e,mg_bits f (j+1) (b / 2) (by omega) (by omega) (by rw [wg] at h;omega),bit_xor]
theorem mg_id (h:1≤m) {b:Nat} (hb:b<2 ^ m):mg m p m 1 b=b:=by
 have:=mg_bits (m:=m) (p:=p) m 0 b (by omega) (by omega) hb
 rwa [se,Nat.one_mul] at this
theorem lin_ind {Q:Nat→Prop} (h0:Q 0) (hx:∀ a b,Q a→Q b→Q (a ^^^ b)):∀ {n:Nat},(∀ i,i<n→Q (2 ^ i))→∀ a,a<2 ^ n→Q a
 | 0,_,a,h=>by rw [show a=0 by rw [se] at h;omega];exact h0
 | n+1,h1,a,h=>by
   by_cases ha:a<2 ^ n
   · exact lin_ind h0 hx (fun i hi=>h1 i (by omega)) a ha
   · have e:a=(a % 2 ^ n) ^^^ 2 ^ n:=by
      refine vz fun i => ?_
      rw [ww,Nat.testBit_mod_two_pow,vy]
      by_cases h2:i<n
      · rw [decide_eq_true h2,decide_eq_false (by omega:¬ n=i),zd,Bool.xor_false]
      · by_cases h3:i=n
        · subst h3
          have:a.testBit i=true:=by
           rw [Nat.testBit_eq_decide_div_mod_eq]
           have h5:a / 2 ^ i=1:=by
            rw [Nat.div_eq_iff (yg i)]
            rw [wg] at h
            omega
           rw [h5];rfl
          rw [this];simp
        · have:a.testBit i=false:=xw (zk h (zj (by omega) (by omega)))
          rw [this,decide_eq_false h2,decide_eq_false (by omega:¬ n=i)];rfl
     rw [e]
     exact hx _ _ (lin_ind h0 hx (fun i hi=>h1 i (by omega)) _ (yv _ (yg n))) (h1 n (wt n))
structure Gp where
 m:Nat
 p:Nat
 m1:1≤m
 top:p.testBit m=true
 lt:p<2 ^ (m+1)
variable (F:Gp)
theorem Gp.mulx_lt {a:Nat} (h:a<2 ^ F.m):mulx F.m F.p a<2 ^ F.m:=by
 have h1:=F.m1
 refine tq _ fun i hi => ?_
 unfold mulx
 have h2:∀ i,F.m≤i→(2*a).testBit i=(a.testBit (i - 1)):=fun i hi=>by
  obtain ⟨k,rfl⟩:∃ k,i=k+1:=⟨i - 1,by omega⟩
  rw [wy];simp
 have h3:∀ i,F.m<i→a.testBit (i - 1)=false:=fun i hi=>xw (zk h (zj (by omega) (by omega)))
 by_cases hi':i=F.m
 · subst hi'
   split
   · rename_i ht
     rw [ww,h2 _ (zw _),ht,F.top];rfl
   · rename_i ht
     rw [h2 _ (zw _)];exact Bool.eq_false_iff.2 ht
 · split
   · rw [ww,h2 _ hi,h3 i (by omega),xw (zk F.lt (zj (by omega) (by omega)))];rfl
   · rw [h2 _ hi,h3 i (by omega)]
theorem xor_lt {a b n:Nat} (ha:a<2 ^ n) (hb:b<2 ^ n):a ^^^ b<2 ^ n:=wo ha hb
theorem Gp.mx_lt {a:Nat} (h:a<2 ^ F.m):∀ i,mx F.m F.p i a<2 ^ F.m
 | 0=>h
 | i+1=>F.mulx_lt (mx_lt h i)
theorem Gp.mg_lt (b:Nat):∀ (f a:Nat),a<2 ^ F.m→mg F.m F.p f a b<2 ^ F.m:=by
 intro f
 induction f generalizing b with
 | zero=>exact fun a _=>yg _
 | succ f ih=>
   intro a ha
   refine xor_lt ?_ (ih (b / 2) _ (F.mulx_lt ha))
   split
   · exact ha
   · exact yg _
abbrev Gp.mul (a b:Nat):Nat:=mg F.m F.p F.m a b
theorem Gp.basis {Q:Nat→Prop} (h0:Q 0) (hx:∀ a b,Q a→Q b→Q (a ^^^ b)) (h1:∀ i,Q (mx F.m F.p i 1)) (a:Nat) (h:a<2 ^ F.m):Q a:=
 lin_ind h0 hx (n:=F.m) (fun i hi=>by rw [← mx_one (p:=F.p) i hi];exact h1 i) a h
def Gp.pl:Nat:=F.p ^^^ 2 ^ F.m
theorem Gp.pl_lt:F.pl<2 ^ F.m:=by
 refine tq _ fun i hi => ?_
 unfold Gp.pl
 rw [ww,vy]
 by_cases h:i=F.m
 · subst h;rw [F.top];simp
 · rw [xw (zk F.lt (zj (by omega) (by omega)))]
   simp;omega
theorem Gp.mx_m:mx F.m F.p F.m 1=F.pl:=by
 have h1:=F.m1
 obtain ⟨k,hk⟩:∃ k,F.m=k+1:=⟨F.m - 1,by omega⟩
 have e:mx F.m F.p F.m 1=mulx F.m F.p (2 ^ k):=by
  have:mx F.m F.p (k+1) 1=mulx F.m F.p (2 ^ k):=by show mulx F.m F.p (mx F.m F.p k 1)=_;rw [mx_one k (by omega)]
  rw [← this,← hk]
 rw [e]
 unfold mulx Gp.pl
 rw [show F.m - 1=k by omega,Nat.testBit_two_pow_self,if_pos rfl,rp,hk,wg,xn]
theorem Gp.mul_pl (a:Nat) (h:a<2 ^ F.m):F.mul a F.pl=mx F.m F.p F.m a:=by
 refine F.basis (Q:=fun a=>F.mul a F.pl=mx F.m F.p F.m a) ?_ ?_ ?_ a h
 · rw [mx_zero];exact mg_zl _ _
 · intro a b ha hb
   show mg F.m F.p F.m _ _=_
   rw [mg_xor,mx_xor,← ha,← hb]
 · intro i
   show mg F.m F.p F.m _ _=_
   rw [mg_mx,mg_id F.m1 F.pl_lt,← mx_add,up,mx_add,F.mx_m]
theorem Gp.mul_mulx (a b:Nat) (ha:a<2 ^ F.m) (hb:b<2 ^ F.m):F.mul a (mulx F.m F.p b)=mulx F.m F.p (F.mul a b):=by
 have h1:=F.m1
 have low:∀ b,b<2 ^ (F.m - 1)→F.mul a (2*b)=mulx F.m F.p (F.mul a b):=by
  intro b hb
  rw [← mg_mulx]
  obtain ⟨k,hk⟩:∃ k,F.m=k+1:=⟨F.m - 1,by omega⟩
  show mg F.m F.p F.m a (2*b)=_
  have e:∀ n,n=k+1→mg F.m F.p n a (2*b)=mg F.m F.p n (mulx F.m F.p a) b:=by
   intro n hn
   subst hn
   rw [mg_more k 1 _ b (by rw [hk] at hb;exact hb)]
   show _ ^^^ mg F.m F.p k _ (2*b / 2)=_
   rw [ri b (by omega)]
   simp
  exact e _ hk
 by_cases ht:b.testBit (F.m - 1)=true
 · have e:mulx F.m F.p b=F.pl ^^^ 2*(b ^^^ 2 ^ (F.m - 1)):=by
    unfold mulx Gp.pl
    rw [if_pos ht,two_xor,show 2*2 ^ (F.m - 1)=2 ^ F.m by rw [xn,← wg];congr 1;omega]
    rw [rp (2*b),xor_swap,rp (2 ^ F.m) (2 ^ F.m),qm,sy]
   have hl:b ^^^ 2 ^ (F.m - 1)<2 ^ (F.m - 1):=by
    refine tq _ fun i hi => ?_
    rw [ww,vy]
    by_cases h:i=F.m - 1
    · subst h;rw [ht];simp
    · rw [xw (zk hb (zj (by omega) (by omega)))];simp;omega
   rw [e]
   show mg F.m F.p F.m a _=_
   rw [mg_xorr,show mg F.m F.p F.m a F.pl=mx F.m F.p F.m a from F.mul_pl a ha]
   have e2:=low _ hl
   show _ ^^^ F.mul a _=_
   rw [e2,show F.mul a (b ^^^ 2 ^ (F.m - 1))=F.mul a b ^^^ F.mul a (2 ^ (F.m - 1)) from mg_xorr _ _ _ _,mulx_xor]
   have e3:F.mul a (2 ^ (F.m - 1))=mx F.m F.p (F.m - 1) a:=by
    have:∀ j f a,j<f→mg F.m F.p f a (2 ^ j)=mx F.m F.p j a:=by
     intro j
     induction j with
     | zero=>
       intro f a hf
       obtain ⟨g,rfl⟩:∃ g,f=g+1:=⟨f - 1,by omega⟩
       show _ ^^^ mg F.m F.p g _ (1 / 2)=a
       rw [show 1 / 2=0 from rfl,mg_zero,sy];rfl
     | succ j ih=>
       intro f a hf
       obtain ⟨g,rfl⟩:∃ g,f=g+1:=⟨f - 1,by omega⟩
       show _ ^^^ mg F.m F.p g _ (2 ^ (j+1) / 2)=_
       rw [wg,Nat.mul_div_cancel _ (by omega),ih g _ (by omega),mx_comm]
       have:(2 ^ j*2).testBit 0=false:=by simp
       rw [this]
       simp [mx]
    exact this _ _ _ (by omega)
   have e4:mulx F.m F.p (mx F.m F.p (F.m - 1) a)=mx F.m F.p F.m a:=by
    have:mx F.m F.p (F.m - 1+1) a=mulx F.m F.p (mx F.m F.p (F.m - 1) a):=rfl
    rw [← this];congr 1;omega
   rw [e3,e4,rp (mulx F.m F.p _),← sa,qm,Nat.zero_xor]
 · have ht:b.testBit (F.m - 1)=false:=Bool.eq_false_iff.2 ht
   have hl:b<2 ^ (F.m - 1):=by
    refine tq _ fun i hi => ?_
    by_cases h:i=F.m - 1
    · subst h;exact ht
    · exact xw (zk hb (zj (by omega) (by omega)))
   have e:mulx F.m F.p b=2*b:=by unfold mulx;rw [ht];rfl
   rw [e,low b hl]
theorem Gp.mul_mx (a b:Nat) (ha:a<2 ^ F.m) (hb:b<2 ^ F.m):∀ i,F.mul a (mx F.m F.p i b)=mx F.m F.p i (F.mul a b)
 | 0=>rfl
 | i+1=>by
   show F.mul a (mulx F.m F.p _)=mulx F.m F.p _
   rw [F.mul_mulx a _ ha (F.mx_lt hb i),mul_mx a b ha hb i]
theorem Gp.one_lt:1<2 ^ F.m:=ug (by have:=F.m1;omega)
theorem Gp.mul_comm (a b:Nat) (ha:a<2 ^ F.m) (hb:b<2 ^ F.m):F.mul a b=F.mul b a:=by
 refine F.basis (Q:=fun a=>F.mul a b=F.mul b a) ?_ ?_ ?_ a ha
 · show mg F.m F.p F.m 0 b=mg F.m F.p F.m b 0
   rw [mg_zero,mg_zl]
 · intro a c h1 h2
   show mg F.m F.p F.m _ _=mg F.m F.p F.m _ _
   rw [mg_xor,mg_xorr]
   exact congr (congrArg _ h1) h2
 · intro i
   rw [F.mul_mx b 1 hb F.one_lt]
   show mg F.m F.p F.m _ _=_
   rw [mg_mx,mg_id F.m1 hb]
   show _=mx F.m F.p i (mg F.m F.p F.m b 1)
   rw [mg_one F.m1]
theorem Gp.mul_assoc (a b c:Nat) (ha:a<2 ^ F.m) (hb:b<2 ^ F.m):F.mul (F.mul a b) c=F.mul a (F.mul b c):=by
 refine F.basis (Q:=fun a=>F.mul (F.mul a b) c=F.mul a (F.mul b c)) ?_ ?_ ?_ a ha
 · show mg F.m F.p F.m (mg F.m F.p F.m 0 b) c=mg F.m F.p F.m 0 _
   rw [mg_zl,mg_zl,mg_zl]
 · intro a d h1 h2
   show mg F.m F.p F.m (mg F.m F.p F.m _ b) c=mg F.m F.p F.m _ _
   rw [mg_xor,mg_xor,mg_xor]
   exact congr (congrArg _ h1) h2
 · intro i
   show mg F.m F.p F.m (mg F.m F.p F.m _ b) c=mg F.m F.p F.m _ _
   rw [mg_mx,mg_mx,mg_mx,mg_id F.m1 hb,mg_id F.m1 (F.mg_lt c F.m b hb)]
end Go.Vx
namespace Go.Vx
def ordG (m p:Nat):Nat→Nat→Nat→Bool
 | 0,x,S=>zi x 1 && zi S (2 ^ 2 ^ m - 2)
 | n+1,x,S=>!(S.testBit x) && ordG m p n (mulx m p x) (S ||| 1 <<< x)
theorem ordG_ok {m p:Nat}:∀ (n i S:Nat),ordG m p n (mx m p i 1) S=true→(∀ a,S.testBit a=true↔∃ j,j<i∧mx m p j 1=a)→
 (∀ j k,j<k→k<i→mx m p j 1≠mx m p k 1)→
 mx m p (i+n) 1=1∧(∀ a,(2 ^ 2 ^ m - 2).testBit a=true↔∃ j,j<i+n∧mx m p j 1=a)∧∀ j k,j<k→k<i+n→mx m p j 1≠mx m p k 1
 | 0,i,S,h,hs,hn=>by
   simp only [ordG,zq] at h
   have h2:=zp h.2
   rw [← h2]
   exact ⟨zp h.1,hs,hn⟩
 | n+1,i,S,h,hs,hn=>by
   simp only [ordG,zq,Bool.not_eq_true'] at h
   have:=ordG_ok n (i+1) (S ||| 1 <<< mx m p i 1) h.2 (fun a=>by
    rw [Nat.testBit_or,Nat.one_shiftLeft,vy,Bool.or_eq_true,hs,decide_eq_true_iff]
    constructor
    · rintro (⟨j,h1,h2⟩ | h1)
      · exact ⟨j,by omega,h2⟩
      · exact ⟨i,by omega,h1⟩
    · rintro ⟨j,h1,h2⟩
      by_cases hj:j=i
      · exact .inr (by rw [← hj];exact h2)
      · exact .inl ⟨j,by omega,h2⟩) (fun j k h1 h2=>by
    by_cases hk:k=i
    · subst hk
      intro e
      have:S.testBit (mx m p k 1)=true:=(hs _).2 ⟨j,h1,e⟩
      rw [this] at h
      cases h.1
    · exact hn j k h1 (by omega))
   rwa [show i+1+n=i+(n+1) by omega] at this
def polyN (m:Nat):Nat:=if m<3 then 0 else [0xB,0x13,0x25,0x43,0x89,0x11D,0x211,0x409,0x805,0x1053,0x201B,0x4443].getD (m - 3) 0
structure Gf extends Gp where
 m3:3≤m
 m14:m≤14
 po:polyN m=p
 ord:mx m p (2 ^ m - 1) 1=1
 inj:∀ j k,j<k→k<2 ^ m - 1→mx m p j 1≠mx m p k 1
 all:∀ a,0<a→a<2 ^ m→∃ j,j<2 ^ m - 1∧mx m p j 1=a
def Gf.of (m p:Nat) (m3:3≤m) (m14:m≤14) (po:polyN m=p) (top:p.testBit m=true) (lt:p<2 ^ (m+1)) (h:ordG m p (2 ^ m - 1) 1 0=true):Gf:=
 have H:=ordG_ok (2 ^ m - 1) 0 0 h (fun a=>by rw [xj];exact ⟨fun e=>(by cases e),fun ⟨j,h,_⟩=>absurd h (xi j)⟩) (fun j k _ h=>absurd h (xi k))
 { m:=m,p:=p,m1:=by omega,top:=top,lt:=lt,m3:=m3,m14:=m14,po:=po
   ord:=by have:=H.1;rwa [Nat.zero_add] at this
   inj:=fun j k h1 h2=>H.2.2 j k h1 (by omega)
   all:=fun a h1 h2=>by
    obtain ⟨j,h3,h4⟩:=(H.2.1 a).1 (by
     rw [show 2 ^ 2 ^ m - 2=2 ^ 2 ^ m - (1+1) from rfl,Nat.testBit_two_pow_sub_succ (ug (by have:=yg m;omega)),decide_eq_true h2]
     have:Nat.testBit 1 a=false:=by
      obtain ⟨k,rfl⟩:∃ k,a=k+1:=⟨a - 1,by omega⟩
      rw [wy];simp
     rw [this];rfl)
    exact ⟨j,by omega,h4⟩ }
variable (F:Gf)
structure El where
 v:Nat
 lt:v<2 ^ F.m
variable {F}
theorem El.ext:∀ {a b:El F},a.v=b.v→a=b
 | ⟨_,_⟩,⟨_,_⟩,rfl=>rfl
abbrev Gf.N (F:Gf):Nat:=2 ^ F.m - 1
theorem Gf.N3:7≤F.N:=by
 have:=zj (n:=2) (by omega) F.m3
 show 7≤2 ^ F.m - 1
 omega
theorem Gf.N14:F.N<16384:=by
 have:=zj (n:=2) (by omega) F.m14
 show 2 ^ F.m - 1<16384
 have:=yg F.m
 omega
def El.zr:El F:=⟨0,yg _⟩
def ex (F:Gf) (i:Nat):El F:=⟨mx F.m F.p i 1,F.mx_lt F.one_lt i⟩
def El.mul (a b:El F):El F:=⟨F.mul a.v b.v,F.mg_lt b.v F.m a.v a.lt⟩
def El.add (a b:El F):El F:=⟨a.v ^^^ b.v,xor_lt a.lt b.lt⟩
theorem ex_addE (i j:Nat):ex F (i+j)=(ex F i).mul (ex F j):=by
 refine El.ext ?_
 show mx F.m F.p (i+j) 1=F.mul (mx F.m F.p i 1) (mx F.m F.p j 1)
 rw [F.mul_mx _ 1 (F.mx_lt F.one_lt i) F.one_lt j,mx_add]
 congr 1
 exact (mg_one F.m1 _).symm
theorem ex_N:ex F F.N=ex F 0:=El.ext F.ord
theorem ex_all (a:El F) (h:a≠El.zr):∃ j,j<F.N∧ex F j=a:=by
 have:0<a.v:=rt fun e=>h (El.ext e)
 obtain ⟨j,h1,h2⟩:=F.all a.v this a.lt
 exact ⟨j,h1,El.ext h2⟩
noncomputable def El.iv (a:El F):El F:=open Classical in if h:∃ j,j<F.N∧ex F j=a then ex F (F.N - Classical.choose h) else El.zr
theorem El.mulC (a b:El F):a.mul b=b.mul a:=El.ext (F.mul_comm a.v b.v a.lt b.lt)
noncomputable instance:Fd (El F) where
 add:=El.add
 mul:=El.mul
 zr:=El.zr
 un:=ex F 0
 iv:=El.iv
 addA a b c:=El.ext (sa _ _ _)
 addC a b:=El.ext (rp _ _)
 add0 a:=El.ext (sy _)
 add2 a:=El.ext (qm _)
 mulA a b c:=El.ext (F.mul_assoc a.v b.v c.v a.lt b.lt)
 mulC:=El.mulC
 mul1 a:=El.ext (mg_one F.m1 _)
 dist a b c:=El.ext (mg_xorr _ _ _ _)
 ne h:=by
  have:(1:Nat)=0:=congrArg El.v h
  omega
 inv a h:=by
  have he:∃ j,j<F.N∧ex F j=a:=ex_all a h
  show a.mul (El.iv a)=ex F 0
  unfold El.iv
  rw [dif_pos he]
  have h2:=Classical.choose_spec he
  have e:a.mul (ex F (F.N - Classical.choose he))=(ex F (Classical.choose he)).mul (ex F (F.N - Classical.choose he)):=congrArg (fun x=>El.mul x _) h2.2.symm
  rw [e,← ex_addE,show Classical.choose he+(F.N - Classical.choose he)=F.N by omega,ex_N]
theorem add_v (a b:El F):(a+b).v=a.v ^^^ b.v:=rfl
theorem mul_v (a b:El F):(a*b).v=F.mul a.v b.v:=rfl
theorem ex_v (i:Nat):(ex F i).v=mx F.m F.p i 1:=rfl
theorem ex_add (i j:Nat):ex F (i+j)=ex F i*ex F j:=ex_addE i j
theorem ex_zero:ex F 0=Fd.un:=rfl
theorem ex_NN:ex F F.N=Fd.un:=ex_N
theorem ex_mulN (i:Nat):∀ k,ex F (i+F.N*k)=ex F i
 | 0=>rfl
 | k+1=>by rw [Nat.mul_succ,← Nat.add_assoc,ex_add,ex_NN,Fd.mul1,ex_mulN i k]
theorem ex_mod (i:Nat):ex F (i % F.N)=ex F i:=by
 have:=ex_mulN (F:=F) (i % F.N) (i / F.N)
 rw [Nat.mod_add_div] at this
 exact this.symm
theorem ex_ne (i:Nat):ex F i≠Fd.zr:=by
 rw [← ex_mod]
 have h:=yv i (show 0<F.N by have:=Gf.N3 (F:=F);omega)
 intro e
 have h2:ex F (i % F.N)*ex F (F.N - i % F.N)=Fd.un:=by rw [← ex_add,show i % F.N+(F.N - i % F.N)=F.N by omega,ex_NN]
 rw [e,Fd.zmul] at h2
 exact Fd.ne h2.symm
theorem ex_inj {i j:Nat} (hi:i<F.N) (hj:j<F.N) (h:ex F i=ex F j):i=j:=by
 rcases Nat.lt_trichotomy i j with h1 | h1 | h1
 · exact absurd (congrArg El.v h) (F.inj i j h1 hj)
 · exact h1
 · exact absurd (congrArg El.v h).symm (F.inj j i h1 hi)
theorem ex_pw (i:Nat):∀ k,Fd.pw (ex F i) k=ex F (i*k)
 | 0=>rfl
 | k+1=>by show Fd.pw (ex F i) k*ex F i=_;rw [ex_pw i k,← ex_add];rfl
def lg (m p n x:Nat):Nat:=((xq n).find? fun j=>mx m p j 1 == x).getD 0
theorem lg_ex {i:Nat} (hi:i<F.N):∀ {n:Nat},n≤F.N→i<n→lg F.m F.p n (mx F.m F.p i 1)=i:=by
 intro n hn hin
 unfold lg
 cases h:(xq n).find? (fun j=>mx F.m F.p j 1 == mx F.m F.p i 1) with
 | none=>
   have:=List.find?_eq_none.1 h i (List.mem_range.2 hin)
   simp at this
 | some j=>
   have h1:=List.find?_some h
   have h2:=List.mem_range.1 (pn h)
   exact ex_inj (F:=F) (zk h2 hn) hi (El.ext (beq_iff_eq.1 h1))
theorem lg_lt {x:Nat} (h0:0<x) (hx:x<2 ^ F.m):lg F.m F.p F.N x<F.N∧mx F.m F.p (lg F.m F.p F.N x) 1=x:=by
 obtain ⟨j,h1,h2⟩:=F.all x h0 hx
 rw [← h2,lg_ex h1 (zw _) h1]
 exact ⟨h1,rfl⟩
end Go.Vx
namespace Go.Vx
open Go.Vx.Fd
section
variable {K:Type} [Fd K]
def bk (b:Bool):K:=if b then un else zr
theorem bk_sq (b:Bool):(bk b:K)*bk b=bk b:=by cases b;exact mul0 _;exact mul1 _
theorem bk_xor (a b:Bool):(bk (a ^^ b):K)=bk a+bk b:=by
 cases a <;> cases b
 · exact (add0 _).symm
 · exact (zadd _).symm
 · exact (add0 _).symm
 · exact (add2 _).symm
theorem bk_and (a b:Bool):(bk (a && b):K)=bk a*bk b:=by
 cases a
 · exact (zmul _).symm
 · exact (umul _).symm
def vl (b:Nat→Bool) (n:Nat) (x:K):K:=sm n fun k=>bk (b k)*pw x k
variable {b c:Nat→Bool} {n:Nat} {x:K}
theorem vl_congr (h:∀ k,k<n→b k=c k):vl b n x=vl c n x:=sm_congr fun k hk=>by rw [h k hk]
theorem vl_xor:vl (fun k=>b k ^^ c k) n x=vl b n x+vl c n x:=by
 unfold vl
 rw [← sm_add]
 exact sm_congr fun k _=>by rw [bk_xor,distr]
theorem vl_zero (h:∀ k,k<n→b k=false):vl b n x=zr:=sm_zero fun k hk=>by rw [h k hk];exact zmul _
theorem vl_sq:vl b n (x*x)=vl b n x*vl b n x:=by
 unfold vl
 rw [sm_sq]
 refine sm_congr fun k _ => ?_
 rw [pw_sq,mulA (bk (b k)) (pw x k) (bk (b k)*pw x k),mulL (pw x k),← mulA (bk (b k)) (bk (b k)),bk_sq]
theorem vl_app (d:Nat):vl b (d+n) x=vl b d x+pw x d*vl (fun k=>b (d+k)) n x:=by
 unfold vl
 rw [sm_split,← sm_mul]
 congr 1
 exact sm_congr fun k _=>by rw [pw_add,mulL]
theorem vl_one {p:Nat} (hp:p<n):vl (fun k=>decide (k=p)) n x=pw x p:=by
 unfold vl
 obtain ⟨r,rfl⟩:∃ r,n=p+(1+r):=⟨n - p - 1,by omega⟩
 rw [sm_split,sm_zero fun i hi=>by show bk (decide (i=p))*_=_;rw [decide_eq_false (by omega)];exact zmul _,zadd,sm_split,sm_zero (n:=r) fun i hi=>by show bk (decide (p+(1+i)=p))*_=_;rw [decide_eq_false (by omega)];exact zmul _,add0]
 show zr+bk (decide (p+0=p))*pw x (p+0)=_
 rw [zadd,Nat.add_zero,decide_eq_true rfl]
 exact umul _
def flips (P:List Nat) (b:Nat→Bool) (k:Nat):Bool:=b k ^^ decide (k∈P)
theorem vl_flips {P:List Nat} (hn:P.Nodup) (hP:∀ p∈P,p<n):vl (flips P b) n x=vl b n x+su P fun p=>pw x p:=by
 show vl (fun k=>b k ^^ decide (k∈P)) n x=_
 rw [vl_xor]
 congr 1
 induction P with
 | nil=>exact vl_zero fun k _=>by simp
 | cons p P ih=>
   obtain ⟨h1,h2⟩:=List.nodup_cons.1 hn
   show _=pw x p+su P _
   rw [← ih h2 fun q hq=>hP q (yw _ hq),← vl_one (hP p (xp ..)),← vl_xor]
   refine vl_congr fun k _ => ?_
   by_cases h:k=p
   · subst h;simp [h1]
   · simp [h]
theorem bits_zero {R:List K} (hR:R.Nodup) (hn:n≤R.length) (h:∀ x∈R,vl b n x=zr):∀ k,k<n→b k=false:=by
 have h1:∀ c∈(xq n).map (fun k=>(bk (b k):K)),c=zr:=by
  refine roots hR (by simp;exact hn) fun x hx => ?_
  rw [ev_sm,← h x hx]
  unfold vl
  rw [zn,um]
  refine sm_congr fun k hk => ?_
  rw [zy,zf,xh hk]
  rfl
 intro k hk
 have h2:=h1 (bk (b k)) (List.mem_map.2 ⟨k,List.mem_range.2 hk,rfl⟩)
 cases hb:b k with
 | false=>rfl
 | true=>rw [hb] at h2;exact absurd h2 ne
def shf (D:Nat) (g r:Nat→Bool) (bit:Bool) (k:Nat):Bool:=(if k=0 then false else r (k - 1)) ^^ ((bit ^^ r (D - 1)) && g k)
theorem vl_shf {D:Nat} {g r:Nat→Bool} {bit:Bool} (hD:1≤D) (hg:vl g D x=pw x D):vl (shf D g r bit) D x=x*vl r D x+bk bit*pw x D:=by
 have e1:vl (shf D g r bit) D x=vl (fun k=>if k=0 then false else r (k - 1)) D x+bk (bit ^^ r (D - 1))*pw x D:=by
  rw [show vl (shf D g r bit) D x=vl (fun k=>(if k=0 then false else r (k - 1)) ^^ ((bit ^^ r (D - 1)) && g k)) D x from rfl,vl_xor]
  congr 1
  rw [← hg]
  unfold vl
  rw [← sm_mul]
  exact sm_congr fun k _=>by rw [bk_and,mulA]
 obtain ⟨d,rfl⟩:∃ d,D=d+1:=⟨D - 1,by omega⟩
 have e2:vl (fun k=>if k=0 then false else r (k - 1)) (d+1) x=x*vl r d x:=by
  unfold vl
  rw [sm_head,← sm_mul]
  rw [show bk (if 0=0 then false else r (0 - 1))*pw x 0=(zr:K) from zmul _,zadd]
  refine sm_congr fun k _ => ?_
  show bk (if k+1=0 then false else r (k+1 - 1))*(pw x k*x)=_
  rw [if_neg (by omega),show k+1 - 1=k by omega,mulL x,mulC x]
 have e3:vl r (d+1) x=vl r d x+bk (r d)*pw x d:=rfl
 rw [e1,e2,e3,show d+1 - 1=d by omega,bk_xor,distr,dist]
 have e4:x*(bk (r d)*pw x d)=bk (r d)*pw x (d+1):=by
  show _=bk (r d)*(pw x d*x)
  rw [mulL,mulC x]
 rw [e4,addA,addC (bk bit*_)]
def reg (D:Nat) (g b:Nat→Bool) (n:Nat):Nat→Nat→Bool
 | 0=>fun _=>false
 | i+1=>shf D g (reg D g b n i) (b (n - 1 - i))
theorem vl_reg {D:Nat} {g b:Nat→Bool} (hD:1≤D) (hg:vl g D x=pw x D):∀ i,i≤n→vl (reg D g b n i) D x=pw x D*vl (fun k=>b (n - i+k)) i x
 | 0,_=>by
   rw [show vl (fun k=>b (n - 0+k)) 0 x=zr from rfl,mul0]
   exact vl_zero fun _ _=>rfl
 | i+1,h=>by
   show vl (shf D g (reg D g b n i) (b (n - 1 - i))) D x=_
   rw [vl_shf hD hg,vl_reg hD hg i (by omega)]
   rw [show i+1=1+i by omega,vl_app 1]
   have e:vl (fun k=>b (n - (1+i)+k)) 1 x=bk (b (n - 1 - i)):=by
    show zr+bk (b (n - (1+i)+0))*un=_
    rw [zadd,mul1,show n - (1+i)+0=n - 1 - i by omega]
   rw [e,dist,addC,mulC (bk _),mulL x,pw_one]
   congr 3
   exact vl_congr fun k _=>by rw [show n - (1+i)+(1+k)=n - i+k by omega]
end
section
variable {F:Gf}
structure Cdx (F:Gf) where
 t:Nat
 D:Nat
 g:Nat→Bool
 U:List Nat
 D1:1≤D
 nod:U.Nodup
 len:U.length=D
 lt:∀ u∈U,u<F.N
 from':∀ u∈U,∃ i j,1≤i∧i≤2*t∧ex F u=ex F (i*2 ^ j)
 zero:∀ u∈U,vl g D (ex F u)=pw (ex F u) D
 has:∀ i,1≤i→i≤2*t→∃ u∈U,ex F u=ex F i
variable {Q:Cdx F} {b:Nat→Bool} {n:Nat}
def Wd (Q:Cdx F) (b:Nat→Bool) (n:Nat):Prop:=∀ i,1≤i→i≤2*Q.t→vl b n (ex F i)=zr
theorem pow_zero' {i:Nat} (h:vl b n (ex F i)=zr):∀ j,vl b n (ex F (i*2 ^ j))=zr
 | 0=>by rw [se,Nat.mul_one];exact h
 | j+1=>by
   rw [wg,← Nat.mul_assoc,Nat.mul_two,ex_add,vl_sq,pow_zero' h j,mul0]
theorem Wd.all (h:Wd Q b n):∀ x∈Q.U.map (ex F),vl b n x=zr:=fun x hx=>by
 obtain ⟨u,hu,rfl⟩:=List.mem_map.1 hx
 obtain ⟨i,j,h1,h2,h3⟩:=Q.from' u hu
 rw [h3]
 exact pow_zero' (h i h1 h2) j
theorem nodup_ex {P:List Nat} (hn:P.Nodup) (hP:∀ p∈P,p<F.N):(P.map (ex F)).Nodup:=by
 rw [List.Nodup,pp]
 exact List.Pairwise.imp_of_mem (fun ha hb hab e=>hab (ex_inj (hP _ ha) (hP _ hb) e)) hn
theorem Wd.made (Q:Cdx F) (d:Nat→Bool) (n:Nat) {r:Nat→Bool} (hr:∀ k,k<Q.D→r k=reg Q.D Q.g d n n k):Wd Q (fun k=>if k<Q.D then r k else d (k - Q.D)) (Q.D+n):=fun i h1 h2=>by
 obtain ⟨u,hu,he⟩:=Q.has i h1 h2
 rw [← he,vl_app,vl_congr (c:=reg Q.D Q.g d n n) fun k hk=>by rw [if_pos hk];exact hr k hk]
 rw [vl_reg Q.D1 (Q.zero u hu) n (zw n)]
 have e:vl (fun k=>if Q.D+k<Q.D then r (Q.D+k) else d (Q.D+k - Q.D)) n (ex F u)=vl (fun k=>d (n - n+k)) n (ex F u):=
  vl_congr fun k _=>by rw [if_neg (by omega),show Q.D+k - Q.D=k by omega,show n - n+k=k by omega]
 rw [e,add2]
theorem Wd.parity {d r:Nat→Bool} (h:Wd Q (fun k=>if k<Q.D then r k else d (k - Q.D)) (Q.D+n)):∀ k,k<Q.D→r k=reg Q.D Q.g d n n k:=by
 have h2:=Wd.made Q d n (r:=reg Q.D Q.g d n n) fun _ _=>rfl
 have h3:∀ k,k<Q.D→(r k ^^ reg Q.D Q.g d n n k)=false:=by
  refine bits_zero (R:=Q.U.map (ex F)) (nodup_ex Q.nod Q.lt) (by rw [zn,Q.len];exact zw _) fun x hx => ?_
  have e1:=h.all x hx
  have e2:=h2.all x hx
  rw [vl_app] at e1 e2
  rw [vl_xor]
  have e3:=eq_of_add e1
  have e4:=eq_of_add e2
  rw [vl_congr (c:=r) fun k hk=>by rw [if_pos hk]] at e3
  rw [vl_congr (c:=reg Q.D Q.g d n n) fun k hk=>by rw [if_pos hk]] at e4
  rw [e3,e4]
  refine add_of_eq (congrArg _ (vl_congr fun k _ => ?_))
  rw [if_neg (by omega),if_neg (by omega)]
 intro k hk
 have:=h3 k hk
 cases h4:r k <;> cases h5:reg Q.D Q.g d n n k <;> simp [h4,h5] at this ⊢
variable {C B:Nat→El F} {L k0 b0:Nat} {e0:El F} {P:List Nat}
def isRoot (C:Nat→El F) (L:Nat) (p:Nat):Prop:=sm (L+1) (fun i=>C i*pw (iv (ex F p)) i)=zr
theorem root_iff {p:Nat}:isRoot C L p↔rv C L (ex F p)=zr:=by
 unfold isRoot
 rw [rv_ev (ex_ne p)]
 constructor
 · intro h;rw [h,mul0]
 · intro h;exact eq_zero h (pw_ne (ex_ne p) L)
theorem roots_few (h0:C 0=un) {R:List Nat} (hn:R.Nodup) (hR:∀ p∈R,p<F.N) {M:Nat} (hM:∀ i,M<i→C i=zr) (hr:∀ p∈R,sm (M+1) (fun i=>C i*pw (iv (ex F p)) i)=zr):R.length≤M:=by
 refine vc fun hlt => ?_
 have hnod:(R.map fun p=>iv (ex F p)).Nodup:=by
  rw [List.Nodup,pp]
  refine List.Pairwise.imp_of_mem (fun {a b} ha hb hab e=>hab (ex_inj (hR _ ha) (hR _ hb) ?_)) hn
  have e1:=inv (ex F a) (ex_ne a)
  rw [e,mulC] at e1
  exact mul_cancel (iv_ne (ex_ne b)) (e1.trans (by rw [mulC];exact (inv _ (ex_ne b)).symm))
 have h1:=roots hnod (l:=(xq (M+1)).map C) (by simp;omega) (fun x hx=>by
  obtain ⟨p,hp,rfl⟩:=List.mem_map.1 hx
  rw [ev_sm,← hr p hp,zn,um]
  refine sm_congr fun k hk => ?_
  rw [zy,zf,xh hk]
  rfl) (C 0) (List.mem_map.2 ⟨0,List.mem_range.2 (Nat.succ_pos M),rfl⟩)
 rw [h0] at h1
 exact ne h1
theorem mends {S:Nat→El F} (hB:BM (fun k=>S (k+1)) (2*Q.t) C B L k0 b0 e0) (hn:P.Nodup) (hP:∀ p∈P,p<F.N) (hS:∀ i,1≤i→i≤2*Q.t→S i=su P fun p=>pw (ex F i) p) (ht:P.length≤Q.t):
 L=P.length∧C L≠zr∧∀ p,p<F.N→(isRoot C L p↔p∈P):=by
 have hrep:Rep (fun k=>S (k+1)) (2*Q.t) (P.map (ex F)) (fun x=>x):=fun k hk=>by
  show S (k+1)=_
  rw [hS (k+1) (by omega) (by omega),su_map]
  refine su_congr fun p _ => ?_
  rw [ex_pw,ex_pw,← ex_add,Nat.succ_mul,xn k p,up]
 have hnod:=nodup_ex hn hP
 obtain ⟨h1,h2⟩:=rv_roots hB hrep hnod (fun x hx=>by obtain ⟨p,_,rfl⟩:=List.mem_map.1 hx;exact ex_ne p) (by rw [zn];omega)
 rw [zn] at h1
 have h3:∀ p∈P,isRoot C L p:=fun p hp=>root_iff.2 (h2 _ (List.mem_map.2 ⟨p,hp,rfl⟩))
 have h4:=roots_few hB.c0 hn hP hB.cd h3
 have hL:L=P.length:=by omega
 refine ⟨hL,fun hz => ?_,fun p hp=>⟨fun h => ?_,h3 p⟩⟩
 · by_cases hL0:L=0
   · rw [hL0,hB.c0] at hz;exact ne hz
   · obtain ⟨M,hM⟩:∃ M,L=M+1:=⟨L - 1,by omega⟩
     have:=roots_few (M:=M) hB.c0 hn hP (fun i hi=>by
      by_cases h:i=L
      · rw [h];exact hz
      · exact hB.cd i (by omega)) fun p hp=>by
        have:=h3 p hp
        unfold isRoot at this
        rw [hM] at this hz
        change sm (M+1) _+C (M+1)*_=zr at this
        rwa [hz,zmul,add0] at this
     omega
 · refine Classical.byContradiction fun hno => ?_
   have:=roots_few hB.c0 (R:=p :: P) (List.nodup_cons.2 ⟨hno,hn⟩) (fun q hq=>by
    rcases List.mem_cons.1 hq with rfl | hq
    · exact hp
    · exact hP q hq) hB.cd fun q hq=>by
      rcases List.mem_cons.1 hq with rfl | hq
      · exact h
      · exact h3 q hq
   have e:(p :: P).length=P.length+1:=rfl
   omega
theorem right_of (hB:BM (fun k=>vl b n (ex F (k+1))) (2*Q.t) C B L k0 b0 e0) (hL:L≤Q.t) (hn:P.Nodup) (hP:∀ p∈P,p<F.N) (hPn:∀ p∈P,p<n) (hl:P.length=L) (hr:∀ p∈P,isRoot C L p):Wd Q (flips P b) n:=by
 have h1:=plain (S:=fun i=>vl b n (ex F i)) (t:=Q.t) hB (fun i _ _=>by rw [Nat.two_mul,ex_add,vl_sq]) hL (nodup_ex hn hP) (by rw [zn];exact hl)
  (fun x hx=>by obtain ⟨p,_,rfl⟩:=List.mem_map.1 hx;exact ex_ne p) fun x hx=>by obtain ⟨p,hp,rfl⟩:=List.mem_map.1 hx;exact root_iff.1 (hr p hp)
 intro i h2 h3
 rw [vl_flips hn hPn,h1 i h2 h3,su_map]
 refine add_of_eq (su_congr fun p _ => ?_)
 rw [ex_pw,ex_pw,xn]
end
end Go.Vx
namespace Go.Vx
open Go.Vx.Fd
instance {F:Gf}:DecidableEq (El F):=fun a b=>if h:a.v=b.v then .isTrue (El.ext h) else .isFalse fun e=>h (by rw [e])
noncomputable section
variable {F:Gf}
def el (F:Gf) (a:Int):El F:=⟨(a % (2 ^ F.m:Nat)).toNat,by
 have h1:=uf a (show ((2 ^ F.m:Nat):Int)≠0 from by have:=yg F.m;omega)
 have h2:=sn a (show (0:Int)<((2 ^ F.m:Nat):Int) from by have:=yg F.m;omega)
 omega⟩
def vi (x:El F):Int:=(x.v:Int)
theorem el_vi (x:El F):el F (vi x)=x:=by
 refine El.ext ?_
 show ((x.v:Int) % ((2 ^ F.m:Nat):Int)).toNat=x.v
 have:=x.lt
 rw [rh (by omega) (by omega)]
 exact zu _
theorem vi_inj {x y:El F} (h:vi x=vi y):x=y:=El.ext (Int.ofNat.inj h)
theorem vi_zero {x:El F}:vi x=0↔x=zr:=⟨fun h=>vi_inj (y:=zr) h,fun h=>by rw [h];rfl⟩
theorem vi_lt (x:El F):0≤vi x∧vi x<((2 ^ F.m:Nat):Int):=by
 have:=x.lt
 unfold vi
 omega
abbrev els (F:Gf) (l:List Int):List (El F):=l.map (el F)
abbrev vis (l:List (El F)):List Int:=l.map vi
theorem els_vis (l:List (El F)):els F (vis l)=l:=by
 show (l.map vi).map (el F)=l
 rw [List.map_map]
 exact (xm fun x _=>el_vi x).trans (List.map_id l)
def cf (l:List (El F)) (i:Nat):El F:=l.getD i zr
theorem cf_of {l:List (El F)} {i:Nat} (h:l.length≤i):cf l i=zr:=by
 unfold cf
 rw [zy,yk h];rfl
theorem vis_getD (l:List (El F)) (i:Nat):(vis l).getD i 0=vi (cf l i):=by
 unfold cf
 simp only [zy,zf]
 cases l[i]? <;> rfl
def top (l:List (El F)):Nat:=(l.reverse.dropWhile fun x=>decide (x=zr)).length
theorem top_snoc (l:List (El F)) (a:El F):top (l ++ [a])=if a=zr then top l else l.length+1:=by
 unfold top
 rw [List.reverse_append]
 show (List.dropWhile _ (a :: l.reverse)).length=_
 rw [List.dropWhile_cons]
 by_cases h:a=zr
 · simp [h]
 · simp [h]
theorem snoc_ind {α:Type} {P:List α→Prop} (h0:P []) (h1:∀ l a,P l→P (l ++ [a])) (l:List α):P l:=by
 rw [← List.reverse_reverse l]
 induction l.reverse with
 | nil=>exact h0
 | cons a r ih=>rw [List.reverse_cons];exact h1 _ _ ih
theorem top_le (l:List (El F)):top l≤l.length:=by
 refine snoc_ind (P:=fun l=>top l≤l.length) (zw 0) (fun l a ih => ?_) l
 rw [top_snoc,List.length_append]
 split
 · exact Nat.le_succ_of_le ih
 · exact zw _
theorem top_zero (l:List (El F)) {i:Nat} (h:top l≤i):cf l i=zr:=by
 revert i
 refine snoc_ind (P:=fun l=>∀ {i:Nat},top l≤i→cf l i=zr) (fun {i} _=>cf_of (zg i)) (fun l a ih => ?_) l
 intro i h
 rw [top_snoc] at h
 by_cases hi:i<l.length
 · have e:cf (l ++ [a]) i=cf l i:=by unfold cf;simp only [zy,yx hi]
   rw [e]
   by_cases ha:a=zr
   · rw [if_pos ha] at h;exact ih h
   · rw [if_neg ha] at h;omega
 · by_cases hj:i=l.length
   · by_cases ha:a=zr
     · unfold cf;subst hj;simp [ha]
     · rw [if_neg ha] at h;omega
   · exact cf_of (by simp;omega)
theorem top_ne (l:List (El F)) (h:0<top l):cf l (top l - 1)≠zr:=by
 revert h
 refine snoc_ind (P:=fun l=>0<top l→cf l (top l - 1)≠zr) (fun h=>absurd h (Nat.lt_irrefl 0)) (fun l a ih => ?_) l
 intro h
 rw [top_snoc] at h ⊢
 by_cases ha:a=zr
 · rw [if_pos ha] at h ⊢
   have h2:=top_le l
   have e:cf (l ++ [a]) (top l - 1)=cf l (top l - 1):=by unfold cf;simp only [zy,yx (show top l - 1<l.length by omega)]
   rw [e];exact ih h
 · rw [if_neg ha]
   unfold cf
   simp [ha]
def trim (l:List (El F)):List (El F):=l.take (top l)
theorem trim_len (l:List (El F)):(trim l).length=top l:=by
 unfold trim
 rw [List.length_take]
 exact xa (top_le l)
theorem trim_cf (l:List (El F)) (i:Nat):cf (trim l) i=cf l i:=by
 by_cases h:i<top l
 · unfold cf trim
   simp only [zy,List.getElem?_take_of_lt h]
 · rw [cf_of (by rw [trim_len];omega),top_zero l (by omega)]
def mk (n:Nat) (f:Nat→El F):List (El F):=(xq n).map f
theorem mk_len (n:Nat) (f:Nat→El F):(mk n f).length=n:=by simp [mk]
theorem mk_cf {n:Nat} {f:Nat→El F} (i:Nat):cf (mk n f) i=if i<n then f i else zr:=by
 unfold cf mk
 simp only [zy,zf]
 by_cases h:i<n
 · rw [xh h,if_pos h];rfl
 · rw [if_neg h,yk (by simp;omega)];rfl
theorem cf_ext {l l':List (El F)} (hl:l.length=l'.length) (h:∀ i,i<l.length→cf l i=cf l' i):l=l':=by
 refine wv hl fun i h1 h2 => ?_
 have:=h i h1
 unfold cf at this
 simpa only [zy,zt h1,zt h2,ym] using this
theorem top_cf {l l':List (El F)} (h:∀ i,cf l i=cf l' i):top l=top l':=by
 have key:∀ l l':List (El F),(∀ i,cf l i=cf l' i)→top l≤top l':=fun l l' h=>by
  refine vc fun hlt => ?_
  have h1:=top_ne l (by omega)
  rw [h,top_zero l' (by omega)] at h1
  exact h1 rfl
 exact pd (key _ _ h) (key _ _ fun i=>(h i).symm)
theorem trim_ext {l l':List (El F)} (h:∀ i,cf l i=cf l' i):trim l=trim l':=
 cf_ext (by rw [trim_len,trim_len,top_cf h]) fun i _=>by rw [trim_cf,trim_cf,h]
def addP (p q:List (El F)):List (El F):=mk (max p.length q.length) fun i=>cf p i+cf q i
theorem addP_cf (p q:List (El F)) (i:Nat):cf (addP p q) i=cf p i+cf q i:=by
 unfold addP
 rw [mk_cf]
 split
 · rfl
 · rw [cf_of (by omega),cf_of (by omega),add0]
def mulS (p:List (El F)) (a:El F):List (El F):=p.map (· * a)
theorem mulS_cf (p:List (El F)) (a:El F) (i:Nat):cf (mulS p a) i=cf p i*a:=by
 unfold mulS cf
 simp only [zy,zf]
 cases p[i]? with
 | none=>exact (zmul a).symm
 | some x=>rfl
def shP (k:Nat) (p:List (El F)):List (El F):=List.replicate k zr ++ p
theorem shP_cf (k:Nat) (p:List (El F)) (i:Nat):cf (shP k p) i=if i<k then zr else cf p (i - k):=by
 unfold shP cf
 simp only [zy]
 by_cases h:i<k
 · rw [yx (by simpa using h),if_pos h,List.getElem?_replicate_of_lt h];rfl
 · rw [List.getElem?_append_right (by simp;omega),if_neg h,List.length_replicate]
structure Bm (F:Gf) where
 C:List (El F)
 B:List (El F)
 L:Nat
 k:Nat
 e:El F
def bm0:Bm F:=⟨[un],[un],0,1,un⟩
def bmD (s:List (El F)) (n:Nat) (b:Bm F):El F:=phi (cf b.C) b.L (cf s) n
def bmC (b:Bm F) (d:El F):List (El F):=trim (addP b.C (trim (mulS (shP b.k b.B) (d*iv b.e))))
def bmS (s:List (El F)) (n:Nat) (b:Bm F):Bm F:=
 if bmD s n b=zr then { b with k:=b.k+1 }
 else if n<2*b.L then { b with C:=bmC b (bmD s n b),k:=b.k+1 }
 else ⟨bmC b (bmD s n b),b.C,n+1 - b.L,1,bmD s n b⟩
def bmN (s:List (El F)):Nat→Bm F
 | 0=>bm0
 | n+1=>bmS s n (bmN s n)
theorem bmC_cf (b:Bm F) (d:El F):cf (bmC b d)=upd (cf b.C) (cf b.B) b.k (d*iv b.e):=by
 funext i
 unfold bmC upd
 rw [trim_cf,addP_cf,trim_cf,mulS_cf,shP_cf]
theorem one_cf (i:Nat) (h:0<i):cf ([un]:List (El F)) i=zr:=cf_of (by simp;omega)
theorem bmN_ok (s:List (El F)):∀ n,∃ b0,BM (cf s) n (cf (bmN s n).C) (cf (bmN s n).B) (bmN s n).L (bmN s n).k b0 (bmN s n).e
 | 0=>⟨0,bm_start rfl one_cf one_cf⟩
 | n+1=>by
   obtain ⟨b0,h⟩:=bmN_ok s n
   show ∃ b1,BM (cf s) (n+1) (cf (bmS s n (bmN s n)).C) (cf (bmS s n (bmN s n)).B) (bmS s n (bmN s n)).L (bmS s n (bmN s n)).k b1 (bmS s n (bmN s n)).e
   generalize bmN s n=b at h
   unfold bmS
   by_cases hd:bmD s n b=zr
   · rw [if_pos hd]
     exact ⟨b0,bm_fit h hd⟩
   · rw [if_neg hd]
     by_cases hL:n<2*b.L
     · rw [if_pos hL]
       refine ⟨b0,?_⟩
       show BM (cf s) (n+1) (cf (bmC b (bmD s n b))) _ _ _ _ _
       rw [bmC_cf]
       exact bm_stay h hd hL rfl
     · rw [if_neg hL]
       refine ⟨b.L,?_⟩
       show BM (cf s) (n+1) (cf (bmC b (bmD s n b))) _ _ _ _ _
       rw [bmC_cf]
       exact bm_grow h hd (by omega) rfl
theorem bmN_le (s:List (El F)) (n:Nat):(bmN s n).L≤n∧1≤(bmN s n).k∧(bmN s n).k≤n+1:=by
 obtain ⟨b0,h⟩:=bmN_ok s n
 have:=h.rel
 have:=h.k1
 omega
theorem bmN_e (s:List (El F)) (n:Nat):(bmN s n).e≠zr:=(bmN_ok s n).choose_spec.e0
theorem bmN_len (s:List (El F)):∀ n,(bmN s n).C.length≤n+1∧(bmN s n).B.length≤n+1∧(bmN s n).k+(bmN s n).B.length≤n+2
 | 0=>⟨zw _,zw _,zw _⟩
 | n+1=>by
   obtain ⟨h1,h2,h3⟩:=bmN_len s n
   obtain ⟨h4,h5,h6⟩:=bmN_le s n
   show (bmS s n (bmN s n)).C.length≤_∧(bmS s n (bmN s n)).B.length≤_∧(bmS s n (bmN s n)).k+(bmS s n (bmN s n)).B.length≤_
   generalize bmN s n=b at h1 h2 h3 h4 h5 h6
   have hC:(bmC b (bmD s n b)).length≤n+2:=by
    unfold bmC
    rw [trim_len]
    refine xl (top_le _) ?_
    unfold addP
    rw [mk_len,trim_len]
    have:=top_le (mulS (shP b.k b.B) (bmD s n b*iv b.e))
    rw [show (mulS (shP b.k b.B) (bmD s n b*iv b.e)).length=b.k+b.B.length by simp [mulS,shP]] at this
    omega
   unfold bmS
   split
   · exact ⟨by show b.C.length≤_;omega,by show b.B.length≤_;omega,by show b.k+1+b.B.length≤_;omega⟩
   · split
     · exact ⟨by show (bmC b _).length≤_;omega,by show b.B.length≤_;omega,by show b.k+1+b.B.length≤_;omega⟩
     · exact ⟨by show (bmC b _).length≤_;omega,by show b.C.length≤_;omega,by show 1+b.C.length≤_;omega⟩
end
end Go.Vx
namespace Go.Vx
theorem i2 (n:Nat):(2:Int) ^ n=((2 ^ n:Nat):Int):=by simp
theorem wrap_mod (k:IntKind) (n:Int) {j:Nat} (h:j≤k.bits):k.wrap n % ((2 ^ j:Nat):Int)=n % ((2 ^ j:Nat):Int):=by
 have hd:((2 ^ j:Nat):Int) ∣ ((2 ^ k.bits:Nat):Int):=Int.natCast_dvd_natCast.2 (Nat.pow_dvd_pow 2 h)
 unfold IntKind.wrap
 simp only [i2]
 split
 · rw [Int.sub_emod,Int.emod_eq_zero_of_dvd hd,Int.sub_zero,tz _ (Int.dvd_refl _),tz _ hd]
 · exact tz _ hd
theorem wrap_nat {k:IntKind} {n:Nat} (h:n<2 ^ (if k.signed then k.bits - 1 else k.bits)):k.wrap (n:Int)=(n:Int):=by
 have h2:n<2 ^ k.bits:=zk h (zj (by omega) (by split <;> omega))
 unfold IntKind.wrap
 simp only [i2]
 rw [rh (by omega) (by omega)]
 cases hs:k.signed with
 | false=>simp
 | true=>
   rw [hs,if_pos rfl] at h
   rw [if_neg]
   simp only [zd,decide_eq_true_iff]
   omega
def lw (n:Nat) (a:Int):Nat:=(a % ((2 ^ n:Nat):Int)).toNat
theorem lw_lt (n:Nat) (a:Int):lw n a<2 ^ n:=by
 have h0:=yg n
 have h1:=uf a (show ((2 ^ n:Nat):Int)≠0 by omega)
 have h2:=sn a (show (0:Int)<((2 ^ n:Nat):Int) by omega)
 unfold lw
 omega
theorem lw_nat {n a:Nat} (h:a<2 ^ n):lw n (a:Int)=a:=by
 unfold lw
 rw [rh (by omega) (by omega)]
 exact zu a
theorem lw_mod (n:Nat) (a:Nat):lw n (a:Int)=a % 2 ^ n:=by
 unfold lw
 rw [← qv,zu]
theorem lw_lw {n k:Nat} (h:n≤k) (a:Int):lw k a % 2 ^ n=lw n a:=by
 have h0:=yg k
 have h1:=uf a (show ((2 ^ k:Nat):Int)≠0 by omega)
 have hd:((2 ^ n:Nat):Int) ∣ ((2 ^ k:Nat):Int):=Int.natCast_dvd_natCast.2 (Nat.pow_dvd_pow 2 h)
 have e:(((lw k a % 2 ^ n:Nat)):Int)=a % ((2 ^ n:Nat):Int):=by
  rw [qv]
  unfold lw
  rw [Int.toNat_of_nonneg h1,tz _ hd]
 unfold lw at e ⊢
 rw [← e]
 exact (zu _).symm
theorem ofInt_lw (w:Nat) (a:Int):(BitVec.ofInt w a).toNat=lw w a:=by
 rw [BitVec.toNat_ofInt];rfl
theorem ibit_xor (k:IntKind) (a b:Int):ibit .xor k a b=k.wrap ((lw k.bits a ^^^ lw k.bits b:Nat):Int):=by
 unfold ibit
 simp only [BitVec.toNat_xor,ofInt_lw]
theorem ibit_and (k:IntKind) (a b:Int):ibit .and k a b=k.wrap ((lw k.bits a &&& lw k.bits b:Nat):Int):=by
 unfold ibit
 simp only [BitVec.toNat_and,ofInt_lw]
theorem ibit_or (k:IntKind) (a b:Int):ibit .or k a b=k.wrap ((lw k.bits a ||| lw k.bits b:Nat):Int):=by
 unfold ibit
 simp only [BitVec.toNat_or,ofInt_lw]
theorem ibit_an (k:IntKind) (a b:Int):ibit .andNot k a b=k.wrap ((lw k.bits a &&& (2 ^ k.bits - 1 - lw k.bits b):Nat):Int):=by
 unfold ibit
 simp only [BitVec.toNat_and,BitVec.toNat_not,ofInt_lw]
theorem xor64 {a b:Nat} (ha:a<2 ^ 62) (hb:b<2 ^ 62):ibit .xor .i64 a b=((a ^^^ b:Nat):Int):=by
 rw [ibit_xor,lw_nat (zk ha (by decide)),lw_nat (zk hb (by decide))]
 exact wrap_nat (zk (wo ha hb) (by decide))
theorem and64 {a b:Nat} (ha:a<2 ^ 62) (hb:b<2 ^ 62):ibit .and .i64 a b=((a &&& b:Nat):Int):=by
 rw [ibit_and,lw_nat (zk ha (by decide)),lw_nat (zk hb (by decide))]
 exact wrap_nat (wh ub (zk ha (by decide)))
theorem xor8 {a b:Nat} (ha:a<256) (hb:b<256):ibit .xor .u8 a b=((a ^^^ b:Nat):Int):=by
 rw [ibit_xor,lw_nat ha,lw_nat hb]
 exact wrap_nat (wo (n:=8) ha hb)
theorem or8 {a b:Nat} (ha:a<256) (hb:b<256):ibit .or .u8 a b=((a ||| b:Nat):Int):=by
 rw [ibit_or,lw_nat ha,lw_nat hb]
 exact wrap_nat (Nat.or_lt_two_pow (n:=8) ha hb)
theorem and8 {a b:Nat} (ha:a<256) (hb:b<256):ibit .and .u8 a b=((a &&& b:Nat):Int):=by
 rw [ibit_and,lw_nat ha,lw_nat hb]
 exact wrap_nat (wh ub ha)
theorem an8 {a b:Nat} (ha:a<256) (hb:b<256):ibit .andNot .u8 a b=((a &&& (255 - b):Nat):Int):=by
 rw [ibit_an,lw_nat ha,lw_nat hb]
 exact wrap_nat (wh ub ha)
theorem shl8 (a s:Nat) (hs:s≤8):ishl .u8 a s=((a*2 ^ s % 256:Nat):Int):=by
 unfold ishl IntKind.wrap
 rw [zu,xa (show s≤IntKind.u8.bits from hs)]
 simp [IntKind.signed,IntKind.bits]
theorem shr8 (k:IntKind) (a s:Nat) (hs:s≤k.bits):ishr k a s=((a / 2 ^ s:Nat):Int):=by
 unfold ishr
 rw [zu,xa hs,Int.fdiv_eq_ediv_of_nonneg _ (by rw [i2];exact Int.natCast_nonneg _),i2,Int.natCast_ediv]
section
variable {F:Gf}
theorem el_v (a:Int):(el F a).v=lw F.m a:=rfl
theorem el_wrap (h:F.m≤64) (n:Int):el F (IntKind.i64.wrap n)=el F n:=El.ext (by
 show lw F.m _=lw F.m _
 unfold lw
 rw [wrap_mod .i64 n h])
theorem el_xor (h:F.m≤64) (a b:Int):el F (ibit .xor .i64 a b)=el F a+el F b:=by
 rw [ibit_xor,el_wrap h]
 refine El.ext ?_
 show lw F.m ((lw 64 a ^^^ lw 64 b:Nat):Int)=lw F.m a ^^^ lw F.m b
 rw [lw_mod,Nat.xor_mod_two_pow,lw_lw h,lw_lw h]
theorem low_el (h:F.m≤62) (a:Int):ibit .and .i64 a (((2 ^ F.m:Nat):Int) - 1)=vi (el F a):=by
 have h0:=yg F.m
 have h1:2 ^ F.m≤2 ^ 62:=zj (by omega) h
 rw [ibit_and,show ((2 ^ F.m:Nat):Int) - 1=((2 ^ F.m - 1:Nat):Int) by omega,lw_nat (n:=IntKind.i64.bits) (a:=2 ^ F.m - 1) (zk (by omega) (show 2 ^ 62≤2 ^ 64 by decide)),Nat.and_two_pow_sub_one_eq_mod,show IntKind.i64.bits=64 from rfl,lw_lw (show F.m≤64 by omega)]
 show _=((lw F.m a:Nat):Int)
 have:=lw_lt F.m a
 exact wrap_nat (zk this (xl h1 (by decide)))
end
def bt (l:List Int) (k:Nat):Bool:=(l.getD (k / 8) 0).toNat.testBit (k % 8)
def bn:Nat→(Nat→Bool)→Nat
 | 0,_=>0
 | n+1,f=>(f 0).toNat+2*bn n fun j=>f (j+1)
theorem bn_lt:∀ (n:Nat) (f:Nat→Bool),bn n f<2 ^ n
 | 0,_=>Nat.one_pos
 | n+1,f=>by
   have h1:=bn_lt n fun j=>f (j+1)
   have h2:=ul (f 0)
   show (f 0).toNat+2*bn n _<2 ^ (n+1)
   rw [wg]
   omega
theorem bn_bit:∀ (n:Nat) (f:Nat→Bool) (j:Nat),(bn n f).testBit j=(decide (j<n) && f j)
 | 0,_,j=>by show Nat.testBit 0 j=_;rw [xj];rfl
 | n+1,f,0=>by
   show ((f 0).toNat+2*bn n _).testBit 0=_
   rw [Nat.testBit_zero,show decide (0<n+1)=true from decide_eq_true (by omega),zd]
   cases f 0 <;> simp <;> omega
 | n+1,f,j+1=>by
   show ((f 0).toNat+2*bn n _).testBit (j+1)=_
   rw [wy,show ((f 0).toNat+2*bn n fun j=>f (j+1)) / 2=bn n fun j=>f (j+1) by have:=ul (f 0);omega,bn_bit n]
   simp
theorem bn_congr:∀ {n:Nat} {f g:Nat→Bool},(∀ j,j<n→f j=g j)→bn n f=bn n g
 | 0,_,_,_=>rfl
 | n+1,f,g,h=>by
   show (f 0).toNat+2*bn n _=(g 0).toNat+2*bn n _
   rw [h 0 (by omega),bn_congr (n:=n) fun j hj=>h (j+1) (by omega)]
def by' (n:Nat) (b:Nat→Bool):List Int:=(xq n).map fun i=>((bn 8 fun j=>b (8*i+j):Nat):Int)
theorem by_len (n:Nat) (b:Nat→Bool):(by' n b).length=n:=by simp [by']
theorem by_getD {n:Nat} {b:Nat→Bool} {i:Nat} (h:i<n):(by' n b).getD i 0=((bn 8 fun j=>b (8*i+j):Nat):Int):=by
 unfold by'
 simp only [zy,zf,xh h]
 rfl
theorem by_bt {n:Nat} {b:Nat→Bool} {k:Nat} (h:k<8*n):bt (by' n b) k=b k:=by
 unfold bt
 rw [by_getD (by omega),zu,bn_bit,decide_eq_true (show k % 8<8 by omega),zd,show 8*(k / 8)+k % 8=k by omega]
theorem by_bt_out {n:Nat} {b:Nat→Bool} {k:Nat} (h:8*n≤k):bt (by' n b) k=false:=by
 unfold bt
 rw [zy,yk (by rw [by_len];omega)]
 exact xj _
theorem by_congr {n:Nat} {b c:Nat→Bool} (h:∀ k,k<8*n→b k=c k):by' n b=by' n c:=
 xm fun i hi=>by
  have:=List.mem_range.1 hi
  rw [bn_congr fun j hj=>h (8*i+j) (by omega)]
def Byt8 (l:List Int):Prop:=∀ x∈l,0≤x∧x<256
theorem by_byt (n:Nat) (b:Nat→Bool):Byt8 (by' n b):=fun x hx=>by
 obtain ⟨i,_,rfl⟩:=List.mem_map.1 hx
 have:=bn_lt 8 fun j=>b (8*i+j)
 omega
theorem byt_eq {l:List Int} (h:Byt8 l):l=by' l.length (bt l):=by
 refine wv (by rw [by_len]) fun i h1 h2 => ?_
 have hx:=h l[i] (List.getElem_mem h1)
 have e:=by_getD (b:=bt l) h1
 rw [zy,zt h2,ym] at e
 rw [e]
 have:l[i].toNat=bn 8 fun j=>bt l (8*i+j):=by
  refine vz fun j => ?_
  rw [bn_bit]
  by_cases hj:j<8
  · rw [decide_eq_true hj,zd]
    unfold bt
    rw [show (8*i+j) / 8=i by omega,show (8*i+j) % 8=j by omega,zy,zt h1,ym]
  · rw [decide_eq_false hj,Bool.false_and]
    exact xw (zk (show l[i].toNat<2 ^ 8 by omega) (zj (by omega) (by omega)))
 omega
theorem byt_ext {l l':List Int} (h:Byt8 l) (h':Byt8 l') (hl:l.length=l'.length) (hb:∀ k,k<8*l.length→bt l k=bt l' k):l=l':=by
 rw [byt_eq h,byt_eq h',← hl]
 exact by_congr hb
theorem bt_set {l:List Int} {i:Nat} {x:Int} (hi:i<l.length) (k:Nat):bt (l.set i x) k=if k / 8=i then x.toNat.testBit (k % 8) else bt l k:=by
 unfold bt
 simp only [zy]
 by_cases h:k / 8=i
 · rw [if_pos h,h,List.getElem?_set_self hi];rfl
 · rw [if_neg h,List.getElem?_set_ne (Ne.symm h)]
theorem byt_set {l:List Int} (h:Byt8 l) {i:Nat} {x:Int} (hx:0≤x∧x<256):Byt8 (l.set i x):=fun y hy=>by
 rcases List.mem_or_eq_of_mem_set hy with hy | rfl
 · exact h y hy
 · exact hx
end Go.Vx
set_option maxRecDepth 100000
namespace Go.Vx
open Go Go.Proofs
theorem vlf {P:Prop} (h:P:=by (first | first | (show Region.lexB _ _=true;kernel_rfl) | (show planned _ _=true;kernel_rfl) | exact rfl | exact True.intro | ((try dsimp only [imp,C0,cG,cInt,rwCodec] at *);(try refine inR64 ?_ ?_) <;> (try simp only [List.length_set,List.length_append,List.length_take,List.length_drop]) <;> omega))):P:=h
theorem vau {P:Prop} (h:P:=by ((try dsimp only [imp,C0,cG,cInt,rwCodec] at *);(try simp only [decide_eq_true_eq,decide_eq_false_iff_not,Bool.and_eq_true,Bool.or_eq_true,Bool.or_eq_false_iff,Bool.and_eq_false_iff,Bool.not_eq_true',Bool.not_eq_false',SB.val,List.length_append,List.length_cons,List.length_nil,List.length_take,List.length_drop] at *);(first | omega | exact inR64 (by omega) (by omega) | (refine inR64 ?_ ?_ <;> omega)))):P:=h
theorem ty:Tr.yes.holds:=trivial
theorem tl {p:Prop} (h:p):(Tr.lf p).holds:=h
theorem ta {a b:Tr} (h1:a.holds) (h2:b.holds):(Tr.and a b).holds:=⟨h1,h2⟩
theorem ti {p:Prop} {a:Tr} (h:p→a.holds):(Tr.imp p a).holds:=h
theorem tf {α:Type} {f:α→Tr} (h:∀ x,(f x).holds):(Tr.all f).holds:=h
theorem vgo {T:Tr} (h:T.holds:=by (((conv=>arg 1;reduce);with_reducible repeat' first | exact ty | refine ta ?_ ?_ | refine ti fun _ => ?_ | refine tf fun _ => ?_ | refine tl ?_);all_goals (first | first | (show Region.lexB _ _=true;kernel_rfl) | (show planned _ _=true;kernel_rfl) | exact rfl | exact True.intro | ((try dsimp only [imp,C0,cG,cInt,rwCodec] at *);(try refine inR64 ?_ ?_) <;> (try simp only [List.length_set,List.length_append,List.length_take,List.length_drop]) <;> omega)))):T.holds:=h
abbrev cInt (k:IntKind):Codec where
 α:=Int
 dflt:=0
 sz:=1
 enc n:=[.int k n]
 upd _ f v:=match f,v with
  | 0,.int k' n=>if sameKind k k' then some n else none
  | _,_=>none
 len _:=rfl
 cell _ v h:=by simp at h;subst h;rfl
 flat _ _ _:=rfl
 upd_ok ad x f v y h:=by
  split at h <;> try contradiction
  split at h <;> try contradiction
  rename_i hk
  simp at h;subst h
  simp [SV.va,sameKind_eq hk]
 beq a b:=decide (a=b)
abbrev cBool:Codec where
 α:=Bool
 dflt:=false
 sz:=1
 enc b:=[.bool (.tm b)]
 upd _ f v:=match f,v with
  | 0,.bool s=>some s.val
  | _,_=>none
 len _:=rfl
 cell _ v h:=by simp at h;subst h;rfl
 flat _ _ _:=rfl
 upd_ok ad x f v y h:=by
  split at h <;> try contradiction
  simp at h;subst h
  simp [SV.va,SB.val]
class Gl where
 A:Nat→Addr
 c:Nat→Array Value
 t:Nat→TypeId
 lv:Nat
def errV:Option Addr→Value
 | none=>.nilIface
 | some a=>.iface 193 (.pointer (some a))
abbrev cErr:Codec where
 α:=Option Addr
 dflt:=none
 sz:=1
 enc e:=[.val (errV e)]
 upd _ f v:=match f,v with
  | 0,.nili=>some none
  | 0,.ifc 193 (.val (.pointer (some a)))=>some (some a)
  | _,_=>none
 len _:=rfl
 cell e v h:=by simp at h;subst h;cases e <;> rfl
 flat _ _ _:=rfl
 upd_ok ad x f v y h:=by
  split at h <;> try contradiction
  all_goals
   simp at h;subst h
   simp [SV.va,errV]
abbrev glB [Gl] (g:Nat):Bool:=match ye g 6 with
 | true=>true
 | false=>ye g Gl.lv
abbrev glV [Gl] (g:Nat):Option SV:=match glB g with
 | true=>some (.ifc 193 (.val (.pointer (some (Gl.A g)))))
 | false=>none
abbrev glP [Gl] (g:Nat):List (Nat×Obj):=match glB g with
 | true=>[((Gl.A g).block,.cells (Gl.c g) (Gl.t g) (0,0))]
 | false=>[]
theorem glV_flat [Gl] (g:Nat):∀ v,glV g=some v→∀ ad ad',SV.va ad v=SV.va ad' v:=by
 intro v h ad ad'
 unfold glV at h
 split at h
 · simp only [Option.some.injEq] at h;subst h;rfl
 · cases h
abbrev cG [Gl] (g:Nat) (c:Codec):Codec:={ c with gv:=glV g,gpins:=glP g,gflat:=glV_flat g }
abbrev C0 [Gl]:Nat→Codec:=fun t=>match t with
 | 4=>cG 4 cBool
 | 5=>cG 5 (cInt .u8)
 | 22=>cG 22 (rwCodec (cInt .u8))
 | 33=>cG 33 (rwCodec (cInt .i64))
 | 83=>cG 83 (rwCodec (cInt .u8))
 | 35=>cG 35 cErr
 | t=>cG t (cInt .i64)
theorem mix:Tryz.prog.follows .mixedOrders=true:=by kernel_rfl
theorem inR64 {n:Int} (h1 : -9223372036854775808≤n) (h2:n≤9223372036854775807):inR .i64 n:=by
 unfold inR IntKind.wrap
 simp [IntKind.bits,IntKind.signed]
 omega
section
variable [Gl]
def rdI:Fam C0 where
 te:=33
 off:=0
 t:=3
 get x:=x
 enc x:=Rw.sv_va x noAd
 good w x h:=h
 blk x b hb:=hb
 flat:=rfl
 hoff:=qk
def rdP:Fam C0 where
 te:=83
 off:=0
 t:=5
 get x:=x
 enc x:=Rw.sv_va x noAd
 good w x h:=h
 blk x b hb:=hb
 flat:=rfl
 hoff:=qk
def mkI:FamW C0 where
 te:=33
 t:=3
 put x:=x
 sz:=rfl
 enc x:=Rw.sv_va x noAd
 blks x:=rfl
 good w x h:=h
def mkP:FamW C0 where
 te:=83
 t:=5
 put x:=x
 sz:=rfl
 enc x:=Rw.sv_va x noAd
 blks x:=rfl
 good w x h:=h
def mkB:FamW C0 where
 te:=22
 t:=5
 put x:=x
 sz:=rfl
 enc x:=Rw.sv_va x noAd
 blks x:=rfl
 good w x h:=h
abbrev eV (g:Nat):SV:=.ifc 193 (.val (.pointer (some (Gl.A g))))
end
end Go.Vx
namespace Go.Vx
open Go Go.Proofs
@[irreducible] def szF (F:Gf):Nat:=2 ^ F.m
@[irreducible] def nF (F:Gf):Nat:=F.N
theorem szF_eq (F:Gf):szF F=2 ^ F.m:=by unfold szF;rfl
theorem nF_eq (F:Gf):nF F=F.N:=by unfold nF;rfl
theorem nF_sz (F:Gf):szF F=nF F+1∧7≤nF F∧nF F<16384:=by
 have h1:=Gf.N3 (F:=F)
 have h2:=Gf.N14 (F:=F)
 rw [szF_eq,nF_eq]
 have:=yg F.m
 refine ⟨?_,h1,h2⟩
 show 2 ^ F.m=2 ^ F.m - 1+1
 omega
@[irreducible] def loI (F:Gf) (a:Int):Int:=vi (el F a)
@[irreducible] def exF (F:Gf) (n:Int):El F:=ex F (n % (F.N:Int)).toNat
@[irreducible] noncomputable def muI (F:Gf) (a b:Int):Int:=vi (el F a*el F b)
@[irreducible] def xT (F:Gf):List Int:=(xq (nF F)).map fun i=>vi (ex F i)
@[irreducible] def lT (F:Gf):List Int:=(xq (szF F)).map fun x=>((lg F.m F.p F.N x:Nat):Int)
section
variable {F:Gf}
theorem loI_eq (a:Int):loI F a=vi (el F a):=by unfold loI;rfl
theorem muI_eq (a b:Int):muI F a b=vi (el F a*el F b):=by unfold muI;rfl
theorem loI_lt (a:Int):0≤loI F a∧loI F a<(szF F:Int):=by rw [loI_eq,szF_eq];exact vi_lt _
theorem xT_len:(xT F).length=nF F:=by unfold xT;simp
theorem lT_len:(lT F).length=szF F:=by unfold lT;simp
theorem xT_at {i:Nat} (h:i<nF F):(xT F).getD i 0=vi (ex F i):=by
 unfold xT
 simp only [zy,zf,xh h];rfl
theorem lT_at {i:Nat} (h:i<szF F):(lT F).getD i 0=((lg F.m F.p F.N i:Nat):Int):=by
 unfold lT
 simp only [zy,zf,xh h];rfl
theorem exF_at (n:Int):(0≤n.tmod (nF F)→(xT F).getD (n.tmod (nF F)).toNat 0=vi (exF F n))∧(n.tmod (nF F)<0→(xT F).getD (n.tmod (nF F)+nF F).toNat 0=vi (exF F n)):=by
 obtain ⟨_,h7,_⟩:=nF_sz F
 have hn:(F.N:Int)=(nF F:Int):=by rw [nF_eq]
 have hp:(0:Int)<(nF F:Int):=by omega
 have e:n % (nF F:Int)=n.tmod (nF F)∨(n.tmod (nF F)<0∧n % (nF F:Int)=n.tmod (nF F)+nF F):=by
  rcases Int.lt_or_le n 0 with h | h
  · have h1:=Int.tmod_eq_emod (a:=n) (b:=(nF F:Int))
    split at h1
    · exact .inl (by rw [h1];simp)
    · right
      have h2:=uf n (show (nF F:Int)≠0 by omega)
      have h3:=sn n hp
      have h4:((nF F:Int).natAbs:Int)=nF F:=by omega
      omega
  · exact .inl (Int.tmod_eq_emod_of_nonneg h).symm
 have hl:=uf n (show (nF F:Int)≠0 by omega)
 have hu:=sn n hp
 constructor
 · intro h
   rcases e with e | ⟨e1,_⟩
   · rw [← e,xT_at (by omega)]
     unfold exF
     rw [hn]
   · omega
 · intro h
   rcases e with e | ⟨_,e⟩
   · omega
   · rw [← e,xT_at (by omega)]
     unfold exF
     rw [hn]
theorem exF_nat (i:Nat):exF F (i:Int)=ex F i:=by
 unfold exF
 rw [← qv,zu,ex_mod]
theorem muI_zero {a b:Int} (h:loI F a=0∨loI F b=0):muI F a b=0:=by
 rw [muI_eq]
 rw [loI_eq,loI_eq] at h
 rcases h with h | h
 · rw [vi_zero.1 h,Fd.zmul];rfl
 · rw [vi_zero.1 h,Fd.mul0];rfl
theorem muI_lg {a b:Int} (ha:loI F a≠0) (hb:loI F b≠0):vi (exF F ((lT F).getD (loI F a).toNat 0+(lT F).getD (loI F b).toNat 0))=muI F a b:=by
 have h1:=loI_lt (F:=F) a
 have h2:=loI_lt (F:=F) b
 rw [lT_at (by omega),lT_at (by omega),← Int.natCast_add,exF_nat,muI_eq]
 rw [loI_eq] at ha hb h1 h2 ⊢
 rw [loI_eq] at *
 have e1:(vi (el F a)).toNat=(el F a).v:=zu _
 have e2:(vi (el F b)).toNat=(el F b).v:=zu _
 have p1:0<(el F a).v:=rt fun e=>ha (by unfold vi;rw [e];rfl)
 have p2:0<(el F b).v:=rt fun e=>hb (by unfold vi;rw [e];rfl)
 have l1:=lg_lt (F:=F) p1 (el F a).lt
 have l2:=lg_lt (F:=F) p2 (el F b).lt
 congr 1
 rw [ex_add,e1,e2]
 refine congr (congrArg _ (El.ext ?_)) (El.ext ?_)
 · exact l1.2
 · exact l2.2
theorem lT_lt {a:Int} (h1:0≤a) (h2:a<(szF F:Int)):0≤(lT F).getD a.toNat 0∧(lT F).getD a.toNat 0<16384:=by
 obtain ⟨hs,h7,hh⟩:=nF_sz F
 rw [lT_at (by omega)]
 by_cases h0:0<a.toNat
 · have:=(lg_lt (F:=F) h0 (by rw [← szF_eq];omega)).1
   rw [← nF_eq] at this ⊢
   omega
 · rw [show a.toNat=0 by omega]
   unfold lg
   cases h:(xq F.N).find? (fun j=>mx F.m F.p j 1 == 0) with
   | none=>exact ⟨by decide,by decide⟩
   | some j=>
     have:=List.mem_range.1 (pn h)
     rw [← nF_eq] at this
     exact ⟨by show (0:Int)≤(j:Int);omega,by show (j:Int)<16384;omega⟩
theorem lo_eq (a:Int):ibit .and .i64 a ((szF F:Int) - 1)=loI F a:=by
 rw [szF_eq,loI_eq]
 exact low_el (by have:=F.m14;omega) a
theorem lo_xor (a b:Int):loI F (ibit .xor .i64 a b)=vi (el F a+el F b):=by
 rw [loI_eq,el_xor (by have:=F.m14;omega)]
end
section
variable [Gl]
abbrev fld (F:Gf) (b q:Nat):Ck C0:=⟨b,q,4,false,none,.one [.int .i64 (F.m:Int),.int .i64 (szF F:Int),.sl 1 0 (nF F) (nF F),.sl 2 0 (szF F) (szF F)]⟩
abbrev xCk (F:Gf) (b q:Nat):Ck C0:=⟨b,q,1,false,none,.rows 3 (xT F)⟩
abbrev lCk (F:Gf) (b q:Nat):Ck C0:=⟨b,q,1,false,none,.rows 3 (lT F)⟩
abbrev newF (F:Gf) (y:Nat×Nat×Nat):List (Ck C0):=[⟨y.1,0,4,true,none,.one [.int .i64 (F.m:Int),.int .i64 (szF F:Int),.sl 1 0 (nF F) (nF F),.sl 2 0 (szF F) (szF F)]⟩,⟨y.2.1,0,1,true,none,.rows 3 (xT F)⟩,⟨y.2.2,0,1,true,none,.rows 3 (lT F)⟩]
variable (F:Gf)
theorem low_ok (b q:Nat) (a:Int):Tells (C:=C0) Tryz.prog (.fn 126) [⟨b,q,4,false,none,.one [.junk,.int .i64 (szF F:Int)]⟩] [.ptr 0 0 0,.int .i64 a] (.int .i64 (loI F a)):=by
 have hs:=nF_sz F
 refine loc_pc (P:=Tryz.prog) (E:=⟨[],[],12,[],[],[],none⟩) (L:=[]) mix Tryz.func126 rfl (by kernel_rfl) (by kernel_rfl) rfl rfl ?_
 ((conv=>arg 1;reduce);with_reducible repeat' first | exact ty | refine ta ?_ ?_ | refine ti fun _ => ?_ | refine tf fun _ => ?_ | refine tl ?_)
 all_goals first | exact vlf | exact lo_eq _ | exact (lo_eq _).symm
def pcLow:Pc Tryz.prog C0 where
 tg:=.fn 126
 X:=Nat×Nat×Int
 args:=fun (b,q,a)=>[.ptr 0 0 0,.int .i64 a]
 mem:=fun (b,q,a)=>[⟨b,q,4,false,none,.one [.junk,.int .i64 (szF F:Int)]⟩]
 pre _:=True
 res:=fun (b,q,a)=>.int .i64 (loI F a)
 mat vs m:=match vs with
  | [.ptr c _ _,.int _ a]=>match nth m c with
    | ⟨b,q,_,_,_,_⟩=>some ((b,q,a),[c])
  | _=>none
 ok:=fun (b,q,a) _=>low_ok F b q a
theorem add_ok (b q:Nat) (x y:Int):Tells (C:=C0) Tryz.prog (.fn 112) [⟨b,q,4,false,none,.one [.junk,.int .i64 (szF F:Int)]⟩] [.ptr 0 0 0,.int .i64 x,.int .i64 y] (.int .i64 (loI F (ibit .xor .i64 x y))):=by
 refine loc_pc (P:=Tryz.prog) (E:=⟨[],[pcLow F],12,[],[],[],none⟩) (L:=[]) mix Tryz.func112 rfl (by kernel_rfl) (by kernel_rfl) rfl rfl ?_
 exact vgo
def pcAdd:Pc Tryz.prog C0 where
 tg:=.fn 112
 X:=Nat×Nat×Int×Int
 args:=fun (b,q,x,y)=>[.ptr 0 0 0,.int .i64 x,.int .i64 y]
 mem:=fun (b,q,x,y)=>[⟨b,q,4,false,none,.one [.junk,.int .i64 (szF F:Int)]⟩]
 pre _:=True
 res:=fun (b,q,x,y)=>.int .i64 (loI F (ibit .xor .i64 x y))
 mat vs m:=match vs with
  | [.ptr c _ _,.int _ x,.int _ y]=>match nth m c with
    | ⟨b,q,_,_,_,_⟩=>some ((b,q,x,y),[c])
  | _=>none
 ok:=fun (b,q,x,y) _=>add_ok F b q x y
theorem exp_ok (b q be qe:Nat) (n:Int) (h1 : -4611686018427387904≤n) (h2:n≤4611686018427387904):Tells (C:=C0) Tryz.prog (.fn 100) [⟨b,q,4,false,none,.one [.junk,.int .i64 (szF F:Int),.sl 1 0 (nF F) (nF F)]⟩,xCk F be qe] [.ptr 0 0 0,.int .i64 n] (.int .i64 (vi (exF F n))):=by
 obtain ⟨hs,h7,hh⟩:=nF_sz F
 have e1:(szF F:Int) - 1=(nF F:Int):=by omega
 have hx:=exF_at (F:=F) n
 have hl:=xT_len (F:=F)
 have ht : -(nF F:Int)<n.tmod (nF F)∧n.tmod (nF F)<(nF F:Int):=by
  have:=Int.tmod_lt_of_pos n (show (0:Int)<(nF F:Int) by omega)
  have:=Int.lt_tmod_of_pos n (show (0:Int)<(nF F:Int) by omega)
  omega
 refine loc_pc (P:=Tryz.prog) (E:=⟨[],[],28,[],[],[],none⟩) (L:=[]) mix Tryz.func100 rfl (by kernel_rfl) (by kernel_rfl) rfl rfl ?_
 ((conv=>arg 1;reduce);with_reducible repeat' first | exact ty | refine ta ?_ ?_ | refine ti fun _ => ?_ | refine tf fun _ => ?_ | refine tl ?_)
 all_goals try exact vlf
 all_goals
  rename_i d
  rw [e1] at d ⊢
  first
  | exact hx.2 (ng d)
  | exact hx.1 (Int.not_lt.1 (nf d))
  | (have d:=ng d;first | exact inR64 (by omega) (by omega) | omega)
  | (have d:=nf d;omega)
def pcExp:Pc Tryz.prog C0 where
 tg:=.fn 100
 X:=Nat×Nat×Nat×Nat×Int
 args:=fun (b,q,be,qe,n)=>[.ptr 0 0 0,.int .i64 n]
 mem:=fun (b,q,be,qe,n)=>[⟨b,q,4,false,none,.one [.junk,.int .i64 (szF F:Int),.sl 1 0 (nF F) (nF F)]⟩,xCk F be qe]
 pre:=fun (b,q,be,qe,n) => -4611686018427387904≤n∧n≤4611686018427387904
 res:=fun (b,q,be,qe,n)=>.int .i64 (vi (exF F n))
 mat vs m:=match vs with
  | [.ptr c _ _,.int _ n]=>match nth m c with
    | ⟨b,q,_,_,_,.one (_ :: _ :: .sl x _ _ _ :: _)⟩=>match nth m x with
      | ⟨be,qe,_,_,_,_⟩=>some ((b,q,be,qe,n),[c,x])
    | _=>none
  | _=>none
 ok:=fun (b,q,be,qe,n) h=>exp_ok F b q be qe n h.1 h.2
theorem mul_ok (b q be qe bl ql:Nat) (x y:Int):Tells (C:=C0) Tryz.prog (.fn 113) [fld F b q,xCk F be qe,lCk F bl ql] [.ptr 0 0 0,.int .i64 x,.int .i64 y] (.int .i64 (muI F x y)):=by
 obtain ⟨hs,h7,hh⟩:=nF_sz F
 have l1:=loI_lt (F:=F) x
 have l2:=loI_lt (F:=F) y
 have hl:=lT_len (F:=F)
 have b1:=lT_lt (F:=F) l1.1 l1.2
 have b2:=lT_lt (F:=F) l2.1 l2.2
 refine loc_pc (P:=Tryz.prog) (E:=⟨[],[pcLow F,pcExp F],36,[],[],[],none⟩) (L:=[]) mix Tryz.func113 rfl (by kernel_rfl) (by kernel_rfl) rfl rfl ?_
 ((conv=>arg 1;reduce);with_reducible repeat' first | exact ty | refine ta ?_ ?_ | refine ti fun _ => ?_ | refine tf fun _ => ?_ | refine tl ?_)
 all_goals try exact vlf
 · rename_i d
   exact (muI_zero (by simpa [SB.val] using d)).symm
 · exact inR64 (n:=(lT F).getD (loI F x).toNat 0+(lT F).getD (loI F y).toNat 0) (by omega) (by omega)
 · show -4611686018427387904≤(lT F).getD (loI F x).toNat 0+(lT F).getD (loI F y).toNat 0∧(lT F).getD (loI F x).toNat 0+(lT F).getD (loI F y).toNat 0≤4611686018427387904
   omega
 · rename_i d
   simp only [Bool.or_eq_false_iff,decide_eq_false_iff_not,SB.val] at d
   exact muI_lg d.1 d.2
noncomputable def pcMul:Pc Tryz.prog C0 where
 tg:=.fn 113
 X:=Nat×Nat×Nat×Nat×Nat×Nat×Int×Int
 args:=fun (b,q,be,qe,bl,ql,x,y)=>[.ptr 0 0 0,.int .i64 x,.int .i64 y]
 mem:=fun (b,q,be,qe,bl,ql,x,y)=>[fld F b q,xCk F be qe,lCk F bl ql]
 pre _:=True
 res:=fun (b,q,be,qe,bl,ql,x,y)=>.int .i64 (muI F x y)
 mat vs m:=match vs with
  | [.ptr c _ _,.int _ x,.int _ y]=>match nth m c with
    | ⟨b,q,_,_,_,.one (_ :: _ :: .sl e _ _ _ :: .sl l _ _ _ :: _)⟩=>match nth m e,nth m l with
      | ⟨be,qe,_,_,_,_⟩,⟨bl,ql,_,_,_,_⟩=>some ((b,q,be,qe,bl,ql,x,y),[c,e,l])
    | _=>none
  | _=>none
 ok:=fun (b,q,be,qe,bl,ql,x,y) _=>mul_ok F b q be qe bl ql x y
theorem log_ok (b q be qe bl ql:Nat) (x:Int) (h:loI F x≠0):Tells (C:=C0) Tryz.prog (.fn 128) [fld F b q,xCk F be qe,lCk F bl ql] [.ptr 0 0 0,.int .i64 x] (.tup [.int .i64 ((lT F).getD (loI F x).toNat 0),.nili]):=by
 obtain ⟨hs,h7,hh⟩:=nF_sz F
 have l1:=loI_lt (F:=F) x
 have hl:=lT_len (F:=F)
 refine loc_pc (P:=Tryz.prog) (E:=⟨[],[pcLow F],19,[],[],[],none⟩) (L:=[]) mix Tryz.func128 rfl (by kernel_rfl) (by kernel_rfl) rfl rfl ?_
 ((conv=>arg 1;reduce);with_reducible repeat' first | exact ty | refine ta ?_ ?_ | refine ti fun _ => ?_ | refine tf fun _ => ?_ | refine tl ?_)
 all_goals try exact vlf
 all_goals exact absurd (ng ‹_›) h
def pcLog:Pc Tryz.prog C0 where
 tg:=.fn 128
 X:=Nat×Nat×Nat×Nat×Nat×Nat×Int
 args:=fun (b,q,be,qe,bl,ql,x)=>[.ptr 0 0 0,.int .i64 x]
 mem:=fun (b,q,be,qe,bl,ql,x)=>[fld F b q,xCk F be qe,lCk F bl ql]
 pre:=fun (b,q,be,qe,bl,ql,x)=>loI F x≠0
 res:=fun (b,q,be,qe,bl,ql,x)=>.tup [.int .i64 ((lT F).getD (loI F x).toNat 0),.nili]
 mat vs m:=match vs with
  | [.ptr c _ _,.int _ x]=>match nth m c with
    | ⟨b,q,_,_,_,.one (_ :: _ :: .sl e _ _ _ :: .sl l _ _ _ :: _)⟩=>match nth m e,nth m l with
      | ⟨be,qe,_,_,_,_⟩,⟨bl,ql,_,_,_,_⟩=>some ((b,q,be,qe,bl,ql,x),[c,e,l])
    | _=>none
  | _=>none
 ok:=fun (b,q,be,qe,bl,ql,x) h=>log_ok F b q be qe bl ql x h
@[irreducible] noncomputable def ivI (F:Gf) (x:Int):Int:=vi (Fd.iv (el F x))
variable {F}
theorem ivI_eq (x:Int):ivI F x=vi (Fd.iv (el F x)):=by unfold ivI;rfl
theorem ivI_lg {x:Int} (h:loI F x≠0):vi (exF F (0 - (lT F).getD (loI F x).toNat 0))=ivI F x:=by
 have h1:=loI_lt (F:=F) x
 have p:0<(el F x).v:=rt fun e=>h (by rw [loI_eq];unfold vi;rw [e];rfl)
 have l1:=lg_lt (F:=F) p (el F x).lt
 have e1:(vi (el F x)).toNat=(el F x).v:=zu _
 rw [lT_at (by omega),loI_eq,e1,ivI_eq]
 generalize hk:lg F.m F.p F.N (el F x).v=k at l1
 congr 1
 have e2:el F x=ex F k:=El.ext l1.2.symm
 rw [e2]
 obtain ⟨h7,_,_⟩:=nF_sz F
 have h8:=Gf.N3 (F:=F)
 by_cases h0:k=0
 · subst h0
   have:exF F (0 - ((0:Nat):Int))=ex F 0:=exF_nat 0
   rw [this]
   exact Fd.iv_uniq (by rw [← ex_add];rfl)
 · refine Fd.iv_uniq ?_
   have e3:exF F (0 - (k:Int))=ex F (F.N - k):=by
    unfold exF
    congr 1
    have:(0 - (k:Int)) % (F.N:Int)=((F.N - k:Nat):Int):=by
     rw [← Int.add_emod_right,rh (by omega) (by omega)]
     omega
    rw [this,zu]
   rw [e3,← ex_add,show k+(F.N - k)=F.N by omega,ex_NN]
variable (F)
theorem inv_ok (b q be qe bl ql:Nat) (x:Int) (h:loI F x≠0):Tells (C:=C0) Tryz.prog (.fn 117) [fld F b q,xCk F be qe,lCk F bl ql] [.ptr 0 0 0,.int .i64 x] (.tup [.int .i64 (ivI F x),.nili]):=by
 have hb:=lT_lt (F:=F) (loI_lt (F:=F) x).1 (loI_lt (F:=F) x).2
 refine loc_pc (P:=Tryz.prog) (E:=⟨[],[pcLog F,pcExp F],21,[],[],[],none⟩) (L:=[]) mix Tryz.func117 rfl (by kernel_rfl) (by kernel_rfl) rfl rfl ?_
 ((conv=>arg 1;reduce);with_reducible repeat' first | exact ty | refine ta ?_ ?_ | refine ti fun _ => ?_ | refine tf fun _ => ?_ | refine tl ?_)
 all_goals first | exact vlf | exact h | exact ivI_lg h | skip
 · show -4611686018427387904≤0 - (lT F).getD (loI F x).toNat 0∧0 - (lT F).getD (loI F x).toNat 0≤4611686018427387904
   omega
noncomputable def pcInv:Pc Tryz.prog C0 where
 tg:=.fn 117
 X:=Nat×Nat×Nat×Nat×Nat×Nat×Int
 args:=fun (b,q,be,qe,bl,ql,x)=>[.ptr 0 0 0,.int .i64 x]
 mem:=fun (b,q,be,qe,bl,ql,x)=>[fld F b q,xCk F be qe,lCk F bl ql]
 pre:=fun (b,q,be,qe,bl,ql,x)=>loI F x≠0
 res:=fun (b,q,be,qe,bl,ql,x)=>.tup [.int .i64 (ivI F x),.nili]
 mat vs m:=match vs with
  | [.ptr c _ _,.int _ x]=>match nth m c with
    | ⟨b,q,_,_,_,.one (_ :: _ :: .sl e _ _ _ :: .sl l _ _ _ :: _)⟩=>match nth m e,nth m l with
      | ⟨be,qe,_,_,_,_⟩,⟨bl,ql,_,_,_,_⟩=>some ((b,q,be,qe,bl,ql,x),[c,e,l])
    | _=>none
  | _=>none
 ok:=fun (b,q,be,qe,bl,ql,x) h=>inv_ok F b q be qe bl ql x h
theorem div_ok (b q be qe bl ql:Nat) (x y:Int) (h:loI F y≠0):Tells (C:=C0) Tryz.prog (.fn 87) [fld F b q,xCk F be qe,lCk F bl ql] [.ptr 0 0 0,.int .i64 x,.int .i64 y] (.tup [.int .i64 (muI F x (ivI F y)),.nili]):=by
 refine loc_pc (P:=Tryz.prog) (E:=⟨[],[pcInv F,pcMul F],23,[],[],[],none⟩) (L:=[]) mix Tryz.func87 rfl (by kernel_rfl) (by kernel_rfl) rfl rfl ?_
 ((conv=>arg 1;reduce);with_reducible repeat' first | exact ty | refine ta ?_ ?_ | refine ti fun _ => ?_ | refine tf fun _ => ?_ | refine tl ?_)
 all_goals first | exact vlf | exact h
noncomputable def pcDiv:Pc Tryz.prog C0 where
 tg:=.fn 87
 X:=Nat×Nat×Nat×Nat×Nat×Nat×Int×Int
 args:=fun (b,q,be,qe,bl,ql,x,y)=>[.ptr 0 0 0,.int .i64 x,.int .i64 y]
 mem:=fun (b,q,be,qe,bl,ql,x,y)=>[fld F b q,xCk F be qe,lCk F bl ql]
 pre:=fun (b,q,be,qe,bl,ql,x,y)=>loI F y≠0
 res:=fun (b,q,be,qe,bl,ql,x,y)=>.tup [.int .i64 (muI F x (ivI F y)),.nili]
 mat vs m:=match vs with
  | [.ptr c _ _,.int _ x,.int _ y]=>match nth m c with
    | ⟨b,q,_,_,_,.one (_ :: _ :: .sl e _ _ _ :: .sl l _ _ _ :: _)⟩=>match nth m e,nth m l with
      | ⟨be,qe,_,_,_,_⟩,⟨bl,ql,_,_,_,_⟩=>some ((b,q,be,qe,bl,ql,x,y),[c,e,l])
    | _=>none
  | _=>none
 ok:=fun (b,q,be,qe,bl,ql,x,y) h=>div_ok F b q be qe bl ql x y h
theorem fm_ok (b q:Nat) (z:Int):Tells (C:=C0) Tryz.prog (.fn 77) [⟨b,q,4,false,none,.one [.int .i64 z]⟩] [.ptr 0 0 0] (.int .i64 z):=by
 refine loc_pc (P:=Tryz.prog) (E:=⟨[],[],7,[],[],[],none⟩) (L:=[]) mix Tryz.func77 rfl (by kernel_rfl) (by kernel_rfl) rfl rfl ?_
 exact vgo
def pcM:Pc Tryz.prog C0 where
 tg:=.fn 77
 X:=Nat×Nat×Int
 args _:=[.ptr 0 0 0]
 mem:=fun (b,q,z)=>[⟨b,q,4,false,none,.one [.int .i64 z]⟩]
 pre _:=True
 res:=fun (b,q,z)=>.int .i64 z
 mat vs m:=match vs with
  | [.ptr c _ _]=>match nth m c with
    | ⟨b,q,_,_,_,.one (.int _ z :: _)⟩=>some ((b,q,z),[c])
    | _=>none
  | _=>none
 ok:=fun (b,q,z) _=>fm_ok b q z
theorem fsize_ok (b q:Nat) (z:Int):Tells (C:=C0) Tryz.prog (.fn 118) [⟨b,q,4,false,none,.one [.junk,.int .i64 z]⟩] [.ptr 0 0 0] (.int .i64 z):=by
 refine loc_pc (P:=Tryz.prog) (E:=⟨[],[],7,[],[],[],none⟩) (L:=[]) mix Tryz.func118 rfl (by kernel_rfl) (by kernel_rfl) rfl rfl ?_
 exact vgo
def pcSize:Pc Tryz.prog C0 where
 tg:=.fn 118
 X:=Nat×Nat×Int
 args _:=[.ptr 0 0 0]
 mem:=fun (b,q,z)=>[⟨b,q,4,false,none,.one [.junk,.int .i64 z]⟩]
 pre _:=True
 res:=fun (b,q,z)=>.int .i64 z
 mat vs m:=match vs with
  | [.ptr c _ _]=>match nth m c with
    | ⟨b,q,_,_,_,.one (_ :: .int _ z :: _)⟩=>some ((b,q,z),[c])
    | _=>none
  | _=>none
 ok:=fun (b,q,z) _=>fsize_ok b q z
end
end Go.Vx
