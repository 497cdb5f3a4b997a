/-
  A symbolic evaluator for the translated code, first part: symbolic values, chunks of memory, the world's relation to them, and the operations that only compute.  It speaks of no program in particular.
  The symbolic evaluator, second part: the operations that only compute do what 'pev' says, in every world.
  The symbolic evaluator, third part: 'pev' is right, in every world.
  The symbolic evaluator, fourth part: 'pev' is right, in every world.
  The symbolic evaluator, fifth part: the frame's slots, guards, operands.
  The symbolic evaluator, sixth part: memory: loads, stores, new chunks.
  The symbolic evaluator, seventh part: stores.
  The symbolic evaluator, eighth part: new memory: variables, slices, append.
  The symbolic evaluator, ninth part: what makes memory, az operations.
  The symbolic evaluator, tenth part: the operations with an effect.
  Conditions: none.
-/
import Derived.WalkKit
import Derived.Deep.Quiet
open Array renaming eq_empty_of_size_eq_zero → qt, ext' → wd, foldl_toList → qg, getElem?_eq_none → wj, getElem?_setIfInBounds_ne → sx, getElem?_toList → vh, toList_map → qx
open Bool renaming and_eq_true → zq, false_eq_true → vf, not_eq_true' → yi
open List renaming all_eq_true → ux, foldl_cons → ut, getD → xg, getElem?_drop → vp, getElem?_eq_getElem → zt, getElem?_eq_none → yk, getElem?_map → zf, getElem?_set → rf, getElem?_set_ne → tx, length → wi, length_append → zx, length_cons → xy, length_map → zn, length_set → zh, length_singleton → vu, map_cons → vw, map_drop → oc, map_map → td, map_nil → ny, map_take → qz, replicate → zo, zipIdx_cons → pi
open Nat renaming add_assoc → qy, add_mul → wn, add_zero → za, beq → zi, blt → ye, div_eq_of_lt → ph, eq_of_beq_eq_true → zp, le_refl → zw, lt_irrefl → ua, lt_or_ge → vb, mul_comm → xn, mul_le_mul_right → uz, ne_of_beq_eq_false → xc, sub_zero → rq, zero_add → we, zero_mul → ro
open Option renaming map_some → yr
namespace Go.Vx
theorem ng {p:Prop} [Decidable p] (h:decide p=true):p:=of_decide_eq_true h
theorem nf {p:Prop} [Decidable p] (h:decide p=false):¬ p:=of_decide_eq_false h
end Go.Vx
set_option linter.unusedVariables false
set_option linter.unusedSimpArgs false
set_option linter.unusedSectionVars false
namespace Go.Vx
open Go
inductive SB where
 | t | f | tm (b:Bool)
def SB.val:SB→Bool
 | .t=>true
 | .f=>false
 | .tm b=>b
def SB.neg:SB→SB
 | .t=>.f
 | .f=>.t
 | .tm b=>.tm (!b)
def SB.lit:Bool→SB
 | true=>.t
 | false=>.f
def SB.must:SB→List Prop→List Prop
 | .t,l=>l
 | .f,l=>False :: l
 | .tm b,l=>(b=true) :: l
def SB.orNil (n m:Nat):SB→List Prop→List Prop
 | .t,l=>l
 | .f,l=>(n=0∧m=0) :: l
 | .tm b,l=>(b=false→n=0∧m=0) :: l
structure Ad where
 block:Nat
 base:Nat
 sz:Nat
 on:Bool
def Ad.at (d:Ad) (i f:Nat):Addr:=⟨d.block,d.base+(i*d.sz+f),none⟩
inductive SV where
 | junk
 | undef
 | int (k:IntKind) (n:Int)
 | bool (b:SB)
 | ptr (c i f:Nat)
 | nilp
 | sl (c i n m:Nat)
 | nils
 | agg (vs:List SV)
 | tup (vs:List SV)
 | ifc (t:Nat) (v:SV)
 | nili
 | fn (f:Fn) (first captured:List SV)
 | nilf
 | gp (g:Nat)
 | mp (c:Nat)
 | val (v:Value)
 | cnd (cs:List (Nat×Bool×Bool)) (v:SV)
def holds:List (Nat×Bool×Bool)→Bool
 | []=>true
 | (_,w,b) :: r=>(b == w) && holds r
mutual
def SV.va (ad:Nat→Ad):SV→Value
 | .junk=>Go.undef
 | .undef=>Go.undef
 | .int k n=>.int k n
 | .bool b=>.bool b.val
 | .ptr c i f=>.pointer (some ((ad c).at i f))
 | .nilp=>.pointer none
 | .sl c i n m=>.slice (bif (ad c).on then some ((ad c).at i 0) else none) n m
 | .nils=>.slice none 0 0
 | .agg vs=>.agg (SV.vas ad vs).toArray
 | .tup vs=>.tuple (SV.vas ad vs).toArray
 | .ifc t v=>.iface t (SV.va ad v)
 | .nili=>.nilIface
 | .fn f a b=>.func f (SV.vas ad a).toArray (SV.vas ad b).toArray
 | .nilf=>.nilFunc
 | .gp g=>.pointer (some ⟨g,0,none⟩)
 | .mp c=>.map (some (ad c).block)
 | .val v=>v
 | .cnd cs v=>if holds cs then SV.va ad v else Go.undef
def SV.vas (ad:Nat→Ad):List SV→List Value
 | []=>[]
 | v :: r=>SV.va ad v :: SV.vas ad r
end
mutual
def SV.lt (n:Nat):SV→Bool
 | .ptr c _ _=>ye c n
 | .sl c _ _ _=>ye c n
 | .mp c=>ye c n
 | .agg vs=>SV.lts n vs
 | .tup vs=>SV.lts n vs
 | .ifc _ v=>SV.lt n v
 | .fn _ a b=>SV.lts n a && SV.lts n b
 | .cnd _ v=>SV.lt n v
 | _=>true
def SV.lts (n:Nat):List SV→Bool
 | []=>true
 | v :: r=>SV.lt n v && SV.lts n r
end
mutual
theorem SV.va_congr {n:Nat} {ad ad':Nat→Ad} (h:∀ c,c<n→ad c=ad' c):∀ v:SV,SV.lt n v=true→SV.va ad v=SV.va ad' v
 | .junk,_ | .undef,_ | .int _ _,_ | .bool _,_ | .nilp,_ | .nils,_ | .nili,_ | .nilf,_ | .gp _,_ | .val _,_=>by simp [SV.va]
 | .ptr c i f,hv=>by simp [SV.lt] at hv;simp [SV.va,h c hv]
 | .sl c i f m,hv=>by simp [SV.lt] at hv;simp [SV.va,h c hv]
 | .mp c,hv=>by simp [SV.lt] at hv;simp [SV.va,h c hv]
 | .agg vs,hv=>by simp [SV.lt] at hv;simp [SV.va,SV.vas_congr h vs hv]
 | .tup vs,hv=>by simp [SV.lt] at hv;simp [SV.va,SV.vas_congr h vs hv]
 | .ifc t v,hv=>by simp [SV.lt] at hv;simp [SV.va,SV.va_congr h v hv]
 | .fn f a b,hv=>by simp [SV.lt] at hv;simp [SV.va,SV.vas_congr h a hv.1,SV.vas_congr h b hv.2]
 | .cnd cs v,hv=>by simp [SV.lt] at hv;simp [SV.va,SV.va_congr h v hv]
theorem SV.vas_congr {n:Nat} {ad ad':Nat→Ad} (h:∀ c,c<n→ad c=ad' c):∀ vs:List SV,SV.lts n vs=true→SV.vas ad vs=SV.vas ad' vs
 | [],_=>rfl
 | v :: r,hv=>by simp [SV.lts] at hv;simp [SV.vas,SV.va_congr h v hv.1,SV.vas_congr h r hv.2]
end
theorem SV.vas_eq (ad:Nat→Ad) (l:List SV):SV.vas ad l=l.map (SV.va ad):=by
 induction l with
 | nil=>rfl
 | cons v r ih=>simp [SV.vas,ih]
def SV.atom:Value→SV
 | .int k n=>.int k n
 | .bool b=>.bool (SB.lit b)
 | .pointer none=>.nilp
 | .slice none 0 0=>.nils
 | .nilFunc=>.nilf
 | .nilIface=>.nili
 | v=>.val v
def SV.ofValue:Value→SV
 | .agg cs=>.agg (cs.toList.map SV.atom)
 | v=>SV.atom v
theorem SB.val_lit (b:Bool):(SB.lit b).val=b:=by cases b <;> rfl
theorem SV.va_atom (ad:Nat→Ad) (v:Value):(SV.atom v).va ad=v:=by
 unfold SV.atom
 split <;> simp [SV.va,SB.val_lit]
theorem SV.va_ofValue (ad:Nat→Ad) (v:Value):(SV.ofValue v).va ad=v:=by
 cases v with
 | agg cs=>
   simp only [SV.ofValue,SV.va,SV.vas_eq,td]
   congr 1
   apply wd
   simp [Function.comp_def,SV.va_atom]
 | _=>simp only [SV.ofValue];exact SV.va_atom ad _
def SV.cell:SV→Bool
 | .int _ _ | .bool _ | .ptr _ _ _ | .nilp | .sl _ _ _ _ | .nils | .ifc _ _ | .nili | .fn _ _ _ | .nilf | .gp _ | .mp _=>true
 | .val (.agg _) | .val (.tuple _)=>false
 | .val _=>true
 | _=>false
structure Codec where
 α:Type
 dflt:α
 sz:Nat
 enc:α→List SV
 upd:α→Nat→SV→Option α
 len:∀ x,(enc x).length=sz
 cell:∀ x,∀ v∈enc x,SV.cell v=true
 flat:∀ x ad ad',(enc x).map (SV.va ad)=(enc x).map (SV.va ad')
 upd_ok:∀ ad x f v y,upd x f v=some y→(enc y).map (SV.va ad)=((enc x).map (SV.va ad)).set f (SV.va ad v)
 /-- What the package-level variable of that number holds; objects that are known to lie az they lay. -/
 gv:Option SV:=none
 gpins:List (Nat×Obj):=[]
 gflat:∀ v,gv=some v→∀ ad ad',SV.va ad v=SV.va ad' v:=by intro v h;cases h
 /-- Is it a struct or an array; when are two the same. -/
 agg:Bool:=false
 /-- All the cells at once. -/
 whole:List SV→Option α:=fun _=>none
 whole_ok:∀ ad vs y,whole vs=some y→(enc y).map (SV.va ad)=vs.map (SV.va ad):=by intro ad vs y h;cases h
 beq:α→α→Bool:=fun _ _=>false
 /-- Has it slices of its own: the blocks that they lie in, and what is known of these. -/
 deep:Bool:=false
 /-- Are these its own where its chunk may be written: nobody else knows them, and they may be written. -/
 own:Bool:=false
 blks:α→List Nat:=fun _=>[]
 good:World→α→Prop:=fun _ _=>True
 good_keep:∀ w w' x,(∀ b∈blks x,w'.heap[b]? = w.heap[b]?)→good w x→good w' x:=by intro _ _ _ _ _;trivial
 flat_deep:deep=false→∀ x,blks x=[]∧∀ w,good w x:=by intro _ _;exact ⟨rfl,fun _=>trivial⟩
 upd_deep:deep=true→∀ x f v,upd x f v=none:=by intro h;cases h
 whole_deep:deep=true→∀ vs,whole vs=none:=by intro h;cases h
 dflt_deep:blks dflt=[]∧∀ w,good w dflt:=by exact ⟨rfl,fun _=>trivial⟩
def FlatAt (c:Codec) (x:c.α):Prop:=c.blks x=[]∧∀ w,c.good w x
variable (C:Nat→Codec)
inductive Cells where
 | rows (t:Nat) (l:List (C t).α)
 | one (vs:List SV)
 | mp (tk tv:Nat) (l:List ((C tk).α×(C tv).α×Nat)) (clk:Nat)
 | it (mc:Nat) (seen:List Nat) (clk:Nat)
 | dead
structure Ck where
 block:Nat
 base:Nat
 sz:Nat
 wr:Bool
 gl:Option Bool
 cells:Cells C
variable {C}
def Ck.on (c:Ck C):Bool:=match c.gl with
 | none=>true
 | some b=>b
def Ck.ad (c:Ck C):Ad:=⟨c.block,c.base,c.sz,c.on⟩
def Ck.zero:Ck C:=⟨0,0,0,false,some false,.dead⟩
def nth (m:List (Ck C)) (c:Nat):Ck C:=match m,c with
 | [],_=>Ck.zero
 | x :: _,0=>x
 | _ :: r,c+1=>nth r c
def ads (m:List (Ck C)) (c:Nat):Ad:=(nth m c).ad
def noAd:Nat→Ad:=fun _=>⟨0,0,0,true⟩
def packV (c:Codec) (x:c.α):Value:=match c.agg with
 | true=>.agg (SV.vas noAd (c.enc x)).toArray
 | false=>((c.enc x).getD 0 .undef).va noAd
def mapObj {tk tv:Nat} (l:List ((C tk).α×(C tv).α×Nat)) (clk:Nat):Obj:=.map (l.map fun e=>⟨packV (C tk) e.1,packV (C tv) e.2.1,e.2.2⟩).toArray clk
def cellIs (ad:Nat→Ad) (w:World) (a:Addr):SV→Prop
 | .junk=>∃ v,w.cell? a=some v
 | v=>w.cell? a=some (v.va ad)
def Ck.ok (ad:Nat→Ad) (w:World) (c:Ck C):Prop:=
 match c.cells with
 | .rows t l=>c.sz=(C t).sz∧∀ i,i<l.length→∀ f,f<(C t).sz→w.cell? (c.ad.at i f)=some ((((C t).enc (l.getD i (C t).dflt)).getD f .junk).va ad)
 | .one vs=>(vs.length≤c.sz∨c.sz=1)∧∀ f,f<vs.length→cellIs ad w (c.ad.at 0 f) (vs.getD f .junk)
 | .mp _ _ l clk=>w.heap[c.block]? = some (mapObj l clk)
 | .it mc seen clk=>w.heap[c.block]? = some (.mapIter (some (ad mc).block) clk seen.toArray clk)
 | .dead=>True
def Ck.alive (c:Ck C):Bool:=match c.cells with | .dead=>false | _=>true
def Ck.live (c:Ck C):Bool:=c.alive && c.on
theorem Ck.live_iff {c:Ck C}:c.live=true↔c.alive=true∧c.on=true:=by simp [Ck.live]
def Ck.onB (c:Ck C):SB:=match c.gl with
 | none=>.t
 | some b=>.tm b
theorem Ck.on_onB (c:Ck C):c.on=c.onB.val:=by unfold Ck.on Ck.onB;split <;> rfl
def Ck.there (c:Ck C):List Prop:=match c.gl with
 | none=>[]
 | some b=>[b=true]
structure Sx where
 set:Nat→Prop
 pins:List (Nat×Obj)
 rd:Nat→Prop
structure Blk (S:Sx) (w0 w:World) (m:List (Ck C)) (o:Bool) (b:Nat):Prop where
 lt:b<w.heap.size
 old:b<w0.heap.size→S.set b∨(o=false∧S.rd b)
 no:∀ c∈m,c.wr=true→c.live=true→c.block≠b
 pin:∀ p∈S.pins,p.1≠b
theorem Blk.weak {S:Sx} {w0 w:World} {m:List (Ck C)} {o o':Bool} {b:Nat} (h:Blk S w0 w m o b) (ho:o'=true→o=true):Blk S w0 w m o' b:=by
 refine ⟨h.lt,fun hb => ?_,h.no,h.pin⟩
 rcases h.old hb with h1 | ⟨h1,h2⟩
 · exact .inl h1
 · refine .inr ⟨?_,h2⟩
   cases o' with
   | false=>rfl
   | true=>rw [ho rfl] at h1;cases h1
def Cells.Has (cs:Cells C) (t:Nat) (x:(C t).α):Prop:=(∃ l,cs=.rows t l∧x∈l)∨∃ tk l clk,cs=.mp tk t l clk∧∃ e∈l,e.2.1=x
theorem Cells.Has.rows {t:Nat} {l:List (C t).α} {x:(C t).α} (h:x∈l):(Cells.rows t l:Cells C).Has t x:=.inl ⟨l,rfl,h⟩
theorem Cells.Has.of_rows {c:Ck C} {t:Nat} {l:List (C t).α} {x:(C t).α} (he:c.cells=.rows t l) (h:x∈l):c.cells.Has t x:=.inl ⟨l,he,h⟩
theorem Cells.Has.of_mp {c:Ck C} {tk t:Nat} {l:List ((C tk).α×(C t).α×Nat)} {clk:Nat} {e:(C tk).α×(C t).α×Nat} (he:c.cells=.mp tk t l clk) (h:e∈l):c.cells.Has t e.2.1:=.inr ⟨tk,l,clk,he,e,h,rfl⟩
theorem Cells.Has.inv {t t':Nat} {l:List (C t).α} {x:(C t').α} (h:(Cells.rows t l:Cells C).Has t' x):∃ e:t=t',x∈(e ▸ l):=by
 rcases h with ⟨l',he,hx⟩ | ⟨_,_,_,he,_⟩
 · simp only [Cells.rows.injEq] at he
   obtain ⟨rfl,he⟩:=he
   exact ⟨rfl,by rw [eq_of_heq he];exact hx⟩
 · cases he
theorem Cells.Has.alive {c:Ck C} {t:Nat} {x:(C t).α} (h:c.cells.Has t x):c.alive=true:=by
 rcases h with ⟨l,h,_⟩ | ⟨_,_,_,h,_⟩ <;> simp [Ck.alive,h]
structure More (S:Sx) (w0 w:World) (m:List (Ck C)):Prop where
 gv:∀ g v,(C g).gv=some v→w.cell? ⟨g,0,none⟩=some (v.va noAd)∧g<w0.heap.size∧¬ S.set g
 gp:∀ g p,p∈(C g).gpins→w.heap[p.1]? = some p.2∧p.1<w0.heap.size∧¬ S.set p.1
 pin:∀ p∈S.pins,w.heap[p.1]? = some p.2∧w0.heap.size≤p.1∧∀ c∈m,c.live=true→c.block≠p.1
 nod:(S.pins.map (·.1)).Nodup
 deep:∀ c∈m,∀ t x,c.cells.Has t x→(C t).good w x∧∀ b∈(C t).blks x,Blk S w0 w m ((C t).own && c.wr) b
def OneOf (m:List (Ck C)) (wr:Bool) (t:Nat) (x:(C t).α):Prop:=(∃ c0∈m,c0.cells.Has t x∧((C t).own=true→wr=true→c0.wr=true))∨FlatAt (C t) x
def RowsOf (m:List (Ck C)) (wr:Bool) (t:Nat) (l:List (C t).α):Prop:=∀ x∈l,OneOf m wr t x
def CsIn (m:List (Ck C)) (wr:Bool) (cs:Cells C):Prop:=∀ t x,cs.Has t x→OneOf m wr t x
theorem RowsOf.of {m:List (Ck C)} {c:Ck C} (hc:c∈m) {wr:Bool} {t:Nat} {l l':List (C t).α} (h:c.cells=.rows t l) (ho:(C t).own=true→wr=true→c.wr=true) (hs:∀ x∈l',x∈l):RowsOf m wr t l':=fun x hx=>.inl ⟨c,hc,.of_rows h (hs x hx),ho⟩
theorem RowsOf.flat {m:List (Ck C)} {wr:Bool} {t:Nat} (h:(C t).deep=false) (l:List (C t).α):RowsOf m wr t l:=fun x _=>.inr ((C t).flat_deep h x)
theorem RowsOf.app {m:List (Ck C)} {wr:Bool} {t:Nat} {l l':List (C t).α} (h:RowsOf m wr t l) (h':RowsOf m wr t l'):RowsOf m wr t (l ++ l'):=by
 intro x hx
 rcases List.mem_append.1 hx with hx | hx
 · exact h x hx
 · exact h' x hx
theorem RowsOf.sub {m:List (Ck C)} {wr:Bool} {t:Nat} {l l':List (C t).α} (h:RowsOf m wr t l) (hs:∀ x∈l',x∈l):RowsOf m wr t l':=fun x hx=>h x (hs x hx)
theorem RowsOf.rep {m:List (Ck C)} {wr:Bool} {t:Nat} (n:Nat):RowsOf m wr t (zo n (C t).dflt):=by
 intro x hx
 rw [(List.mem_replicate.1 hx).2]
 exact .inr (C t).dflt_deep
theorem RowsOf.put {m:List (Ck C)} {wr:Bool} {t:Nat} {l:List (C t).α} (h:RowsOf m wr t l) {y:(C t).α} (hy:OneOf m wr t y) (i:Nat):RowsOf m wr t (l.set i y):=by
 intro x hx
 rcases List.mem_or_eq_of_mem_set hx with hx | rfl
 · exact h x hx
 · exact hy
theorem CsIn.rows {m:List (Ck C)} {wr:Bool} {t:Nat} {l:List (C t).α} (h:RowsOf m wr t l):CsIn m wr (.rows t l):=by
 intro t' x hx
 obtain ⟨rfl,hx⟩:=hx.inv
 exact h x hx
theorem CsIn.self {m:List (Ck C)} {c:Ck C} (hc:c∈m) {wr:Bool} (hw:wr=true→c.wr=true:=by exact id):CsIn m wr c.cells:=fun _ _ hx=>.inl ⟨c,hc,hx,fun _=>hw⟩
theorem CsIn.other {m:List (Ck C)} {wr:Bool} {cs:Cells C} (h:∀ t l,cs≠.rows t l) (h':∀ tk tv l clk,cs≠.mp tk tv l clk):CsIn m wr cs:=by
 intro t x hx
 rcases hx with ⟨l,he,_⟩ | ⟨tk,l,clk,he,_⟩
 · exact absurd he (h t l)
 · exact absurd he (h' tk t l clk)
theorem CsIn.mp {m:List (Ck C)} {wr:Bool} {tk tv:Nat} {l:List ((C tk).α×(C tv).α×Nat)} {clk:Nat} (h:∀ e∈l,OneOf m wr tv e.2.1):CsIn m wr (.mp tk tv l clk):=by
 intro t x hx
 rcases hx with ⟨l',he,_⟩ | ⟨tk',l',clk',he,e,he',rfl⟩
 · cases he
 · cases he
   exact h e he'
structure MemOK (S:Sx) (w0 w:World) (m:List (Ck C)):Prop where
 os:w.os=w0.os
 tape:w.tape=w0.tape∧w0.drawn≤w.drawn
 output:w.output=w0.output
 size:w0.heap.size≤w.heap.size
 keep:∀ k,k<w0.heap.size→¬ S.set k→w.heap[k]? = w0.heap[k]?
 inS:∀ c∈m,c.wr=true→c.on=true→c.block<w0.heap.size→S.set c.block
 ok:∀ c∈m,c.on=true→Ck.ok (ads m) w c
 wrok:∀ c∈m,c.wr=true→c.live=true→∀ a:Addr,a.block=c.block→w.frozen? a=false
 apart:∀ i j,i<m.length→j<m.length→i≠j→(nth m i).wr=true→(nth m i).live=true→(nth m j).live=true→(nth m i).block≠(nth m j).block
 lt:∀ c∈m,c.on=true→c.block<w.heap.size
 more:More S w0 w m
theorem heap_size_of {w:World} {k:Nat} {o:Obj} (h:w.heap[k]? = some o):k<w.heap.size:=(Array.getElem?_eq_some_iff.1 h).1
theorem More.mono' {S:Sx} {w0 w w':World} {m m':List (Ck C)} (h:More S w0 w m) (hin:∀ c∈m,c.wr=true→c.on=true→c.block<w0.heap.size→S.set c.block)
 (hh:∀ k,k<w.heap.size→(∀ c∈m,c.wr=true→c.live=true→c.block≠k)→w'.heap[k]? = w.heap[k]?)
 (hb:∀ c∈m',c.live=true→(∃ c0∈m,c0.live=true∧c0.block=c.block∧(c.wr=true→c0.wr=true))∨w.heap.size≤c.block) (hs:w0.heap.size≤w.heap.size)
 (hsz:w.heap.size≤w'.heap.size)
 (hd:∀ c∈m',∀ t x,c.cells.Has t x→(∃ c0∈m,c0.cells.Has t x∧((C t).own=true→c.wr=true→c0.wr=true))∨((C t).good w' x∧∀ b∈(C t).blks x,Blk S w0 w' m' ((C t).own && c.wr) b)):More S w0 w' m':=by
 have gs:∀ k,k<w0.heap.size→¬ S.set k→w'.heap[k]? = w.heap[k]? := by
  intro k hk hn
  refine hh k (by omega) fun c hc hw hl he => ?_
  subst he
  exact hn (hin c hc hw (Ck.live_iff.1 hl).2 hk)
 refine ⟨fun g v hv => ?_,fun g p hp => ?_,fun p hp => ?_,h.nod,fun c hc t x hx => ?_⟩
 · obtain ⟨h1,h2,h3⟩:=h.gv g v hv
   exact ⟨(World.cell?_of_block (w:=w) (a:=⟨g,0,none⟩) (gs g h2 h3)).trans h1,h2,h3⟩
 · obtain ⟨h1,h2,h3⟩:=h.gp g p hp
   exact ⟨(gs _ h2 h3).trans h1,h2,h3⟩
 · obtain ⟨h1,h2,h3⟩:=h.pin p hp
   refine ⟨(hh p.1 (heap_size_of h1) fun c hc _ hl=>h3 c hc hl).trans h1,h2,fun c hc hl => ?_⟩
   rcases hb c hc hl with ⟨c0,hc0,hl0,he,_⟩ | hlt
   · rw [← he];exact h3 c0 hc0 hl0
   · have:=heap_size_of h1;omega
 · rcases hd c hc t x hx with ⟨c0,hc0,hx0,hwr0⟩ | hfl
   · obtain ⟨g1,g2⟩:=h.deep c0 hc0 t x hx0
     refine ⟨(C t).good_keep w w' x (fun b hb'=>hh b (g2 b hb').lt (g2 b hb').no) g1,fun b hb' => ?_⟩
     have hB:=(g2 b hb').weak (o':=(C t).own && c.wr) (fun e=>by
      simp only [zq] at e ⊢
      exact ⟨e.1,hwr0 e.1 e.2⟩)
     refine ⟨Nat.lt_of_lt_of_le hB.lt hsz,hB.old,fun c1 hc1 hw1 hl1 => ?_,hB.pin⟩
     rcases hb c1 hc1 hl1 with ⟨c2,hc2,hl2,he,hw2⟩ | hlt
     · rw [← he];exact hB.no c2 hc2 (hw2 hw1) hl2
     · have:=hB.lt;omega
   · exact hfl
theorem More.mono {S:Sx} {w0 w w':World} {m m':List (Ck C)} (h:More S w0 w m) (hin:∀ c∈m,c.wr=true→c.on=true→c.block<w0.heap.size→S.set c.block)
 (hh:∀ k,k<w.heap.size→(∀ c∈m,c.wr=true→c.live=true→c.block≠k)→w'.heap[k]? = w.heap[k]?)
 (hb:∀ c∈m',c.live=true→(∃ c0∈m,c0.live=true∧c0.block=c.block∧(c.wr=true→c0.wr=true))∨w.heap.size≤c.block) (hs:w0.heap.size≤w.heap.size)
 (hsz:w.heap.size≤w'.heap.size) (hd:∀ c∈m',CsIn m c.wr c.cells):More S w0 w' m':=by
 refine h.mono' hin hh hb hs hsz fun c hc t x hx => ?_
 rcases hd c hc t x hx with h1 | hfl
 · exact .inl h1
 · refine .inr ⟨hfl.2 w',fun b hb' => ?_⟩
   rw [hfl.1] at hb';cases hb'
def inR (k:IntKind) (n:Int):Prop:=k.wrap n=n
def ibit (op:BinOp) (k:IntKind) (x y:Int):Int:=
 let a:=BitVec.ofInt k.bits x
 let b:=BitVec.ofInt k.bits y
 k.wrap (match op with
  | .and=>(a &&& b).toNat
  | .or=>(a ||| b).toNat
  | .xor=>(a ^^^ b).toNat
  | _=>(a &&& ~~~b).toNat:Nat)
def ishl (k:IntKind) (x y:Int):Int:=k.wrap (x*2 ^ (min y.toNat k.bits))
def ishr (k:IntKind) (x y:Int):Int:=x.fdiv (2 ^ (min y.toNat k.bits))
def srow (m l i:Nat):Nat:=if m=l then i else l+i
def sameKind:IntKind→IntKind→Bool
 | .i8,.i8 | .i16,.i16 | .i32,.i32 | .i64,.i64 | .u8,.u8 | .u16,.u16 | .u32,.u32 | .u64,.u64=>true
 | _,_=>false
theorem sameKind_eq {a b:IntKind} (h:sameKind a b=true):a=b:=by cases a <;> cases b <;> first | rfl | cases h
abbrev Ans:=Option (List Prop×SV)
def arith (op:BinOp) (k:IntKind) (x y:Int):Ans:=
 let r (n:Int):Ans:=if k.signed then some ([inR k n],.int k n) else some ([],.int k (k.wrap n))
 match op with
 | .add=>r (x+y)
 | .sub=>r (x - y)
 | .mul=>r (x*y)
 | .quo=>some ([y≠0,inR k (x.tdiv y)],.int k (x.tdiv y))
 | .rem=>some ([y≠0],.int k (x.tmod y))
 | .and=>some ([],.int k (ibit .and k x y))
 | .or=>some ([],.int k (ibit .or k x y))
 | .xor=>some ([],.int k (ibit .xor k x y))
 | .andNot=>some ([],.int k (ibit .andNot k x y))
 | .eql=>some ([],.bool (.tm (decide (x=y))))
 | .neq=>some ([],.bool (.tm (decide (x≠y))))
 | .lss=>some ([],.bool (.tm (decide (x<y))))
 | .leq=>some ([],.bool (.tm (decide (x≤y))))
 | .gtr=>some ([],.bool (.tm (decide (y<x))))
 | .geq=>some ([],.bool (.tm (decide (y≤x))))
 | _=>none
def isConst:Operand→Bool
 | .const _=>true
 | _=>false
def eqs (P:Program) (og:Nat→SB) (t:TypeId) (cst:Bool) (x y:SV):Option SB:=
 match P.underlying t with
 | some .bool=>match x,y with
   | .bool a,.bool b=>some (.tm (a.val == b.val))
   | _,_=>none
 | some (.pointer e)=>match x,y with
   | .nilp,.nilp=>some .t
   | .nilp,.ptr _ _ _ | .ptr _ _ _,.nilp | .nilp,.gp _ | .gp _,.nilp=>some .f
   | .ptr a 0 f,.ptr b 0 g=>match zi a b && (zi f g && ye 0 (P.cellsOf e)) with
     | true=>some .t
     | false=>none
   | _,_=>none
 | some (.slice _)=>match x,y with
   | .nils,.nils=>some .t
   | .nils,.sl c _ _ _ | .sl c _ _ _,.nils=>some (og c).neg
   | _,_=>none
 | some (.interface _)=>match x,y with
   | .nili,.nili=>if cst then some .t else none
   | .nili,.ifc _ _ | .ifc _ _,.nili=>some .f
   | _,_=>none
 | some (.func _ _ _)=>match x,y with
   | .nilf,.nilf=>some .t
   | .nilf,.fn _ _ _ | .fn _ _ _,.nilf=>some .f
   | _,_=>none
 | _=>none
def bin (P:Program) (og:Nat→SB) (op:BinOp) (t:TypeId) (cst:Bool) (x y:SV):Ans:=
 match x,y with
 | .int k a,.int k' b=>
   match op with
   | .shl=>some ([0≤b],.int k (ishl k a b))
   | .shr=>some ([0≤b],.int k (ishr k a b))
   | op=>if sameKind k k' then arith op k a b else none
 | x,y=>
   match op with
   | .eql=>(eqs P og t cst x y).map fun b=>([],.bool b)
   | .neq=>(eqs P og t cst x y).map fun b=>([],.bool b.neg)
   | _=>none
def SV.parts:SV→List SV
 | .agg vs=>vs
 | v=>[v]
def SV.plain:SV→Bool
 | .cnd _ _=>false
 | .val (.agg _)=>false
 | _=>true
def aggTy (P:Program) (t:TypeId):Option Bool:=
 match P.underlying t with
 | some (.struct _) | some (.array _ _)=>some true
 | some _=>some false
 | none=>none
def partOf (P:Program) (t:TypeId) (vs:List SV) (off:Nat):Option SV:=
 match aggTy P t with
 | some true=>if off+P.cellsOf t≤vs.length then some (.agg ((vs.drop off).take (P.cellsOf t))) else none
 | some false=>vs[off]?
 | none=>none
def setParts:List SV→Nat→List SV→List SV
 | vs,_,[]=>vs
 | vs,off,p :: ps=>setParts (vs.set off p) (off+1) ps
def fillParts (P:Program) (fs:Array Field):List SV→List (Nat×SV)→Option (List SV)
 | vs,[]=>some vs
 | vs,(i,p) :: r=>match fs[i]? with
   | none=>none
   | some fd=>if p.plain=true∧p.parts.length=P.cellsOf fd.type∧fd.offset+p.parts.length≤vs.length then fillParts P fs (setParts vs fd.offset p.parts) r else none
def optAll {α β:Type} (f:α→Option β):List α→Option (List β)
 | []=>some []
 | a :: r=>match f a,optAll f r with
   | some b,some s=>some (b :: s)
   | _,_=>none
def fieldsOk (P:Program) (fs:Array Field):Bool:=fs.toList.all fun fd=>(P.info? fd.type).isSome
def seqI:Nat→List (Nat×SV)→Option (List SV)
 | _,[]=>some []
 | k,(i,.int t n) :: r=>match zi i k,seqI (k+1) r with
   | true,some vs=>some (.int t n :: vs)
   | _,_=>none
 | _,_=>none
@[irreducible] def strI (s:ByteArray) (j:Int):Int:=(((s[j.toNat]?).getD 0).toNat:Int)
def pev (P:Program) (sz:Nat→Nat) (og:Nat→SB) (ev:Operand→Option SV) (o:Op):Ans:=
 match o with
 | .move x | .assign x=>(ev x).map fun v=>([],v)
 | .nilCheck x=>match ev x with
   | some (.ptr c i f)=>some ([],.ptr c i f)
   | some (.gp g)=>some ([],.gp g)
   | some (.fn (.func f) a b)=>some ([],.fn (.func f) a b)
   | _=>none
 | .binOp op t x y _=>match ev x,ev y with
   | some a,some b=>bin P og op t (isConst x || isConst y) a b
   | _,_=>none
 | .unOp .not _ x=>match ev x with
   | some (.bool b)=>some ([],.bool b.neg)
   | _=>none
 | .unOp .neg _ x=>match ev x with
   | some (.int k n)=>if k.signed then some ([inR k (0 - n)],.int k (0 - n)) else some ([],.int k (k.wrap (0 - n)))
   | _=>none
 | .unOp .xor _ x=>match ev x with
   | some (.int k n)=>some ([],.int k (ibit .xor k (if k.signed then -1 else k.max) n))
   | _=>none
 | .fieldAddr s x fld=>match P.underlying s,ev x with
   | some (.struct fs),some (.ptr c i f)=>match fs[fld]? with
     | some fd=>if P.cellsOf fd.type=0 then none else some ([],.ptr c i (f+fd.offset))
     | none=>none
   | _,_=>none
 | .field s x fld=>match P.underlying s,ev x with
   | some (.struct fs),some (.agg vs)=>match fs[fld]? with
     | some fd=>(partOf P fd.type vs fd.offset).map fun v=>([],v)
     | none=>none
   | _,_=>none
 | .indexAddr t x ix=>match P.underlying t,ev x,ev ix with
   | some (.slice e),some (.sl c i n _),some (.int _ j)=>if P.cellsOf e=sz c∧P.cellsOf e≠0 then some ((og c).must [0≤j,j<(n:Int)],.ptr c (j.toNat+i) 0) else none
   | some (.array n e),some (.ptr c i f),some (.int _ j)=>match P.underlying e,zi (sz c) 1 with
     | some (.int _),true=>if P.cellsOf e=1∧2≤n then some ([0≤j,j<(n:Int)],.ptr c (j.toNat+i) f) else none
     | some (.int _),false=>if P.cellsOf e=1∧2≤n then some ([0≤j,j<(n:Int)],.ptr c i (j.toNat+f)) else none
     | _,_=>none
   | _,_,_=>none
 | .index t x ix=>match P.underlying t,ev x,ev ix with
   | some .string,some (.val (.string s)),some (.int _ j)=>some ([0≤j,j<(s.size:Int)],.int .u8 (strI s j))
   | _,_,_=>none
 | .slice t x lo hi none=>match P.underlying t,ev x with
   | some (.slice e),some (.sl c i n m)=>
     if P.cellsOf e=sz c∧P.cellsOf e≠0 then
      match lo,hi with
      | none,none=>some ((og c).orNil n m [],.sl c i n m)
      | none,some h=>match ev h with
        | some (.int _ h)=>some ((og c).orNil n m [0≤h,h≤(m:Int)],.sl c i h.toNat m)
        | _=>none
      | some l,none=>match ev l with
        | some (.int _ l)=>some ((og c).orNil n m [0≤l,l≤(n:Int)],.sl c (srow m l.toNat i) (n - l.toNat) (m - l.toNat))
        | _=>none
      | some l,some h=>match ev l,ev h with
        | some (.int _ l),some (.int _ h)=>some ((og c).orNil n m [0≤h,h≤(m:Int),0≤l,l≤h],.sl c (srow m l.toNat i) (h.toNat - l.toNat) (m - l.toNat))
        | _,_=>none
     else none
   | some (.slice e),some .nils=>
     if P.cellsOf e≠0 then
      match lo,hi with
      | none,none=>some ([],.nils)
      | none,some h=>match ev h with
        | some (.int _ h)=>some ([h=0],.nils)
        | _=>none
      | some l,none=>match ev l with
        | some (.int _ l)=>some ([l=0],.nils)
        | _=>none
      | some l,some h=>match ev l,ev h with
        | some (.int _ l),some (.int _ h)=>some ([h=0,l=0],.nils)
        | _,_=>none
     else none
   | _,_=>none
 | .slice t x none (some h) (some mx)=>match P.underlying t,ev x,ev h,ev mx with
   | some (.slice e),some (.sl c i n m),some (.int _ h),some (.int _ q)=>
     if P.cellsOf e=sz c∧P.cellsOf e≠0 then some ((og c).orNil n m [0≤q,q≤(m:Int),0≤h,h≤q],.sl c i h.toNat q.toNat) else none
   | some (.slice e),some .nils,some (.int _ h),some (.int _ q)=>if P.cellsOf e≠0 then some ([h=0,q=0],.nils) else none
   | _,_,_,_=>none
 | .makeInterface t x=>match P.underlying t,ev x with
   | some (.interface _),_=>none
   | some _,some v=>some ([],.ifc t v)
   | _,_=>none
 | .makeFunc fn a b=>match optAll ev a.toList,optAll ev b.toList with
   | some a,some b=>some ([],.fn fn a b)
   | _,_=>none
 | .extract x i=>match ev x with
   | some (.tup vs)=>vs[i]?.map fun v=>([],v)
   | _=>none
 | .typeAssert x _ t ok=>match P.underlying t,ev x with
   | some (.interface _),_=>none
   | some _,some (.ifc u v)=>if u=t then some ([],if ok then .tup [v,.bool .t] else v) else
     if ok then (P.info? t).bind fun i=>i.zero.map fun z=>([],.tup [SV.ofValue z,.bool .f]) else none
   | some _,some .nili=>if ok then (P.info? t).bind fun i=>i.zero.map fun z=>([],.tup [SV.ofValue z,.bool .f]) else none
   | _,_=>none
 | .convert s d x=>match P.underlying s,P.underlying d,ev x with
   | some _,some (.int k),some (.int _ n)=>if k.signed then some ([inR k n],.int k n) else some ([],.int k (k.wrap n))
   | _,_,_=>none
 | .build t ps=>match P.underlying t,P.info? t,optAll (fun (p:Nat×Operand)=>(ev p.2).map fun v=>(p.1,v)) ps.toList with
   | some (.struct fs),some i,some qs=>match i.zero with
     | some (.agg z)=>if fieldsOk P fs then (fillParts P fs (z.toList.map SV.atom) qs).map fun vs=>([],.agg vs) else none
     | _=>none
   | some (.array n e),some i,some qs=>match i.zero,seqI 0 qs with
     | some (.agg z),some vs=>if P.cellsOf e=1∧vs.length=n∧z.size=n then some ([],.agg vs) else none
     | _,_=>none
   | _,_,_=>none
 | .call c=>match c.callee with
   | .builtin .len=>match c.argTypes[0]?,c.args[0]? with
     | some t,some x=>match P.underlying t,ev x with
       | some (.slice _),some (.sl _ _ n _)=>some ([],.int .i64 (n:Int))
       | some (.slice _),some .nils=>some ([],.int .i64 0)
       | some (.slice _),some (.val (.slice _ n _))=>some ([],.int .i64 (n:Int))
       | _,_=>none
     | _,_=>none
   | .builtin .cap=>match c.argTypes[0]?,c.args[0]? with
     | some t,some x=>match P.underlying t,ev x with
       | some (.slice _),some (.sl _ _ _ m)=>some ([],.int .i64 (m:Int))
       | some (.slice _),some .nils=>some ([],.int .i64 0)
       | _,_=>none
     | _,_=>none
   | .builtin .min=>match c.args.toList with
     | [x,y]=>match ev x,ev y with
       | some (.int k a),some (.int k' b)=>if sameKind k k' then some ([],.int k (min a b)) else none
       | _,_=>none
     | _=>none
   | .builtin .max=>match c.args.toList with
     | [x,y]=>match ev x,ev y with
       | some (.int k a),some (.int k' b)=>if sameKind k k' then some ([],.int k (max a b)) else none
       | _,_=>none
     | _=>none
   | _=>none
 | _=>none
end Go.Vx
namespace Go.Vx
open Go
theorem run_underlying' {P:Program} {t:TypeId} {d:TypeDesc} (h:P.underlying t=some d) (w:World):(underlying t).run P w=.ok d w:=by
 simp [underlying,h]
theorem run_sizeOf' {P:Program} {t:TypeId} {d:TypeDesc} (h:P.underlying t=some d) (w:World):(sizeOf t).run P w=.ok (P.cellsOf t) w:=by
 have:∃ i,P.info? t=some i:=by
  cases hi:P.info? t with
  | some i=>exact ⟨i,rfl⟩
  | none=>simp [Program.underlying,hi] at h
 obtain ⟨i,hi⟩:=this
 simp [sizeOf,typeInfo,hi,Program.cellsOf]
theorem run_sizeOf0 {P:Program} {t:TypeId} (h:P.cellsOf t≠0) (w:World):(sizeOf t).run P w=.ok (P.cellsOf t) w:=by
 have:∃ i,P.info? t=some i:=by
  cases hi:P.info? t with
  | some i=>exact ⟨i,rfl⟩
  | none=>simp [Program.cellsOf,hi] at h
 obtain ⟨i,hi⟩:=this
 simp [sizeOf,typeInfo,hi,Program.cellsOf]
def allOf:List Prop→Prop
 | []=>True
 | p :: r=>p∧allOf r
inductive Tr:Type 1 where
 | yes
 | no
 | lf (p:Prop)
 | and (a b:Tr)
 | imp (p:Prop) (a:Tr)
 | all {α:Type} (f:α→Tr)
def Tr.holds:Tr→Prop
 | .yes=>True
 | .no=>False
 | .lf p=>p
 | .and a b=>a.holds∧b.holds
 | .imp p a=>p→a.holds
 | .all f=>∀ x,(f x).holds
instance:CoeSort Tr Prop:=⟨Tr.holds⟩
def allLf:List Prop→Tr
 | []=>.yes
 | [p]=>.lf p
 | p :: r=>.and (.lf p) (allLf r)
theorem allLf_ok:∀ {l:List Prop},allLf l→allOf l
 | [],_=>trivial
 | [_],h=>⟨h,trivial⟩
 | _ :: _ :: _,h=>⟨h.1,allLf_ok h.2⟩
theorem Ad.at_add (d:Ad) (i f n:Nat):(d.at i f).add n=d.at i (f+n):=by
 unfold Addr.add Ad.at
 split
 · rename_i h;subst h;rfl
 · simp;omega
theorem Ad.at_row (d:Ad) (i j:Nat):(d.at i 0).add (j*d.sz)=d.at (j+i) 0:=by
 unfold Addr.add Ad.at
 split
 · rename_i h
   rcases Nat.mul_eq_zero.1 h with h | h
   · subst h;simp
   · simp [h]
 · simp [wn];omega
theorem arith_ok {P:Program} {op:BinOp} {k:IntKind} {x y:Int} {ps:List Prop} {r:SV} (h:arith op k x y=some (ps,r)) (hp:allOf ps) (ad:Nat→Ad) (w:World) (t:TypeId)
 (hs:op≠.shl) (hs':op≠.shr):(binOp op t (.int k x) (.int k y)).run P w=.ok (r.va ad) w:=by
 cases op <;> simp only [arith] at h <;> try contradiction
 case add=>split at h <;> (simp at h;obtain ⟨rfl,rfl⟩:=h) <;> simp_all [binOp,Op.intArith,SV.va,allOf,inR]
 case sub=>split at h <;> (simp at h;obtain ⟨rfl,rfl⟩:=h) <;> simp_all [binOp,Op.intArith,SV.va,allOf,inR]
 case mul=>split at h <;> (simp at h;obtain ⟨rfl,rfl⟩:=h) <;> simp_all [binOp,Op.intArith,SV.va,allOf,inR]
 case quo=>simp at h;obtain ⟨rfl,rfl⟩:=h;simp [allOf,inR] at hp;simp [binOp,Op.intDiv,SV.va,hp]
 case rem=>simp at h;obtain ⟨rfl,rfl⟩:=h;simp [allOf] at hp;simp [binOp,Op.intDiv,SV.va,hp]
 case and=>simp at h;obtain ⟨rfl,rfl⟩:=h;simp [binOp,Op.intBits,SV.va,ibit]
 case or=>simp at h;obtain ⟨rfl,rfl⟩:=h;simp [binOp,Op.intBits,SV.va,ibit]
 case xor=>simp at h;obtain ⟨rfl,rfl⟩:=h;simp [binOp,Op.intBits,SV.va,ibit]
 case andNot=>simp at h;obtain ⟨rfl,rfl⟩:=h;simp [binOp,Op.intBits,SV.va,ibit]
 case eql=>simp at h;obtain ⟨rfl,rfl⟩:=h;simp [binOp,Op.intCmp,SV.va,SB.val];rfl
 case neq=>simp at h;obtain ⟨rfl,rfl⟩:=h;simp [binOp,Op.intCmp,SV.va,SB.val,bne];rfl
 case lss=>simp at h;obtain ⟨rfl,rfl⟩:=h;simp [binOp,Op.intCmp,SV.va,SB.val]
 case leq=>simp at h;obtain ⟨rfl,rfl⟩:=h;simp [binOp,Op.intCmp,SV.va,SB.val]
 case gtr=>simp at h;obtain ⟨rfl,rfl⟩:=h;simp [binOp,Op.intCmp,SV.va,SB.val]
 case geq=>simp at h;obtain ⟨rfl,rfl⟩:=h;simp [binOp,Op.intCmp,SV.va,SB.val]
theorem allOf_append:∀ (p q:List Prop),allOf (p ++ q)↔allOf p∧allOf q
 | [],q=>by simp [allOf]
 | a :: p,q=>by simp [allOf,allOf_append p q,and_assoc]
theorem Ck.there_ok {C:Nat→Codec} {c:Ck C} (h:allOf c.there):c.on=true:=by
 unfold Ck.there at h
 unfold Ck.on
 split at h
 · rfl
 · exact h.1
theorem SB.val_neg (s:SB):s.neg.val=!s.val:=by cases s <;> rfl
theorem SB.must_ok {s:SB} {l:List Prop} (h:allOf (s.must l)):s.val=true∧allOf l:=by
 cases s
 · exact ⟨rfl,h⟩
 · exact h.1.elim
 · exact h
theorem SB.orNil_ok {n m:Nat} {s:SB} {l:List Prop} (h:allOf (s.orNil n m l)):(s.val=true∨(s.val=false∧n=0∧m=0))∧allOf l:=by
 cases s with
 | t=>exact ⟨.inl rfl,h⟩
 | f=>exact ⟨.inr ⟨rfl,h.1⟩,h.2⟩
 | tm b=>
   refine ⟨?_,h.2⟩
   cases b with
   | true=>exact .inl rfl
   | false=>exact .inr ⟨rfl,h.1 rfl⟩
theorem eqs_ok' {P:Program} {og:Nat→SB} {t:TypeId} {cst:Bool} {x y:SV} {b:SB} (h:eqs P og t cst x y=some b) {ad:Nat→Ad} (hog:∀ c,(ad c).on=(og c).val) (w:World) (d:Nat):
 (Op.equalIn (d+1) t (x.va ad) (y.va ad)).run P w=.ok b.val w:=by
 unfold eqs at h
 split at h <;> try contradiction
 all_goals
  rename_i hu
  split at h <;> first | contradiction | (simp at h;subst h) | (split at h <;> first | contradiction | (simp at h;subst h))
  all_goals first
   | (rename_i a f c i n m
      have h1:=zp (Bool.and_eq_true_iff.1 m).1
      have h2:=zp (Bool.and_eq_true_iff.1 (Bool.and_eq_true_iff.1 m).2).1
      have h3:=(Bool.and_eq_true_iff.1 (Bool.and_eq_true_iff.1 m).2).2
      rw [Nat.blt_eq] at h3
      subst h1 h2
      have h4:=Nat.ne_of_gt h3
      simp only [Op.equalIn,Sem.run_bind,run_underlying' hu,Result.andThen_ok,SV.va,run_sizeOf0 h4]
      rw [if_pos h4]
      simp [sameAddr,SB.val];done)
   | (simp [Op.equalIn,run_underlying' hu,SV.va,SB.val];done)
   | (rename_i c i n m
      rw [SB.val_neg,← hog]
      cases hc:(ad c).on <;> simp [Op.equalIn,run_underlying' hu,SV.va,hc])
theorem eqs_ok {P:Program} {og:Nat→SB} {t:TypeId} {cst:Bool} {x y:SV} {b:SB} (h:eqs P og t cst x y=some b) {ad:Nat→Ad} (hog:∀ c,(ad c).on=(og c).val) (w:World):
 (Op.equal t (x.va ad) (y.va ad)).run P w=.ok b.val w:=eqs_ok' h hog w 9999
theorem eqs_guard {P:Program} {og:Nat→SB} {t:TypeId} {x y:Operand} {a b:SV} {s:SB} (h:eqs P og t (isConst x || isConst y) a b=some s) (ad:Nat→Ad) (w:World) (op:BinOp):
 (eqGuard op t x y (a.va ad) (b.va ad)).run P w=.ok () w:=by
 unfold eqs at h
 unfold eqGuard
 split at h <;> try contradiction
 all_goals
  split at h <;> first | contradiction | (simp at h;subst h) | (split at h <;> first | contradiction | (simp at h;subst h))
  all_goals (cases x <;> cases y <;> simp_all [SV.va,isConst] <;> (split <;> simp_all))
theorem bin_ok {P:Program} {og:Nat→SB} {op:BinOp} {t:TypeId} {x y:Operand} {a b:SV} {ps:List Prop} {r:SV} (h:bin P og op t (isConst x || isConst y) a b=some (ps,r)) (hp:allOf ps) {ad:Nat→Ad} (hog:∀ c,(ad c).on=(og c).val) (w:World):
 (do eqGuard op t x y (a.va ad) (b.va ad);binOp op t (a.va ad) (b.va ad):Sem Value).run P w=.ok (r.va ad) w:=by
 unfold bin at h
 split at h
 · rename_i k n k' m
   have hg:(eqGuard op t x y ((SV.int k n).va ad) ((SV.int k' m).va ad)).run P w=.ok () w:=by
    simp only [eqGuard,SV.va];split <;> simp
   simp only [Sem.run_bind,hg,Result.andThen_ok]
   split at h
   · simp at h;obtain ⟨rfl,rfl⟩:=h;simp [allOf] at hp
     have:¬ m<0:=by omega
     simp [binOp,Op.shift,SV.va,ishl,this]
   · simp at h;obtain ⟨rfl,rfl⟩:=h;simp [allOf] at hp
     have:¬ m<0:=by omega
     simp [binOp,Op.shift,SV.va,ishr,this]
   · rename_i h1 h2
     split at h
     · rename_i hk;have:=sameKind_eq hk;subst this;exact arith_ok h hp ad w t h1 h2
     · cases h
 · rename_i x' y' hni
   split at h
   · cases he:eqs P og t (isConst x || isConst y) a b with
     | none=>simp [he] at h
     | some s=>
       simp [he] at h;obtain ⟨rfl,rfl⟩:=h
       have h1:=eqs_guard he ad w .eql
       have h2:=eqs_ok he hog w
       simp only [Sem.run_bind,h1,Result.andThen_ok]
       have:binOp .eql t (a.va ad) (b.va ad)=(do pure (.bool (← Op.equal t (a.va ad) (b.va ad)))):=by
        unfold eqs at he
        split at he <;> try contradiction
        all_goals
         split at he <;> first | contradiction | rfl
       rw [this];simp [h2,SV.va]
   · cases he:eqs P og t (isConst x || isConst y) a b with
     | none=>simp [he] at h
     | some s=>
       simp [he] at h;obtain ⟨rfl,rfl⟩:=h
       have h1:=eqs_guard he ad w .neq
       have h2:=eqs_ok he hog w
       simp only [Sem.run_bind,h1,Result.andThen_ok]
       have:binOp .neq t (a.va ad) (b.va ad)=(do pure (.bool (!(← Op.equal t (a.va ad) (b.va ad))))):=by
        unfold eqs at he
        split at he <;> try contradiction
        all_goals
         split at he <;> first | contradiction | rfl
       rw [this];cases s <;> simp [h2,SV.va,SB.neg,SB.val]
   · cases h
end Go.Vx
namespace Go.Vx
open Go
theorem aggTy_ok {P:Program} {t:TypeId} {b:Bool} (h:aggTy P t=some b) (w:World):(isAgg t).run P w=.ok b w:=by
 unfold aggTy at h
 split at h
 · rename_i hu;simp at h;subst h;simp [isAgg,run_underlying' hu]
 · rename_i hu;simp at h;subst h;simp [isAgg,run_underlying' hu]
 · rename_i d hns hna hu
   simp at h;subst h
   cases d <;> simp_all [isAgg,run_underlying' hu]
 · cases h
theorem aggTy_size {P:Program} {t:TypeId} {b:Bool} (h:aggTy P t=some b) (w:World):(sizeOf t).run P w=.ok (P.cellsOf t) w:=by
 unfold aggTy at h
 split at h
 · rename_i hu;exact run_sizeOf' hu w
 · rename_i hu;exact run_sizeOf' hu w
 · rename_i hu;exact run_sizeOf' hu w
 · cases h
theorem partOf_ok {P:Program} {t:TypeId} {vs:List SV} {off:Nat} {v:SV} (h:partOf P t vs off=some v) (ad:Nat→Ad) (w:World):
 (part t (SV.vas ad vs).toArray off).run P w=.ok (v.va ad) w:=by
 unfold partOf at h
 split at h
 · rename_i ha
   split at h
   · simp at h;subst h
     simp [part,aggTy_ok ha,aggTy_size ha,SV.va,SV.vas_eq,qz,oc]
     try omega
   · cases h
 · rename_i ha
   simp [part,aggTy_ok ha,SV.vas_eq,h]
 · cases h
theorem optAll_ok {α β:Type} {f:α→Option β} {g:β→Value} {ρ:α→Value} (hf:∀ a b,f a=some b→ρ a=g b):∀ {l:List α} {s:List β},optAll f l=some s→l.map ρ=s.map g
 | [],s,h=>by simp [optAll] at h;subst h;rfl
 | a :: r,s,h=>by
   simp only [optAll] at h
   split at h
   · rename_i b t hb ht
     simp at h;subst h
     simp [hf _ _ hb,optAll_ok hf ht]
   · cases h
theorem vas_set (ad:Nat→Ad) (vs:List SV) (i:Nat) (v:SV):SV.vas ad (vs.set i v)=(SV.vas ad vs).set i (v.va ad):=by
 simp [SV.vas_eq,List.map_set]
theorem setParts_ok (ad:Nat→Ad):∀ (ps vs:List SV) (off:Nat),
 (SV.vas ad (setParts vs off ps))=((ps.map (SV.va ad)).zipIdx.foldl (fun cs (c,j)=>cs.set (off+j) c) (SV.vas ad vs))
 | [],vs,off=>by simp [setParts]
 | p :: ps,vs,off=>by
   have gen:∀ (l:List Value) (k:Nat) (cs:List Value),(l.zipIdx (k+1)).foldl (fun cs (c,j)=>cs.set (off+j) c) cs=(l.zipIdx k).foldl (fun cs (c,j)=>cs.set (off+1+j) c) cs:=by
    intro l
    induction l with
    | nil=>intro k cs;rfl
    | cons a l ih=>intro k cs;simp only [pi,ut];rw [ih,show off+(k+1)=off+1+k by omega]
   rw [setParts,setParts_ok ad ps,vas_set]
   simp only [vw,pi,ut,za,we]
   exact (gen _ 0 _).symm
theorem foldl_arr:∀ (l:List (Value×Nat)) (off:Nat) (cs:List Value),(l.foldl (fun (cs:Array Value) (c,j)=>cs.setIfInBounds (off+j) c) cs.toArray)=(l.foldl (fun cs (c,j)=>cs.set (off+j) c) cs).toArray
 | [],_,_=>rfl
 | (c,j) :: l,off,cs=>by simp only [ut,List.setIfInBounds_toArray];exact foldl_arr l off _
theorem SV.plain_cells (ad:Nat→Ad) {v:SV} (h:v.plain=true):(v.va ad).cells=(SV.vas ad v.parts).toArray:=by
 cases v <;> simp only [SV.parts,SV.va,Value.cells,SV.vas]
 case junk=>rfl
 case undef=>rfl
 case val x=>cases x <;> first | rfl | cases h
 case cnd cs x=>cases h
theorem fillParts_ok {P:Program} {fs:Array Field} (ad:Nat→Ad) (pl:Nat→Option (Nat×Nat)) (hpl:∀ i fd,fs[i]? = some fd→pl i=some (fd.offset,P.cellsOf fd.type)):
 ∀ (qs:List (Nat×SV)) (vs out:List SV),fillParts P fs vs qs=some out→Instr.fill pl (SV.vas ad vs).toArray (qs.map fun p=>(p.1,p.2.va ad))=some (SV.vas ad out).toArray
 | [],vs,out,h=>by simp [fillParts] at h;subst h;simp [Instr.fill]
 | (i,p) :: r,vs,out,h=>by
   simp only [fillParts] at h
   split at h
   · cases h
   · rename_i fd hfd
     split at h
     · rename_i hc
       obtain ⟨hpl',hl,hb⟩:=hc
       have ih:=fillParts_ok ad pl hpl r _ out h
       simp only [vw,Instr.fill,hpl i fd hfd]
       rw [SV.plain_cells ad hpl']
       have e1:(SV.vas ad p.parts).toArray.size=P.cellsOf fd.type:=by simp [SV.vas_eq,hl]
       have e2:(SV.vas ad vs).toArray.size=vs.length:=by simp [SV.vas_eq]
       rw [if_neg (by simp only [e1,e2];simp;omega)]
       rw [← ih,setParts_ok,← foldl_arr]
       congr 1
       rw [← qg]
       simp [SV.vas_eq]
     · cases h
end Go.Vx
namespace Go.Vx
open Go
theorem mapM_places {P:Program} (w:World):∀ (fs:List Field) ,(∀ fd∈fs,∃ i,P.info? fd.type=some i)→
 (fs.mapM fun f=>do pure (f.offset,← sizeOf f.type):Sem (List (Nat×Nat))).run P w=.ok (fs.map fun fd=>(fd.offset,P.cellsOf fd.type)) w
 | [],_=>by simp
 | f :: r,h=>by
   have ih:=mapM_places w r (fun fd hfd=>h fd (by simp [hfd]))
   obtain ⟨i,hi⟩:=h f (by simp)
   have hs:(sizeOf f.type).run P w=.ok (P.cellsOf f.type) w:=by simp [sizeOf,typeInfo,hi,Program.cellsOf]
   simp only [List.mapM_cons,Sem.run_bind,hs,Result.andThen_ok,Sem.run_pure,vw]
   rw [ih];rfl
theorem build_ok {P:Program} {t:TypeId} {fs:Array Field} {i:TypeInfo} {z:Array Value} (hu:P.underlying t=some (.struct fs)) (hi:P.info? t=some i) (hz:i.zero=some (.agg z))
 (hf:fieldsOk P fs=true) (ad:Nat→Ad) {qs:List (Nat×SV)} {out:List SV} (h:fillParts P fs (z.toList.map SV.atom) qs=some out) (w:World) (ps:Array (Nat×Value))
 (hps:ps.toList=qs.map fun p=>(p.1,p.2.va ad)):(Instr.build t ps).run P w=.ok (.agg (SV.vas ad out).toArray) w:=by
 have hf':∀ fd∈fs.toList,∃ i,P.info? fd.type=some i:=by
  intro fd hfd
  have:=List.all_eq_true.1 hf fd hfd
  exact Option.isSome_iff_exists.1 this
 have hm:(fs.mapM fun f=>do pure (f.offset,← sizeOf f.type):Sem (Array (Nat×Nat))).run P w=.ok (fs.toList.map fun fd=>(fd.offset,P.cellsOf fd.type)).toArray w:=by
  have:=mapM_places (P:=P) w fs.toList hf'
  rw [← Array.toArray_toList (xs:=fs),List.mapM_toArray]
  simp only [Sem.run_map,this,Result.andThen_ok]
 have hfill:=fillParts_ok (P:=P) (fs:=fs) ad (fun k=>((fs.toList.map fun fd=>(fd.offset,P.cellsOf fd.type)).toArray)[k]?) (by intro i fd hfd;simp [hfd]) qs _ out h
 have hzz:(SV.vas ad (z.toList.map SV.atom)).toArray=z:=by
  apply wd
  simp [SV.vas_eq,td,Function.comp_def,SV.va_atom]
 rw [hzz] at hfill
 unfold Instr.build
 simp only [Sem.run_bind,zeroValue,typeInfo,run_program,Result.andThen_ok,hi,hz,Sem.run_pure,run_underlying' hu,hm,Value.cells,hps,hfill]
set_option maxHeartbeats 1600000 in
theorem fill_seqI {ad:Nat→Ad}:∀ (qs:List (Nat×SV)) (k:Nat) (vs:List SV) (arr:Array Value),seqI k qs=some vs→k+vs.length≤arr.size→
 ∃ arr',Instr.fill (fun i=>some (i*1,1)) arr (qs.map fun p=>(p.1,p.2.va ad))=some arr'∧arr'.size=arr.size∧∀ j:Nat,arr'[j]? = if k≤j∧j<k+vs.length then (vs.map (SV.va ad))[j - k]? else arr[j]?
 | [],k,vs,arr,h,_=>by
   simp only [seqI,Option.some.injEq] at h
   subst h
   exact ⟨arr,rfl,rfl,fun j=>by rw [if_neg (by simp only [List.length_nil];omega)]⟩
 | (i,v) :: r,k,vs,arr,h,hs=>by
   cases v <;> simp only [seqI] at h <;> try contradiction
   rename_i t n
   split at h <;> try contradiction
   rename_i us hik hr
   simp only [Option.some.injEq] at h
   subst h
   have hik:=zp hik
   subst hik
   simp only [xy] at hs
   obtain ⟨arr',h1,h2,h3⟩:=fill_seqI (ad:=ad) r (i+1) us (arr.setIfInBounds i ((SV.int t n).va ad)) hr (by simp;omega)
   refine ⟨arr',?_,by rw [h2];simp,fun j => ?_⟩
   · have hc:((SV.int t n).va ad).cells = #[(SV.int t n).va ad]:=by simp [SV.va,Value.cells]
     simp only [vw,Instr.fill,hc]
     rw [if_neg (by simp;omega)]
     simpa using h1
   · rw [h3]
     by_cases hj:j=i
     · subst hj
       rw [if_neg (by omega),if_pos (by simp only [xy];omega)]
       simp [Array.getElem?_setIfInBounds_self_of_lt (show j<arr.size by omega)]
     · rw [sx (Ne.symm hj)]
       by_cases h4:i+1≤j∧j<i+1+us.length
       · rw [if_pos h4,if_pos (by simp only [xy];omega),show j - i=(j - (i+1))+1 by omega]
         simp
       · rw [if_neg h4,if_neg (by simp only [xy];omega)]
theorem parts_map {ev:Operand→Option SV} {ad:Nat→Ad} {ρ:Operand→Value} (hev:∀ x v,ev x=some v→ρ x=v.va ad) {parts:Array (Nat×Operand)} {qs:List (Nat×SV)}
 (hq:optAll (fun (p:Nat×Operand)=>(ev p.2).map fun v=>(p.1,v)) parts.toList=some qs):(parts.map fun p=>(p.1,ρ p.2)).toList=qs.map fun p=>(p.1,p.2.va ad):=by
 simp only [qx]
 generalize parts.toList=l at hq
 induction l generalizing qs with
 | nil=>simp [optAll] at hq;subst hq;rfl
 | cons a l ih=>
   simp only [optAll] at hq
   split at hq <;> try contradiction
   rename_i b s hb hs
   simp at hq;subst hq
   cases hea:ev a.2 with
   | none=>simp [hea] at hb
   | some v=>simp [hea] at hb;subst hb;simp [hev _ _ hea,ih hs]
theorem build_arr {P:Program} {ad:Nat→Ad} {ρ:Operand→Value} {t:TypeId} {parts:Array (Nat×Operand)} {n:Nat} {e:TypeId} {i:TypeInfo} {qs:List (Nat×SV)} {z:Array Value} {vs:List SV} (hu:P.underlying t=some (.array n e)) (hi:P.info? t=some i)
 (hz:i.zero=some (.agg z)) (hsq:seqI 0 qs=some vs) (hc:P.cellsOf e=1∧vs.length=n∧z.size=n) (hm:(parts.map fun p=>(p.1,ρ p.2)).toList=qs.map fun p=>(p.1,p.2.va ad)) (w:World)
 {dst:Option Tmp} {ty:TypeId} {pos:String} {after:Array Edge} {g:Option (Nat×Bool)}:(execOp ρ ⟨dst,.build t parts,ty,pos,after,g⟩).run P w=.ok (.value ((SV.agg vs).va ad)) w:=by
 obtain ⟨h1,h2,h3⟩:=hc
 obtain ⟨arr',f1,f2,f3⟩:=fill_seqI (ad:=ad) qs 0 vs z hsq (by omega)
 have hl2:arr'=(SV.vas ad vs).toArray:=by
  apply wd
  rw [SV.vas_eq]
  refine List.ext_getElem? fun j => ?_
  rw [vh (xs:=arr'),f3]
  by_cases hj:j<vs.length
  · rw [if_pos (by omega)];rfl
  · rw [if_neg (by omega),wj (by omega),yk (by simp;omega)]
 rw [← hm] at f1
 have hsz':=run_sizeOf0 (P:=P) (t:=e) (by omega) w
 have hz':(zeroValue t).run P w=.ok (.agg z) w:=by simp [zeroValue,typeInfo,hi,hz]
 have key:(Instr.build t (parts.map fun p=>(p.1,ρ p.2))).run P w=.ok (.agg arr') w:=by
  unfold Instr.build
  simp only [Sem.run_bind,hz',Result.andThen_ok,run_underlying' hu,hsz',h1,Value.cells,f1,Sem.run_pure]
 simp only [execOp,Sem.run_bind,key,Result.andThen_ok,Sem.run_pure,SV.va,hl2]
set_option maxHeartbeats 2000000 in
theorem pev_ok {P:Program} {sz:Nat→Nat} {og:Nat→SB} {ev:Operand→Option SV} {o:Oper} {ps:List Prop} {r:SV} (h:pev P sz og ev o.op=some (ps,r)) (hp:allOf ps) {ad:Nat→Ad} {ρ:Operand→Value}
 (hsz:∀ c,(ad c).sz=sz c) (hog:∀ c,(ad c).on=(og c).val) (hev:∀ x v,ev x=some v→ρ x=v.va ad) (w:World):(execOp ρ o).run P w=.ok (.value (r.va ad)) w:=by
 obtain ⟨dst,op,type,pos,after,guard⟩:=o
 simp only at h
 cases op <;> simp only [pev] at h <;> try contradiction
 case move x=>
  cases he:ev x with
  | none=>simp [he] at h
  | some v=>simp [he] at h;obtain ⟨rfl,rfl⟩:=h;simp [execOp,hev _ _ he]
 case assign x=>
  cases he:ev x with
  | none=>simp [he] at h
  | some v=>simp [he] at h;obtain ⟨rfl,rfl⟩:=h;simp [execOp,hev _ _ he]
 case nilCheck x=>
  split at h <;> try contradiction
  all_goals
   rename_i he
   simp at h;obtain ⟨rfl,rfl⟩:=h
   simp [execOp,hev _ _ he,SV.va]
 case binOp op t x y yt=>
  split at h <;> try contradiction
  rename_i a b ha hb
  have:=bin_ok h hp hog w
  simp only [execOp,hev _ _ ha,hev _ _ hb]
  simp only [Sem.run_bind] at this ⊢
  rw [this];simp
 case unOp op t x=>
  cases op <;> simp only at h <;> try contradiction
  all_goals
   split at h <;> try contradiction
   rename_i he
  · split at h <;> (simp at h;obtain ⟨rfl,rfl⟩:=h)
    · simp [allOf,inR] at hp;simp [execOp,hev _ _ he,SV.va,Op.unary,Op.intArith,hp]
    · simp [execOp,hev _ _ he,SV.va,Op.unary,Op.intArith]
  · simp at h;obtain ⟨rfl,rfl⟩:=h
    simp [execOp,hev _ _ he,SV.va,Op.unary,Op.intBits,ibit]
  · rename_i b
    simp at h;obtain ⟨rfl,rfl⟩:=h
    simp [execOp,hev _ _ he,SV.va,Op.unary]
    cases b <;> simp [SB.val,SB.neg]
 case fieldAddr s x fld=>
  split at h <;> try contradiction
  rename_i hu he
  split at h <;> try contradiction
  rename_i fd hfd
  split at h <;> try contradiction
  rename_i hn
  simp at h;obtain ⟨rfl,rfl⟩:=h
  simp [execOp,hev _ _ he,SV.va,Instr.fieldAt,run_underlying' hu,hfd,Instr.sureAddr,fieldPlace,run_sizeOf0 hn,hn,Ad.at_add]
 case field s x fld=>
  split at h <;> try contradiction
  rename_i hu he
  split at h <;> try contradiction
  rename_i fd hfd
  cases hpt:partOf P fd.type ‹_› fd.offset with
  | none=>simp [hpt] at h
  | some v=>
    simp [hpt] at h;obtain ⟨rfl,rfl⟩:=h
    simp [execOp,hev _ _ he,SV.va,Instr.field,run_underlying' hu,hfd,asAgg,partOf_ok hpt ad w]
 case indexAddr t x ix=>
  split at h <;> try contradiction
  rotate_left
  · rename_i n e c i f k j hu hx hj
    have fin:∀ v:Addr,P.cellsOf e=1∧2≤n→0≤j→j<(n:Int)→v=((ad c).at i f).add (j.toNat*1)→(execOp ρ ⟨dst,.indexAddr t x ix,type,pos,after,guard⟩).run P w=.ok (.value (.pointer (some v))) w:=by
     rintro v hs h1 h2 rfl
     have hsz':=run_sizeOf0 (P:=P) (t:=e) (by omega) w
     have hn:¬ n≤1:=by omega
     simp [execOp,hev _ _ hx,hev _ _ hj,SV.va,Instr.indexAt,asIntOf,run_underlying' hu,Instr.sureAddr,h1,h2,hsz',hs.1]
    split at h <;> try contradiction
    · rename_i hue hb
      have hb:(ad c).sz=1:=by rw [hsz c];exact zp hb
      split at h <;> try contradiction
      rename_i hs
      simp only [Option.some.injEq,Prod.mk.injEq] at h;obtain ⟨rfl,rfl⟩:=h
      obtain ⟨h1,h2,_⟩:=hp
      refine fin _ hs h1 h2 ?_
      have e0:(ad c).base+((j.toNat+i)*1+f)=(ad c).base+(i*1+f)+j.toNat*1:=by omega
      simp only [Ad.at,Addr.add,hb,e0]
      split
      · rename_i h0;rw [h0];rfl
      · rfl
    · split at h <;> try contradiction
      rename_i hs
      simp only [Option.some.injEq,Prod.mk.injEq] at h;obtain ⟨rfl,rfl⟩:=h
      obtain ⟨h1,h2,_⟩:=hp
      refine fin _ hs h1 h2 ?_
      have e0:(ad c).base+(i*(ad c).sz+(j.toNat+f))=(ad c).base+(i*(ad c).sz+f)+j.toNat*1:=by omega
      simp only [Ad.at,Addr.add,e0]
      split
      · rename_i h0;rw [h0];rfl
      · rfl
  rename_i e c i n m k j hu hx hj
  split at h <;> try contradiction
  rename_i hs
  simp only [Option.some.injEq,Prod.mk.injEq] at h;obtain ⟨rfl,rfl⟩:=h
  obtain ⟨hon,hp⟩:=SB.must_ok hp
  rw [← hog] at hon
  simp only [allOf,and_true] at hp
  have hsz':=run_sizeOf0 hs.2 w
  have:=Ad.at_row (ad c) i j.toNat
  rw [hsz c,← hs.1] at this
  simp [execOp,hev _ _ hx,hev _ _ hj,SV.va,hon,Instr.indexAt,asIntOf,run_underlying' hu,hp,hsz',this]
 case index t x ix=>
  split at h <;> try contradiction
  rename_i s k j hu hx hj
  simp only [Option.some.injEq,Prod.mk.injEq] at h;obtain ⟨rfl,rfl⟩:=h
  obtain ⟨h1,h2,_⟩:=hp
  have e:s[j.toNat]? = some ((s[j.toNat]?).getD 0):=by
   rw [getElem?_pos s j.toNat (show j.toNat<s.size by omega)];rfl
  simp only [execOp,hev _ _ hx,hev _ _ hj,SV.va,Instr.index,asIntOf,run_underlying' hu,Sem.run_bind,Sem.run_pure,Result.andThen_ok,h1,if_true]
  rw [e]
  unfold strI
  rfl
 case slice t x lo hi mx=>
  cases mx with
  | some mq=>
    cases lo with
    | some _=>simp only at h;contradiction
    | none=>
      cases hi with
      | none=>simp only at h;contradiction
      | some hh=>
        simp only at h
        split at h <;> try contradiction
        · rename_i e c i n m k q k' q' hu hx hq hq'
          split at h <;> try contradiction
          rename_i hs
          have hsz':=run_sizeOf0 hs.2 w
          simp only [Option.some.injEq,Prod.mk.injEq] at h;obtain ⟨rfl,rfl⟩:=h
          obtain ⟨hon,hp⟩:=SB.orNil_ok hp
          rw [← hog] at hon
          simp [allOf] at hp
          obtain ⟨p1,p2,p3,p4⟩:=hp
          rcases hon with hon | ⟨hon,rfl,rfl⟩
          · simp [execOp,hev _ _ hx,hev _ _ hq,hev _ _ hq',SV.va,hon,Instr.sliceAt,Instr.slice,Instr.sliceBounds,Instr.sliceBound,asIntOf,run_underlying' hu,hsz',Addr.add,p1,p2,p3]
            intro h5;omega
          · obtain rfl:q'=0:=by omega
            obtain rfl:q=0:=by omega
            simp [execOp,hev _ _ hx,hev _ _ hq,hev _ _ hq',SV.va,hon,Instr.sliceAt,Instr.slice,Instr.sliceBounds,Instr.sliceBound,asIntOf,run_underlying' hu,hsz']
        · rename_i e k q k' q' hu hx hq hq'
          split at h <;> try contradiction
          rename_i hs
          have hsz':=run_sizeOf0 hs w
          simp at h;obtain ⟨rfl,rfl⟩:=h
          simp [allOf] at hp
          obtain ⟨rfl,rfl⟩:=hp
          simp [execOp,hev _ _ hx,hev _ _ hq,hev _ _ hq',SV.va,Instr.sliceAt,Instr.slice,Instr.sliceBounds,Instr.sliceBound,asIntOf,run_underlying' hu,hsz']
  | none=>
    simp only at h
    split at h <;> try contradiction
    rotate_left
    · rename_i e hu hx
      split at h <;> try contradiction
      rename_i hs
      have hsz':=run_sizeOf0 hs w
      cases lo with
      | none=>
        cases hi with
        | none=>
          simp at h;obtain ⟨rfl,rfl⟩:=h
          simp [execOp,hev _ _ hx,SV.va,Instr.sliceAt,Instr.slice,Instr.sliceBounds,run_underlying' hu,hsz']
        | some hh=>
          simp only at h
          split at h <;> try contradiction
          rename_i k q hq
          simp at h;obtain ⟨rfl,rfl⟩:=h
          simp [allOf] at hp
          subst hp
          simp [execOp,hev _ _ hx,hev _ _ hq,SV.va,Instr.sliceAt,Instr.slice,Instr.sliceBounds,Instr.sliceBound,asIntOf,run_underlying' hu,hsz']
      | some l=>
        cases hi with
        | none=>
          simp only at h
          split at h <;> try contradiction
          rename_i k q hq
          simp at h;obtain ⟨rfl,rfl⟩:=h
          simp [allOf] at hp
          subst hp
          simp [execOp,hev _ _ hx,hev _ _ hq,SV.va,Instr.sliceAt,Instr.slice,Instr.sliceBounds,Instr.sliceBound,asIntOf,run_underlying' hu,hsz']
        | some hh=>
          simp only at h
          split at h <;> try contradiction
          rename_i k q k' q' hq hq'
          simp at h;obtain ⟨rfl,rfl⟩:=h
          simp [allOf] at hp
          obtain ⟨rfl,rfl⟩:=hp
          simp [execOp,hev _ _ hx,hev _ _ hq,hev _ _ hq',SV.va,Instr.sliceAt,Instr.slice,Instr.sliceBounds,Instr.sliceBound,asIntOf,run_underlying' hu,hsz']
    rename_i e c i n m hu hx
    split at h <;> try contradiction
    rename_i hs
    have hsz':=run_sizeOf0 hs.2 w
    have hat:∀ k,(if m=k then (ad c).at i 0 else ((ad c).at i 0).add (k*P.cellsOf e))=(ad c).at (srow m k i) 0:=by
     intro k
     unfold srow
     split
     · rfl
     · rw [hs.1,← hsz c,Ad.at_row]
    cases lo with
    | none=>
      cases hi with
      | none=>
        simp only [Option.some.injEq,Prod.mk.injEq] at h;obtain ⟨rfl,rfl⟩:=h
        obtain ⟨hon,hp⟩:=SB.orNil_ok hp
        rw [← hog] at hon
        rcases hon with hon | ⟨hon,rfl,rfl⟩
        · have:=hat 0
          simp [Ad.at_add,srow] at this
          simp [execOp,hev _ _ hx,SV.va,hon,Instr.sliceAt,Instr.slice,Instr.sliceBounds,run_underlying' hu,hsz',Addr.add]
        · simp [execOp,hev _ _ hx,SV.va,hon,Instr.sliceAt,Instr.slice,Instr.sliceBounds,run_underlying' hu,hsz']
      | some hh=>
        simp only at h
        split at h <;> try contradiction
        rename_i k q hq
        simp only [Option.some.injEq,Prod.mk.injEq] at h;obtain ⟨rfl,rfl⟩:=h
        obtain ⟨hon,hp⟩:=SB.orNil_ok hp
        rw [← hog] at hon
        simp [allOf] at hp
        rcases hon with hon | ⟨hon,rfl,rfl⟩
        · simp [execOp,hev _ _ hx,hev _ _ hq,SV.va,hon,Instr.sliceAt,Instr.slice,Instr.sliceBounds,Instr.sliceBound,asIntOf,run_underlying' hu,hsz',Addr.add,hp]
        · obtain rfl:q=0:=by omega
          simp [execOp,hev _ _ hx,hev _ _ hq,SV.va,hon,Instr.sliceAt,Instr.slice,Instr.sliceBounds,Instr.sliceBound,asIntOf,run_underlying' hu,hsz']
    | some l=>
      cases hi with
      | none=>
        simp only at h
        split at h <;> try contradiction
        rename_i k q hq
        simp only [Option.some.injEq,Prod.mk.injEq] at h;obtain ⟨rfl,rfl⟩:=h
        obtain ⟨hon,hp⟩:=SB.orNil_ok hp
        rw [← hog] at hon
        simp [allOf] at hp
        rcases hon with hon | ⟨hon,rfl,rfl⟩
        · have:=hat q.toNat
          simp [execOp,hev _ _ hx,hev _ _ hq,SV.va,hon,Instr.sliceAt,Instr.slice,Instr.sliceBounds,Instr.sliceBound,asIntOf,run_underlying' hu,hsz',hp,← this]
          split <;> simp
        · obtain rfl:q=0:=by omega
          simp [execOp,hev _ _ hx,hev _ _ hq,SV.va,hon,Instr.sliceAt,Instr.slice,Instr.sliceBounds,Instr.sliceBound,asIntOf,run_underlying' hu,hsz']
      | some hh=>
        simp only at h
        split at h <;> try contradiction
        rename_i k q k' q' hq hq'
        simp only [Option.some.injEq,Prod.mk.injEq] at h;obtain ⟨rfl,rfl⟩:=h
        obtain ⟨hon,hp⟩:=SB.orNil_ok hp
        rw [← hog] at hon
        simp [allOf] at hp
        rcases hon with hon | ⟨hon,rfl,rfl⟩
        · have:=hat q.toNat
          simp [execOp,hev _ _ hx,hev _ _ hq,hev _ _ hq',SV.va,hon,Instr.sliceAt,Instr.slice,Instr.sliceBounds,Instr.sliceBound,asIntOf,run_underlying' hu,hsz',hp,← this]
          split
          · by_cases hm:m=q.toNat <;> simp [hm]
          · omega
        · obtain rfl:q'=0:=by omega
          obtain rfl:q=0:=by omega
          simp [execOp,hev _ _ hx,hev _ _ hq,hev _ _ hq',SV.va,hon,Instr.sliceAt,Instr.slice,Instr.sliceBounds,Instr.sliceBound,asIntOf,run_underlying' hu,hsz']
 case makeInterface t x=>
  split at h <;> try contradiction
  rename_i d v hn hu hx
  simp at h;obtain ⟨rfl,rfl⟩:=h
  cases d <;> simp_all [execOp,hev _ _ hx,SV.va,Instr.makeInterface,run_underlying' hu]
 case makeFunc fn a b=>
  split at h <;> try contradiction
  rename_i xs ys hx hy
  simp at h;obtain ⟨rfl,rfl⟩:=h
  have e1:=optAll_ok (g:=SV.va ad) hev hx
  have e2:=optAll_ok (g:=SV.va ad) hev hy
  have e3:a.map ρ=(SV.vas ad xs).toArray:=by apply wd;simp [SV.vas_eq,e1]
  have e4:b.map ρ=(SV.vas ad ys).toArray:=by apply wd;simp [SV.vas_eq,e2]
  simp [execOp,SV.va,Instr.makeFunc,e3,e4]
 case extract x i=>
  split at h <;> try contradiction
  rename_i vs hx
  cases hi:vs[i]? with
  | none=>simp [hi] at h
  | some v=>
    simp [hi] at h;obtain ⟨rfl,rfl⟩:=h
    simp [execOp,hev _ _ hx,SV.va,Instr.extract,SV.vas_eq,hi]
 case typeAssert x xt t ok=>
  split at h <;> try contradiction
  · rename_i d u v hn hu hx
    split at h
    · rename_i hut
      simp at h;obtain ⟨rfl,rfl⟩:=h
      cases ok <;> cases d <;> simp_all [execOp,hev _ _ hx,SV.va,Instr.typeAssert,run_underlying' hu,SV.vas,SB.val]
    · rename_i hut
      split at h
      · rename_i hok
        cases hz:(P.info? t).bind fun i=>i.zero with
        | none=>cases hi:P.info? t <;> simp [hi] at h hz;simp [hz] at h
        | some z=>
          have hzv:(zeroValue t).run P w=.ok z w:=by
           cases hi:P.info? t <;> simp [hi] at hz
           simp [zeroValue,typeInfo,hi,hz]
          have:ps=[]∧r=.tup [SV.ofValue z,.bool .f]:=by
           cases hi:P.info? t <;> simp [hi] at hz h
           simp [hz] at h;exact ⟨h.1,h.2.symm⟩
          obtain ⟨rfl,rfl⟩:=this
          cases d <;> simp_all [execOp,hev _ _ hx,SV.va,Instr.typeAssert,run_underlying' hu,SV.vas,SB.val,SV.va_ofValue]
      · cases h
  · rename_i d hn hu hx
    split at h
    · rename_i hok
      cases hz:(P.info? t).bind fun i=>i.zero with
      | none=>cases hi:P.info? t <;> simp [hi] at h hz;simp [hz] at h
      | some z=>
        have hzv:(zeroValue t).run P w=.ok z w:=by
         cases hi:P.info? t <;> simp [hi] at hz
         simp [zeroValue,typeInfo,hi,hz]
        have:ps=[]∧r=.tup [SV.ofValue z,.bool .f]:=by
         cases hi:P.info? t <;> simp [hi] at hz h
         simp [hz] at h;exact ⟨h.1,h.2.symm⟩
        obtain ⟨rfl,rfl⟩:=this
        cases d <;> simp_all [execOp,hev _ _ hx,SV.va,Instr.typeAssert,run_underlying' hu,SV.vas,SB.val,SV.va_ofValue]
    · cases h
 case convert s d x=>
  split at h <;> try contradiction
  rename_i ds k k' n hs hd hx
  split at h
  · simp at h;obtain ⟨rfl,rfl⟩:=h
    simp [allOf,inR] at hp
    simp [execOp,hev _ _ hx,SV.va,convert,run_underlying' hs,run_underlying' hd,Conv.intToInt,hp]
  · simp at h;obtain ⟨rfl,rfl⟩:=h
    simp [execOp,hev _ _ hx,SV.va,convert,run_underlying' hs,run_underlying' hd,Conv.intToInt]
 case build t parts=>
  split at h <;> try contradiction
  rotate_left
  · rename_i n e i qs hu hi hq
    split at h <;> try contradiction
    rename_i z vs hz hsq
    split at h <;> try contradiction
    rename_i hc
    simp only [Option.some.injEq,Prod.mk.injEq] at h;obtain ⟨rfl,rfl⟩:=h
    exact build_arr hu hi hz hsq hc (parts_map hev hq) w
  rename_i fs i qs hu hi hq
  split at h <;> try contradiction
  rename_i z hz
  split at h <;> try contradiction
  rename_i hf
  cases hfp:fillParts P fs (z.toList.map SV.atom) qs with
  | none=>simp [hfp] at h
  | some out=>
    simp [hfp] at h;obtain ⟨rfl,rfl⟩:=h
    have:=build_ok hu hi hz hf ad hfp w _ (parts_map hev hq)
    simp [execOp,SV.va,this]
 case call c=>
  obtain ⟨callee,args,argTypes⟩:=c
  simp only at h
  split at h <;> try contradiction
  · split at h <;> try contradiction
    rename_i t x ht hx
    split at h <;> try contradiction
    · rename_i e c i n m hu he
      simp at h;obtain ⟨rfl,rfl⟩:=h
      simp [execOp,resolve,invoke,builtin,Builtin.len_,ht,hx,hev _ _ he,SV.va,run_underlying' hu,goInt]
    · rename_i e hu he
      simp at h;obtain ⟨rfl,rfl⟩:=h
      simp [execOp,resolve,invoke,builtin,Builtin.len_,ht,hx,hev _ _ he,SV.va,run_underlying' hu,goInt]
    · rename_i e a n m hu he
      simp at h;obtain ⟨rfl,rfl⟩:=h
      simp [execOp,resolve,invoke,builtin,Builtin.len_,ht,hx,hev _ _ he,SV.va,run_underlying' hu,goInt]
  · split at h <;> try contradiction
    rename_i t x ht hx
    split at h <;> try contradiction
    · rename_i e c i n m hu he
      simp at h;obtain ⟨rfl,rfl⟩:=h
      simp [execOp,resolve,invoke,builtin,Builtin.cap_,ht,hx,hev _ _ he,SV.va,run_underlying' hu,goInt]
    · rename_i e hu he
      simp at h;obtain ⟨rfl,rfl⟩:=h
      simp [execOp,resolve,invoke,builtin,Builtin.cap_,ht,hx,hev _ _ he,SV.va,run_underlying' hu,goInt]
  · split at h <;> try contradiction
    rename_i x y hargs
    split at h <;> try contradiction
    rename_i k a k' b hx hy
    split at h <;> try contradiction
    simp at h;obtain ⟨rfl,rfl⟩:=h
    have ha:args = #[x,y]:=by apply wd;simpa using hargs
    subst ha
    simp only [execOp,resolve,invoke,builtin,List.map_toArray,vw,ny,hev _ _ hx,hev _ _ hy,SV.va]
    simp [Builtin.min_,Builtin.min2]
    omega
  · split at h <;> try contradiction
    rename_i x y hargs
    split at h <;> try contradiction
    rename_i k a k' b hx hy
    split at h <;> try contradiction
    simp at h;obtain ⟨rfl,rfl⟩:=h
    have ha:args = #[x,y]:=by apply wd;simpa using hargs
    subst ha
    simp only [execOp,resolve,invoke,builtin,List.map_toArray,vw,ny,hev _ _ hx,hev _ _ hy,SV.va]
    simp [Builtin.max_,Builtin.max2]
    omega
end Go.Vx
namespace Go.Vx
open Go
abbrev Tm:=List (Nat×SV)
def get:Tm→Nat→SV
 | [],_=>.junk
 | (k,v) :: r,t=>match zi k t with
   | true=>v
   | false=>get r t
def condAt (tm:Tm) (t:Nat):Option Bool:=
 match get tm t with
 | .bool s=>some s.val
 | .cnd _ (.bool s)=>some s.val
 | _=>none
def noCond (d:Nat):Tm→Bool
 | []=>true
 | (_,.cnd cs _) :: r=>(cs.all fun c=>!(zi c.1 d)) && noCond d r
 | _ :: r=>noCond d r
def Inv (tm:Tm):Prop:=∀ t cs v,get tm t=.cnd cs v→∀ c∈cs,∀ b,condAt tm c.1=some b→b=c.2.2
def mkc (cs:List (Nat×Bool×Bool)) (v:SV):SV:=match cs with
 | []=>v
 | cs=>.cnd cs v
def notCnd:SV→Bool
 | .cnd _ _=>false
 | _=>true
theorem notCnd_ok {v:SV} (h:notCnd v=true):∀ cs v',v≠.cnd cs v':=by rintro cs v' rfl;cases h
def put? (n:Nat) (tm:Tm) (dst:Option Nat) (cs:List (Nat×Bool×Bool)) (v:SV):Option Tm:=
 match dst with
 | none=>some tm
 | some d=>if ye d n && noCond d tm && (cs.all fun c=>!(zi c.1 d)) && notCnd v then some ((d,mkc cs v) :: tm) else none
def isJunk:SV→Bool
 | .junk=>true
 | _=>false
structure ActOK (ad:Nat→Ad) (n:Nat) (tm:Tm) (a:Act):Prop where
 defers:a.defers=[]
 size:a.tmps.size=n
 tmps:∀ t,get tm t=.junk∨a.tmps[t]? = some ((get tm t).va ad)
 inv:Inv tm
theorem get_put (tm:Tm) (d t:Nat) (v:SV):get ((d,v) :: tm) t=if d=t then v else get tm t:=by
 simp only [get]
 cases h:zi d t with
 | true=>have:=zp h;simp [this]
 | false=>have:=xc h;simp [this]
theorem noCond_ok {d:Nat}:∀ {tm:Tm},noCond d tm=true→∀ t cs v,get tm t=.cnd cs v→∀ c∈cs,c.1≠d
 | [],_,t,cs,v,h=>by simp [get] at h
 | (k,x) :: r,hn,t,cs,v,h=>by
   rw [get_put] at h
   split at h
   · subst h
     simp only [noCond,zq,ux] at hn
     intro c hc hcd
     have:=hn.1 c hc
     simp [hcd] at this
   · have hr:noCond d r=true:=by
      cases x <;> simp_all [noCond]
     exact noCond_ok hr t cs v h
theorem put_ok {ad:Nat→Ad} {n:Nat} {tm tm':Tm} {a:Act} (h:ActOK ad n tm a) {dst:Option Nat} {cs:List (Nat×Bool×Bool)} {v:SV} (hp:put? n tm dst cs v=some tm')
 (hcs:∀ c∈cs,condAt tm c.1=some c.2.2) (x:Value) (hx:x=(mkc cs v).va ad):ActOK ad n tm' (a.put dst x):=by
 cases dst with
 | none=>simp [put?] at hp;subst hp;exact h
 | some d=>
   simp only [put?] at hp
   split at hp
   · rename_i hc
     simp only [zq,ux] at hc
     obtain ⟨⟨⟨h1,h2⟩,h3⟩,h4⟩:=hc
     have hv:=notCnd_ok h4
     simp only [Option.some.injEq] at hp
     subst hp
     have hd:d<n:=by simpa using h1
     have h3':∀ c∈cs,c.1≠d:=by
      intro c hc hcd
      have:=h3 c hc
      simp [hcd] at this
     have hcond:∀ t,t≠d→condAt ((d,mkc cs v) :: tm) t=condAt tm t:=by
      intro t ht
      unfold condAt
      rw [get_put,if_neg (Ne.symm ht)]
     refine ⟨h.defers,by simp [Act.put,h.size],?_,?_⟩
     · intro t
       rw [get_put]
       split
       · rename_i hdt;subst hdt
         right
         simp [Act.put,h.size,hd,hx]
       · rename_i hdt
         rcases h.tmps t with h | h
         · exact .inl h
         · right
           simp [Act.put,sx hdt,h]
     · intro t cs' v' hg c hc b hb
       rw [get_put] at hg
       split at hg
       · cases cs with
         | nil=>exact absurd hg (hv _ _)
         | cons c0 cs0=>
           simp only [mkc,SV.cnd.injEq] at hg
           obtain ⟨rfl,rfl⟩:=hg
           rw [hcond _ (h3' _ hc),hcs _ hc] at hb
           exact (Option.some.inj hb).symm
       · rw [hcond _ (noCond_ok h2 t cs' v' hg c hc)] at hb
         exact h.inv t cs' v' hg c hc b hb
   · cases hp
def allowed (al:List (Nat×Bool)) (c:Nat×Bool×Bool):Bool:=al.any fun p=>zi p.1 c.1 && (match p.2,c.2.1 with | true,true=>true | false,false=>true | _,_=>false)
def strip (al:List (Nat×Bool)):SV→Option SV
 | .junk=>none
 | .cnd cs v=>if cs.all (allowed al) then (match v with | .junk=>none | v=>some v) else none
 | v=>some v
variable {C:Nat→Codec}
def ev (tm:Tm) (m:List (Ck C)) (al:List (Nat×Bool)):Operand→Option SV
 | .tmp t=>strip al (get tm t)
 | .const v=>some (SV.ofValue v)
 | .global g=>some (.gp g)
 | .func f=>some (.fn (.func f) [] [])
def AlOK (tm:Tm) (al:List (Nat×Bool)):Prop:=∀ p∈al,condAt tm p.1=some p.2
theorem strip_ok {ad:Nat→Ad} {tm:Tm} {al:List (Nat×Bool)} (ha:AlOK tm al) (hi:Inv tm) {t:Nat} {v:SV} (h:strip al (get tm t)=some v):get tm t≠.junk∧(get tm t).va ad=v.va ad:=by
 cases hg:get tm t with
 | junk=>simp [hg,strip] at h
 | cnd cs x=>
   simp only [hg,strip] at h
   split at h
   · rename_i hall
     have hx:x=v:=by cases x <;> simp_all
     subst hx
     refine ⟨by simp,?_⟩
     simp only [SV.va]
     rw [if_pos]
     have hin:=hi t cs x hg
     clear h hg
     induction cs with
     | nil=>rfl
     | cons c cs ih=>
       obtain ⟨t',w,b⟩:=c
       simp only [List.all_cons,zq] at hall
       simp only [holds,zq]
       refine ⟨?_,ih hall.2 (fun c hc=>hin c (by simp [hc]))⟩
       obtain ⟨p,hp,hpe⟩:=List.any_eq_true.1 hall.1
       have h1:=ha p hp
       simp only [zq] at hpe
       have e1:p.1=t':=zp hpe.1
       have e2:p.2=w:=by
        have:=hpe.2
        revert this
        cases p.2 <;> cases w <;> simp
       rw [e1] at h1
       have h2:p.2=b:=hin (t',w,b) (by simp) _ h1
       rw [← h2,e2];simp
   · cases h
 | _=>
   rw [hg] at h
   simp only [strip,Option.some.injEq] at h
   subst h
   exact ⟨by simp,rfl⟩
theorem nth_mem {m:List (Ck C)} {c:Nat} (h:c<m.length):nth m c∈m:=by
 induction m generalizing c with
 | nil=>simp at h
 | cons x r ih=>
   cases c with
   | zero=>simp [nth]
   | succ c=>simp only [nth];exact List.mem_cons_of_mem _ (ih (by simpa using h))
def GlOK (_m:List (Ck C)):Prop:=True
theorem MemOK.glob {S:Sx} {w0 w:World} {m:List (Ck C)} (_h:MemOK S w0 w m):GlOK m:=trivial
theorem ev_ok {n:Nat} {tm:Tm} {m:List (Ck C)} {a:Act} (h:ActOK (ads m) n tm a) (hg:GlOK m) {al:List (Nat×Bool)} (ha:AlOK tm al):∀ x v,ev tm m al x=some v→a.eval x=v.va (ads m):=by
 intro x v hv
 cases x with
 | tmp t=>
   simp only [ev] at hv
   obtain ⟨h1,h2⟩:=strip_ok (ad:=ads m) ha h.inv hv
   rcases h.tmps t with h3 | h3
   · exact absurd h3 h1
   · simp [Act.eval,h3,h2]
 | const v'=>simp [ev] at hv;subst hv;simp [Act.eval,SV.va_ofValue]
 | global g=>simp [ev] at hv;subst hv;simp [Act.eval,SV.va]
 | func f=>simp [ev] at hv;subst hv;simp [Act.eval,SV.va,SV.vas]
inductive Gd where
 | skip
 | run (cs:List (Nat×Bool×Bool))
 | lost
def beqB:Bool→Bool→Bool
 | true,true=>true
 | false,false=>true
 | _,_=>false
def gdOf (t:Nat) (want:Bool) (cs:List (Nat×Bool×Bool)):SB→Gd
 | .t=>if beqB want true then .run cs else .skip
 | .f=>if beqB want false then .run cs else .skip
 | .tm b=>.run (cs ++ [(t,want,b)])
def known (tm:Tm):List (Nat×Bool×Bool)→Bool
 | []=>true
 | c :: r=>(match get tm c.1 with
   | .bool _=>true
   | .cnd _ (.bool _)=>true
   | _=>false) && known tm r
def gd (ops:Array Oper) (tm:Tm):Option (Nat×Bool)→Gd
 | none=>.run []
 | some (j,want)=>match (ops[j]?).bind (·.dst) with
   | some t=>match get tm t with
     | .bool s=>gdOf t want [] s
     | .undef=>.skip
     | .cnd cs (.bool s)=>if known tm cs then gdOf t want cs s else .lost
     | _=>.lost
   | none=>.lost
theorem holds_append:∀ (a b:List (Nat×Bool×Bool)),holds (a ++ b)=(holds a && holds b)
 | [],_=>rfl
 | (_,_,_) :: a,b=>by simp [holds,holds_append a b,Bool.and_assoc]
theorem known_ok {tm:Tm}:∀ {cs:List (Nat×Bool×Bool)},known tm cs=true→(∀ c∈cs,∀ b,condAt tm c.1=some b→b=c.2.2)→∀ c∈cs,condAt tm c.1=some c.2.2
 | [],_,_,c,hc=>by simp at hc
 | x :: r,h,hi,c,hc=>by
   simp only [known,zq] at h
   rcases List.mem_cons.1 hc with rfl | hc
   · have h1:=h.1
     have h2:=hi c (by simp)
     unfold condAt at h2 ⊢
     split at h1
     · rename_i s hs;rw [hs] at h2;exact congrArg some (h2 _ rfl)
     · rename_i s hs;rw [hs] at h2;exact congrArg some (h2 _ rfl)
     · cases h1
   · exact known_ok h.2 (fun c hc=>hi c (by simp [hc])) c hc
theorem gdOf_ok {tm:Tm} {t:Nat} {want:Bool} {cs cs':List (Nat×Bool×Bool)} {s:SB} (h:gdOf t want cs s=.run cs') (hcs:∀ c∈cs,condAt tm c.1=some c.2.2) (ht:condAt tm t=some s.val):
 (holds cs'=(holds cs && (s.val == want)))∧∀ c∈cs',condAt tm c.1=some c.2.2:=by
 cases s <;> simp only [gdOf] at h
 · split at h
   · rename_i hb;simp at h;subst h;cases want <;> simp_all [beqB,SB.val]
   · cases h
 · split at h
   · rename_i hb;simp at h;subst h;cases want <;> simp_all [beqB,SB.val]
   · cases h
 · simp at h;subst h
   refine ⟨by simp [holds_append,holds,SB.val],?_⟩
   intro c hc
   rcases List.mem_append.1 hc with hc | hc
   · exact hcs c hc
   · simp at hc;subst hc;exact ht
theorem gd_run {ad:Nat→Ad} {n:Nat} {ops:Array Oper} {tm:Tm} {a:Act} {o:Oper} (h:ActOK ad n tm a) {cs:List (Nat×Bool×Bool)} (hg:gd ops tm o.guard=.run cs):
 Region.wanted o (yielded ops a.tmps)=holds cs∧∀ c∈cs,condAt tm c.1=some c.2.2:=by
 unfold gd at hg
 unfold Region.wanted
 split at hg
 · rename_i ho;simp at hg;subst hg;simp [ho,holds]
 · rename_i j want ho
   simp only [ho]
   split at hg <;> try contradiction
   rename_i t ht
   have hy:∀ v,get tm t≠.junk→(get tm t).va ad=v→yielded ops a.tmps j=match v with | .bool b=>some b | _=>none:=by
    intro v hj hv
    rcases h.tmps t with h3 | h3
    · exact absurd h3 hj
    · rw [hv] at h3;simp only [yielded,ht,Option.bind_some,h3];cases v <;> rfl
   split at hg <;> try contradiction
   · rename_i s hgt
     have hyb:yielded ops a.tmps j=some s.val:=hy (.bool s.val) (by simp [hgt]) (by rw [hgt];rfl)
     have hc:condAt tm t=some s.val:=by simp [condAt,hgt]
     have h2:=gdOf_ok hg (by simp) hc
     refine ⟨?_,h2.2⟩
     rw [hyb,h2.1]
     cases s.val <;> cases want <;> rfl
   · rename_i cs0 s hgt
     split at hg <;> try contradiction
     rename_i hkn
     have hc:condAt tm t=some s.val:=by simp [condAt,hgt]
     have hin:=known_ok hkn (h.inv t cs0 _ hgt)
     have h2:=gdOf_ok hg hin hc
     refine ⟨?_,h2.2⟩
     have:=hy (if holds cs0 then .bool s.val else Go.undef) (by simp [hgt]) (by rw [hgt];rfl)
     rw [this,h2.1]
     cases holds cs0 <;> cases s.val <;> cases want <;> rfl
theorem gd_skip {ad:Nat→Ad} {n:Nat} {ops:Array Oper} {tm:Tm} {a:Act} {o:Oper} (h:ActOK ad n tm a) (hg:gd ops tm o.guard=.skip):
 Region.wanted o (yielded ops a.tmps)=false:=by
 unfold gd at hg
 unfold Region.wanted
 split at hg
 · cases hg
 · rename_i j want ho
   simp only [ho]
   split at hg <;> try contradiction
   rename_i t ht
   have hy:∀ v,get tm t≠.junk→(get tm t).va ad=v→yielded ops a.tmps j=match v with | .bool b=>some b | _=>none:=by
    intro v hj hv
    rcases h.tmps t with h3 | h3
    · exact absurd h3 hj
    · rw [hv] at h3;simp only [yielded,ht,Option.bind_some,h3];cases v <;> rfl
   split at hg <;> try contradiction
   · rename_i s hgt
     have hyb:yielded ops a.tmps j=some s.val:=hy (.bool s.val) (by simp [hgt]) (by rw [hgt];rfl)
     rw [hyb]
     cases s <;> simp only [gdOf] at hg
     · split at hg
       · cases hg
       · rename_i hb;cases want <;> first | rfl | exact absurd rfl hb
     · split at hg
       · cases hg
       · rename_i hb;cases want <;> first | rfl | exact absurd rfl hb
     · cases hg
   · rename_i hgt
     have:=hy Go.undef (by simp [hgt]) (by rw [hgt];rfl)
     rw [this];simp [Go.undef]
   · rename_i cs0 s hgt
     split at hg <;> try contradiction
     have:=hy (if holds cs0 then .bool s.val else Go.undef) (by simp [hgt]) (by rw [hgt];rfl)
     rw [this]
     cases s <;> simp only [gdOf] at hg
     · split at hg
       · cases hg
       · rename_i hb;cases holds cs0 <;> cases want <;> first | rfl | exact absurd rfl hb
     · split at hg
       · cases hg
       · rename_i hb;cases holds cs0 <;> cases want <;> first | rfl | exact absurd rfl hb
     · cases hg
def cut (t:Nat) (w:Bool):List (Nat×Bool×Bool)→Option (List (Nat×Bool×Bool))
 | []=>some []
 | c :: r=>if zi c.1 t then (if beqB c.2.1 w then cut t w r else none) else (cut t w r).map (c :: ·)
def uncnd:SV→SV
 | .cnd _ _=>.junk
 | v=>v
def knowV (t:Nat) (w:Bool) (k:Nat) (v:SV):SV:=
 if zi k t then .bool (SB.lit w) else match v with
  | .cnd cs x=>match cut t w cs with
    | some []=>uncnd x
    | some cs'=>.cnd cs' x
    | none=>.undef
  | v=>v
def know (t:Nat) (w:Bool):Tm→Tm
 | []=>[]
 | (k,v) :: r=>(k,knowV t w k v) :: know t w r
theorem get_know (t:Nat) (w:Bool):∀ (tm:Tm) (k:Nat),get tm k≠.junk→get (know t w tm) k=knowV t w k (get tm k)
 | [],k,h=>by simp [get] at h
 | (j,v) :: r,k,h=>by
   rw [get_put] at h
   simp only [know]
   rw [get_put,get_put]
   split
   · rename_i e;rw [e]
   · rename_i e;rw [if_neg e] at h;exact get_know t w r k h
theorem get_know_junk (t:Nat) (w:Bool):∀ (tm:Tm) (k:Nat),get tm k=.junk→get (know t w tm) k=.junk∨(k=t)
 | [],k,h=>.inl rfl
 | (j,v) :: r,k,h=>by
   rw [get_put] at h
   simp only [know]
   rw [get_put]
   split
   · rename_i e
     rw [if_pos e] at h
     subst h
     by_cases hk:k=t
     · exact .inr hk
     · left;subst e;simp [knowV,hk]
   · rename_i e;rw [if_neg e] at h;exact get_know_junk t w r k h
theorem cut_ok {t:Nat} {w:Bool}:∀ {cs:List (Nat×Bool×Bool)},(∀ c∈cs,c.1=t→c.2.2=w)→(∀ cs',cut t w cs=some cs'→holds cs=holds cs'∧(∀ c∈cs',c∈cs∧c.1≠t))∧(cut t w cs=none→holds cs=false)
 | [],_=>⟨fun cs' h=>by simp [cut] at h;subst h;exact ⟨rfl,by simp⟩,fun h=>by simp [cut] at h⟩
 | (k,want,b) :: r,hc=>by
   have ih:=cut_ok (t:=t) (w:=w) (cs:=r) (fun c h=>hc c (by simp [h]))
   by_cases hk:k=t
   · have hb:=hc (k,want,b) (by simp) hk
     simp only at hb
     subst hb hk
     by_cases hw:want=b
     · subst hw
       have e:cut k want ((k,want,want) :: r)=cut k want r:=by simp [cut];cases want <;> simp [beqB]
       rw [e]
       refine ⟨fun cs' h => ?_,fun h => ?_⟩
       · obtain ⟨h1,h2⟩:=ih.1 cs' h
         exact ⟨by simp [holds,h1],fun c hc=>⟨by simp [(h2 c hc).1],(h2 c hc).2⟩⟩
       · simp [holds,ih.2 h]
     · have e:cut k b ((k,want,b) :: r)=none:=by simp [cut];cases want <;> cases b <;> simp_all [beqB]
       rw [e]
       refine ⟨fun cs' h=>(by cases h),fun _ => ?_⟩
       cases want <;> cases b <;> simp_all [holds]
   · have e:cut t w ((k,want,b) :: r)=(cut t w r).map ((k,want,b) :: ·):=by simp [cut,hk]
     rw [e]
     cases hr:cut t w r with
     | none=>exact ⟨fun cs' h=>(by cases h),fun _=>by simp [holds,ih.2 hr]⟩
     | some cs0=>
       obtain ⟨h1,h2⟩:=ih.1 cs0 hr
       refine ⟨fun cs' h => ?_,fun h=>by cases h⟩
       simp at h;subst h
       refine ⟨by simp [holds,h1],fun c hc => ?_⟩
       rcases List.mem_cons.1 hc with rfl | hc
       · exact ⟨by simp,hk⟩
       · exact ⟨by simp [(h2 c hc).1],(h2 c hc).2⟩
theorem beq_ne {a b:Nat} (h:a≠b):zi a b=false:=by
 cases h2:zi a b with
 | false=>rfl
 | true=>exact absurd (zp h2) h
theorem know_ok {ad:Nat→Ad} {n:Nat} {tm:Tm} {a:Act} (h:ActOK ad n tm a) {t:Nat} {b:Bool} (ht:get tm t=.bool (.tm b)):ActOK ad n (know t b tm) a:=by
 have hct:condAt tm t=some b:=by simp [condAt,ht,SB.val]
 have hgt:get (know t b tm) t=.bool (SB.lit b):=by rw [get_know t b tm t (by simp [ht])];simp [knowV]
 have hcs:∀ k cs x,get tm k=.cnd cs x→∀ c∈cs,c.1=t→c.2.2=b:=by
  intro k cs x hk c hc he
  exact (h.inv k cs x hk c hc b (by rw [he];exact hct)).symm
 -- what the slot of a condition holds
 have hcond:∀ k b',k≠t→condAt (know t b tm) k=some b'→condAt tm k=some b':=by
  intro k b' hkt hb
  by_cases hj:get tm k=.junk
  · rcases get_know_junk t b tm k hj with h1 | h1
    · unfold condAt at hb;rw [h1] at hb;cases hb
    · exact absurd h1 hkt
  · unfold condAt at hb ⊢
    rw [get_know t b tm k hj] at hb
    have hkb:zi k t=false:=beq_ne hkt
    simp only [knowV,hkb,vf,if_false] at hb
    cases hv:get tm k with
    | cnd cs x=>
      rw [hv] at hb
      simp only at hb
      cases hcut:cut t b cs with
      | none=>rw [hcut] at hb;cases hb
      | some cs'=>
        rw [hcut] at hb
        cases cs' with
        | nil=>cases x <;> simp_all [uncnd]
        | cons c r=>cases x <;> exact hb
    | _=>rw [hv] at hb;exact hb
 refine ⟨h.defers,h.size,fun k => ?_,?_⟩
 · by_cases hkt:k=t
   · subst hkt
     right
     rw [hgt]
     rcases h.tmps k with h1 | h1
     · rw [ht] at h1;cases h1
     · rw [h1,ht];simp only [SV.va,SB.val_lit];rfl
   · rcases h.tmps k with h1 | h1
     · rcases get_know_junk t b tm k h1 with h2 | h2
       · exact .inl h2
       · exact absurd h2 hkt
     · by_cases hj:get tm k=.junk
       · rcases get_know_junk t b tm k hj with h2 | h2
         · exact .inl h2
         · exact absurd h2 hkt
       · rw [get_know t b tm k hj]
         have hkb:zi k t=false:=beq_ne hkt
         simp only [knowV,hkb,vf,if_false]
         cases hv:get tm k with
         | cnd cs x=>
           rw [hv] at h1
           have hc:=cut_ok (t:=t) (w:=b) (cs:=cs) (hcs k cs x hv)
           simp only
           cases hcut:cut t b cs with
           | none=>
             right;simp only
             rw [h1];simp [SV.va,hc.2 hcut]
           | some cs'=>
             have h2:=(hc.1 cs' hcut).1
             cases cs' with
             | nil=>
               have:holds cs=true:=by rw [h2];rfl
               have h3:a.tmps[k]? = some (x.va ad):=by rw [h1];simp [SV.va,this]
               simp only
               cases x <;> first | exact .inl rfl | exact .inr h3
             | cons c r=>right;simp only;rw [h1];simp only [SV.va];rw [h2]
         | _=>right;rw [hv] at h1;exact h1
 · intro k cs x hk c hc b' hb
   have hkt:k≠t:=by rintro rfl;rw [hgt] at hk;cases hk
   have hj:get tm k≠.junk:=by
    intro hj
    rcases get_know_junk t b tm k hj with h2 | h2
    · rw [h2] at hk;cases hk
    · exact hkt h2
   rw [get_know t b tm k hj] at hk
   have hkb:zi k t=false:=beq_ne hkt
   simp only [knowV,hkb,vf,if_false] at hk
   cases hv:get tm k with
   | cnd cs0 x0=>
     rw [hv] at hk
     simp only at hk
     have hc0:=cut_ok (t:=t) (w:=b) (cs:=cs0) (hcs k cs0 x0 hv)
     cases hcut:cut t b cs0 with
     | none=>rw [hcut] at hk;cases hk
     | some cs'=>
       rw [hcut] at hk
       cases cs' with
       | nil=>
         simp only at hk
         cases x0 <;> simp [uncnd] at hk
       | cons c1 r1=>
         simp only [SV.cnd.injEq] at hk
         obtain ⟨rfl,rfl⟩:=hk
         have hcc:=(hc0.1 _ hcut).2 c hc
         exact h.inv k cs0 x0 hv c hcc.1 b' (hcond _ _ hcc.2 hb)
   | _=>rw [hv] at hk;cases hk
end Go.Vx
namespace Go.Vx
open Go
variable {C:Nat→Codec}
def SV.top:SV→Bool
 | .junk=>false
 | .agg vs=>vs.all fun v=>!(isJunk v)
 | _=>true
def loadSV (P:Program) (m:List (Ck C)) (t:TypeId) (c i f:Nat):Ans:=
 match (nth m c).cells with
 | .rows t' l=>(partOf P t ((C t').enc (l.getD i (C t').dflt)) f).map fun v=>((nth m c).there ++ [i<l.length],v)
 | .one vs=>match i with
   | 0=>match partOf P t vs f with
     | some v=>if v.top then some ((nth m c).there,v) else none
     | none=>none
   | i+1=>match zi (nth m c).sz 1 with
     | true=>match partOf P t vs (i+1+f) with
       | some v=>if v.top then some ((nth m c).there,v) else none
       | none=>none
     | false=>none
 | .mp _ _ _ _=>none
 | .it _ _ _=>none
 | .dead=>none
def lev (P:Program) (tm:Tm) (m:List (Ck C)) (al:List (Nat×Bool)) (o:Op):Ans:=
 match o with
 | .load t a=>match ev tm m al a with
   | some (.ptr c i f)=>loadSV P m t c i f
   | some (.gp g)=>match aggTy P t,(C g).gv with
     | some false,some v=>some ([],v)
     | _,_=>none
   | _=>none
 | _=>none
theorem nth_ge {m:List (Ck C)} {c:Nat} (h:m.length≤c):nth m c=Ck.zero:=by
 induction m generalizing c with
 | nil=>rfl
 | cons x r ih=>
   cases c with
   | zero=>simp at h
   | succ c=>exact ih (by simpa using h)
theorem lt_of_alive {m:List (Ck C)} {c:Nat} (h:(nth m c).alive=true):c<m.length:=by
 rcases vb c m.length with h' | h'
 · exact h'
 · rw [nth_ge h'] at h;simp [Ck.zero,Ck.alive] at h
theorem run_loadVar {P:Program} {w:World} {t:TypeId} {a:Addr} {b:Bool} (ht:aggTy P t=some b) {vs:List Value} (off:Nat) (hn:b=true→off+P.cellsOf t≤vs.length)
 (hn':b=false→off<vs.length) (hc:∀ j v,vs[j]? = some v→off≤j→j<off+(if b then P.cellsOf t else 1)→w.cell? (a.add (j - off))=some v):
 (loadVar t a).run P w=.ok (if b then .agg ((vs.drop off).take (P.cellsOf t)).toArray else vs.getD off Go.undef) w:=by
 cases b with
 | true=>
   have hl:((vs.drop off).take (P.cellsOf t)).length=P.cellsOf t:=by have:=hn rfl;simp;omega
   have:=run_loadCells_list (P:=P) w a ((vs.drop off).take (P.cellsOf t)) (by
    intro j v hj
    rw [List.getElem?_take] at hj
    split at hj
    · rename_i hjn
      rw [vp] at hj
      have:=hc (off+j) v hj (by omega) (by simp;omega)
      simpa using this
    · cases hj)
   rw [hl] at this
   simp [loadVar,aggTy_ok ht,aggTy_size ht,this]
 | false=>
   have h1:=hn' rfl
   have h2:vs[off]? = some (vs.getD off Go.undef):=by simp [xg,zt h1]
   have:=hc off _ h2 (by omega) (by simp)
   rw [show a.add (off - off)=a by simp [Addr.add]] at this
   simp [loadVar,aggTy_ok ht,this]
theorem cellIs_of {ad:Nat→Ad} {w:World} {a:Addr} {v:SV} (h:cellIs ad w a v) (hj:isJunk v=false):w.cell? a=some (v.va ad):=by
 cases v <;> first | exact h | cases hj
theorem loadSV_okc {P:Program} {w:World} {m:List (Ck C)} {c:Nat} (hok:(nth m c).on=true→Ck.ok (ads m) w (nth m c)) {t i f:Nat} {ps:List Prop} {r:SV} (h:loadSV P m t c i f=some (ps,r)) (hp:allOf ps):
 (loadVar t ((ads m c).at i f)).run P w=.ok (r.va (ads m)) w:=by
 unfold loadSV at h
 split at h <;> try contradiction
 · rename_i t' l hcl
   have hlen:=(C t').len (l.getD i (C t').dflt)
   cases hpo:partOf P t ((C t').enc (l.getD i (C t').dflt)) f with
   | none=>rw [hpo] at h;cases h
   | some v=>
     rw [hpo] at h
     simp only [yr,Option.some.injEq,Prod.mk.injEq] at h
     obtain ⟨rfl,rfl⟩:=h
     obtain ⟨hp0,hp⟩:=(allOf_append _ _).1 hp
     have hok:=hok (Ck.there_ok hp0)
     simp only [Ck.ok,hcl] at hok
     obtain ⟨_,hok⟩:=hok
     simp only [allOf,and_true] at hp
     have hok':=hok i hp
     generalize (C t').enc (l.getD i (C t').dflt)=es at hlen hpo hok'
     have hcell:∀ j v,(SV.vas (ads m) es)[j]? = some v→w.cell? ((ads m c).at i j)=some v:=by
      intro j v hj
      have hjl:j<es.length:=by
       have:=(List.getElem?_eq_some_iff.1 hj).1
       simpa [SV.vas_eq] using this
      have:=hok' j (by omega)
      rw [SV.vas_eq,zf,zt hjl] at hj
      simp only [yr,Option.some.injEq] at hj
      rw [← hj]
      simp only [ads]
      rw [this]
      simp [xg,zt hjl]
     unfold partOf at hpo
     split at hpo
     · rename_i ha
       split at hpo
       · rename_i hle
         simp at hpo;subst hpo
         have:=run_loadVar (w:=w) (a:=(ads m c).at i f) ha (vs:=SV.vas (ads m) es) f (fun _=>by simpa [SV.vas_eq] using hle) (fun h=>by cases h)
          (fun j v hj h1 h2=>by rw [Ad.at_add,show f+(j - f)=j by omega];exact hcell j v hj)
         rw [this]
         simp [SV.va,SV.vas_eq,qz,oc]
       · cases hpo
     · rename_i ha
       have hfl:f<(SV.vas (ads m) es).length:=by
        have:=(List.getElem?_eq_some_iff.1 hpo).1
        simpa [SV.vas_eq] using this
       have:=run_loadVar (w:=w) (a:=(ads m c).at i f) ha (vs:=SV.vas (ads m) es) f (fun h=>by cases h) (fun _=>hfl)
        (fun j v hj h1 h2=>by rw [Ad.at_add,show f+(j - f)=j by omega];exact hcell j v hj)
       rw [this]
       simp [SV.vas_eq,xg,hpo]
     · cases hpo
 · rename_i vs hcl
   have key:∀ f,(match partOf P t vs f with | some v=>if v.top then some ((nth m c).there,v) else none | none=>none)=some (ps,r)→(loadVar t ((ads m c).at 0 f)).run P w=.ok (r.va (ads m)) w:=by
    intro f h
    cases hpo:partOf P t vs f with
    | none=>simp [hpo] at h
    | some v=>
      simp only [hpo] at h
      split at h <;> try contradiction
      rename_i htop
      simp only [Option.some.injEq,Prod.mk.injEq] at h
      obtain ⟨rfl,rfl⟩:=h
      have hok:=hok (Ck.there_ok hp)
      simp only [Ck.ok,hcl] at hok
      obtain ⟨_,hok⟩:=hok
      have hcell:∀ j v,vs[j]? = some v→isJunk v=false→w.cell? ((ads m c).at 0 j)=some (v.va (ads m)):=by
       intro j v hj hjk
       have hjl:=(List.getElem?_eq_some_iff.1 hj).1
       have:=hok j hjl
       rw [show vs.getD j .junk=v by simp [xg,hj]] at this
       exact cellIs_of this hjk
      unfold partOf at hpo
      split at hpo
      · rename_i ha
        split at hpo
        · rename_i hle
          simp at hpo;subst hpo
          have:=run_loadVar (w:=w) (a:=(ads m c).at 0 f) ha (vs:=SV.vas (ads m) vs) f (fun _=>by simpa [SV.vas_eq] using hle) (fun h=>by cases h)
           (fun j v hj h1 h2=>by
             rw [Ad.at_add,show f+(j - f)=j by omega]
             simp only [if_true] at h2
             rw [SV.vas_eq,zf] at hj
             cases hvj:vs[j]? with
             | none=>simp [hvj] at hj
             | some u=>
               simp [hvj] at hj;subst hj
               refine hcell j u hvj ?_
               simp only [SV.top,ux] at htop
               have hmem:u∈(vs.drop f).take (P.cellsOf t):=by
                apply List.mem_of_getElem? (i:=j - f)
                rw [List.getElem?_take_of_lt (by omega),vp,show f+(j - f)=j by omega,hvj]
               have:=htop u hmem
               simpa using this)
          rw [this]
          simp [SV.va,SV.vas_eq,qz,oc]
        · cases hpo
      · rename_i ha
        have hfl:=(List.getElem?_eq_some_iff.1 hpo).1
        have:=run_loadVar (w:=w) (a:=(ads m c).at 0 f) ha (vs:=SV.vas (ads m) vs) f (fun h=>by cases h) (fun _=>by simpa [SV.vas_eq] using hfl)
         (fun j v hj h1 h2=>by
           rw [Ad.at_add,show f+(j - f)=j by omega]
           have:j=f:=by simp at h2;omega
           subst this
           rw [SV.vas_eq,zf,hpo] at hj
           simp at hj;subst hj
           refine hcell j _ hpo ?_
           cases hv:(‹SV›) <;> simp_all [SV.top,isJunk])
        rw [this]
        simp [SV.vas_eq,xg,hpo]
      · cases hpo
   split at h
   · exact key f h
   · rename_i i
     split at h <;> try contradiction
     rename_i hsz
     have hsz:=zp hsz
     have:=key _ h
     have e:(ads m c).at (i+1) f=(ads m c).at 0 (i+1+f):=by
      have:(ads m c).sz=1:=hsz
      simp only [Ad.at,this]
      congr 1
      omega
     rw [e]
     exact this
theorem loadSV_ok {P:Program} {S:Sx} {w0 w:World} {m:List (Ck C)} (hm:MemOK S w0 w m) {t:TypeId} {c i f:Nat} {ps:List Prop} {r:SV} (h:loadSV P m t c i f=some (ps,r)) (hp:allOf ps):
 (loadVar t ((ads m c).at i f)).run P w=.ok (r.va (ads m)) w:=by
 cases hl:(nth m c).alive with
 | true=>exact loadSV_okc (hm.ok _ (nth_mem (lt_of_alive hl))) h hp
 | false=>
   unfold Ck.alive at hl
   split at hl <;> try contradiction
   rename_i hd
   simp [loadSV,hd] at h
theorem lev_ok {P:Program} {S:Sx} {w0 w:World} {n:Nat} {tm:Tm} {m:List (Ck C)} {a:Act} (h:ActOK (ads m) n tm a) (hm:MemOK S w0 w m) {al:List (Nat×Bool)} (ha:AlOK tm al) {o:Oper} {ps:List Prop} {r:SV}
 (hl:lev P tm m al o.op=some (ps,r)) (hp:allOf ps):(execOp a.eval o).run P w=.ok (.value (r.va (ads m))) w:=by
 obtain ⟨dst,op,type,pos,after,guard⟩:=o
 simp only at hl
 cases op <;> simp only [lev] at hl <;> try contradiction
 case load t x=>
  split at hl <;> try contradiction
  · rename_i c i f he
    have h1:=ev_ok h hm.glob ha _ _ he
    have h2:=loadSV_ok hm hl hp
    simp [execOp,Instr.loadAt,h1,SV.va,Instr.sureAddr,h2]
  · rename_i g he
    have h1:=ev_ok h hm.glob ha _ _ he
    split at hl <;> try contradiction
    rename_i v hag hv
    simp only [Option.some.injEq,Prod.mk.injEq] at hl
    obtain ⟨_,rfl⟩:=hl
    have hc:=(hm.more.gv g v hv).1
    rw [(C g).gflat v hv noAd (ads m)] at hc
    have h2:=run_loadVar (P:=P) (w:=w) (a:=⟨g,0,none⟩) hag (vs:=[v.va (ads m)]) 0 (fun h=>by cases h) (fun _=>by simp) (fun j u hj _ h2=>by
     have:j=0:=by simp at h2;omega
     subst this
     simp only [List.getElem?_cons_zero,Option.some.injEq] at hj
     subst hj
     simpa [Addr.add] using hc)
    simp [execOp,Instr.loadAt,h1,SV.va,Instr.sureAddr,h2]
end Go.Vx
namespace Go.Vx
open Go
variable {C:Nat→Codec}
theorem SV.cell_one (ad:Nat→Ad) {v:SV} (h:v.cell=true):(v.va ad).oneCell'=true:=by
 cases v <;> first | rfl | cases h | skip
 rename_i x
 cases x <;> first | rfl | cases h
theorem SV.cell_junk {v:SV} (h:v.cell=true):isJunk v=false:=by cases v <;> first | rfl | cases h
def updParts' (cd:Codec) (x:cd.α) (f:Nat):List SV→Option cd.α
 | []=>some x
 | p :: ps=>match cd.upd x f p with
   | some y=>updParts' cd y (f+1) ps
   | none=>none
def updParts (cd:Codec) (x:cd.α) (f:Nat) (ps:List SV):Option cd.α:=match f with
 | 0=>match cd.whole ps with
   | some y=>some y
   | none=>updParts' cd x 0 ps
 | f+1=>updParts' cd x (f+1) ps
def setCk:List (Ck C)→Nat→Cells C→List (Ck C)
 | [],_,_=>[]
 | ⟨b,ba,sz,w,g,_⟩ :: r,0,cs=>⟨b,ba,sz,w,g,cs⟩ :: r
 | x :: r,c+1,cs=>x :: setCk r c cs
theorem setCkN (c:Nat) (cs:Cells C):setCk [] c cs=[]:=rfl
theorem setCk0 (x:Ck C) (r:List (Ck C)) (cs:Cells C):setCk (x :: r) 0 cs={ x with cells:=cs } :: r:=rfl
theorem setCkS (x:Ck C) (r:List (Ck C)) (c:Nat) (cs:Cells C):setCk (x :: r) (c+1) cs=x :: setCk r c cs:=rfl
def storeSV (P:Program) (m:List (Ck C)) (t:TypeId) (c i f:Nat) (x:SV):Option (List Prop×List (Ck C)):=
 if (nth m c).wr && x.plain && (x.parts.all SV.cell) && (zi x.parts.length (P.cellsOf t)) && !(zi (P.cellsOf t) 0) then
  match (nth m c).cells with
  | .rows t' l=>match updParts (C t') (l.getD i (C t').dflt) f x.parts with
    | some y=>if f+x.parts.length≤(C t').sz then some ((nth m c).there ++ [i<l.length],setCk m c (.rows t' (l.set i y))) else none
    | none=>none
  | .one vs=>match i with
    | 0=>if f+x.parts.length≤vs.length then some ((nth m c).there,setCk m c (.one (setParts vs f x.parts))) else none
    | _+1=>none
  | .mp _ _ _ _=>none
  | .it _ _ _=>none
  | .dead=>none
 else none
theorem length_setCk:∀ (m:List (Ck C)) (c:Nat) (cs:Cells C),(setCk m c cs).length=m.length
 | [],_,_=>rfl
 | _ :: _,0,_=>rfl
 | _ :: r,c+1,cs=>by simp [setCkN,setCk0,setCkS,length_setCk r c cs]
theorem nth_setCk:∀ (m:List (Ck C)) (c k:Nat) (cs:Cells C),nth (setCk m c cs) k=if k=c∧c<m.length then { nth m c with cells:=cs } else nth m k
 | [],c,k,cs=>by simp [setCkN,setCk0,setCkS]
 | x :: r,0,k,cs=>by
   cases k with
   | zero=>simp [setCkN,setCk0,setCkS,nth]
   | succ k=>simp [setCkN,setCk0,setCkS,nth]
 | x :: r,c+1,k,cs=>by
   cases k with
   | zero=>simp [setCkN,setCk0,setCkS,nth]
   | succ k=>simp [setCkN,setCk0,setCkS,nth,nth_setCk r c k cs]
theorem ads_setCk (m:List (Ck C)) (c:Nat) (cs:Cells C):ads (setCk m c cs)=ads m:=by
 funext k
 simp only [ads,nth_setCk]
 split
 · rename_i h;rw [h.1];rfl
 · rfl
theorem mem_nth {m:List (Ck C)} {x:Ck C} (h:x∈m):∃ k,k<m.length∧nth m k=x:=by
 induction m with
 | nil=>cases h
 | cons y r ih=>
   rcases List.mem_cons.1 h with h | h
   · exact ⟨0,by simp,by simp [nth,h]⟩
   · obtain ⟨k,hk,he⟩:=ih h
     exact ⟨k+1,by simp;omega,he⟩
theorem mem_setCk {m:List (Ck C)} {c:Nat} {cs:Cells C} {x:Ck C} (h:x∈setCk m c cs):(∃ k,k<m.length∧k≠c∧x=nth m k)∨(c<m.length∧x={ nth m c with cells:=cs }):=by
 obtain ⟨k,hk,he⟩:=mem_nth h
 rw [length_setCk] at hk
 rw [nth_setCk] at he
 split at he
 · rename_i hc;exact .inr ⟨hc.2,he.symm⟩
 · rename_i hc
   exact .inl ⟨k,hk,fun e=>hc ⟨e,e ▸ hk⟩,he.symm⟩
theorem Ck.ok_same {ad:Nat→Ad} {w w':World} {c:Ck C} (h:Ck.ok ad w c) (hb:w'.heap[c.block]? = w.heap[c.block]?):Ck.ok ad w' c:=by
 have hc:∀ i f,w'.cell? (c.ad.at i f)=w.cell? (c.ad.at i f):=fun i f=>World.cell?_of_block (w:=w) (a:=c.ad.at i f) hb
 unfold Ck.ok at *
 split
 · rename_i h1;simp only [h1] at h;exact ⟨h.1,fun i hi f hf=>by rw [hc];exact h.2 i hi f hf⟩
 · rename_i h1
   simp only [h1] at h
   refine ⟨h.1,fun f hf => ?_⟩
   have:=h.2 f hf
   revert this
   generalize ‹List SV›.getD f .junk=v
   intro this
   cases v <;> simp only [cellIs,hc] at this ⊢ <;> exact this
 · rename_i h1;simp only [h1] at h;exact hb.trans h
 · rename_i h1;simp only [h1] at h;exact hb.trans h
 · trivial
theorem MemOK.upd {S:Sx} {w0 w w':World} {m:List (Ck C)} (h:MemOK S w0 w m) {c:Nat} (hw:(nth m c).wr=true) (hl:(nth m c).live=true) (hos:w'.os=w.os) (htp:w'.tape=w.tape∧w.drawn≤w'.drawn) (hout:w'.output=w.output)
 (hsz:w'.heap.size=w.heap.size) (hheap:∀ k,k≠(nth m c).block→w'.heap[k]? = w.heap[k]?) (hfz:∀ a,w'.frozen? a=w.frozen? a) (cs:Cells C)
 (_hlive:({ nth m c with cells:=cs }:Ck C).live=true) (hok:Ck.ok (ads m) w' { nth m c with cells:=cs }) (hd:CsIn m true cs):MemOK S w0 w' (setCk m c cs):=by
 have hcl:=lt_of_alive (Ck.live_iff.1 hl).1
 have hon:=(Ck.live_iff.1 hl).2
 have hcs:({ nth m c with cells:=cs }:Ck C).on=true:=hon
 have hmore:More S w0 w' (setCk m c cs):=by
  refine h.more.mono h.inS (fun k hk hno=>hheap k (fun e => ?_)) (fun x hx hxl => ?_) h.size (by omega) (fun x hx => ?_)
  · exact hno _ (nth_mem hcl) hw hl e.symm
  · rcases mem_setCk hx with ⟨k,hk,_,rfl⟩ | ⟨_,rfl⟩
    · exact .inl ⟨_,nth_mem hk,hxl,rfl,id⟩
    · exact .inl ⟨_,nth_mem hcl,hl,rfl,id⟩
  · rcases mem_setCk hx with ⟨k,hk,_,rfl⟩ | ⟨_,rfl⟩
    · exact CsIn.self (nth_mem hk)
    · show CsIn m (nth m c).wr cs
      rw [hw];exact hd
 refine ⟨hos.trans h.os,⟨htp.1.trans h.tape.1,Nat.le_trans h.tape.2 htp.2⟩,hout.trans h.output,by rw [hsz];exact h.size,?_,?_,?_,?_,?_,?_,hmore⟩
 · intro k hk hno
   have hkc:k≠(nth m c).block:=by
    rintro rfl
    exact hno (h.inS _ (nth_mem hcl) hw hon hk)
   rw [hheap k hkc]
   exact h.keep k hk hno
 · intro x hx hxw hxo hxb
   rcases mem_setCk hx with ⟨k,hk,hkc,rfl⟩ | ⟨_,rfl⟩
   · exact h.inS _ (nth_mem hk) hxw hxo hxb
   · exact h.inS (nth m c) (nth_mem hcl) hw hon hxb
 · intro x hx hxo
   rw [ads_setCk]
   rcases mem_setCk hx with ⟨k,hk,hkc,rfl⟩ | ⟨_,rfl⟩
   · have hxo':=h.ok _ (nth_mem hk) hxo
     cases hxl:(nth m k).alive with
     | false=>unfold Ck.alive at hxl;unfold Ck.ok;split at hxl <;> simp_all
     | true=>
       refine Ck.ok_same hxo' (hheap _ ?_)
       exact (h.apart c k hcl hk (Ne.symm hkc) hw hl (Ck.live_iff.2 ⟨hxl,hxo⟩)).symm
   · exact hok
 · intro x hx hxw hxl a ha
   rw [hfz]
   rcases mem_setCk hx with ⟨k,hk,hkc,rfl⟩ | ⟨_,rfl⟩
   · exact h.wrok _ (nth_mem hk) hxw hxl a ha
   · exact h.wrok (nth m c) (nth_mem hcl) hw hl a ha
 · intro i j hi hj hij hiw hil hjl
   rw [length_setCk] at hi hj
   have hb:∀ k,(nth (setCk m c cs) k).block=(nth m k).block:=by
    intro k;rw [nth_setCk];split
    · rename_i e;rw [e.1]
    · rfl
   have hwr:∀ k,(nth (setCk m c cs) k).wr=(nth m k).wr:=by
    intro k;rw [nth_setCk];split
    · rename_i e;rw [e.1]
    · rfl
   have hlv:∀ k,(nth (setCk m c cs) k).live=true→(nth m k).live=true:=by
    intro k hk;rw [nth_setCk] at hk;split at hk
    · rename_i e;rw [e.1];exact hl
    · exact hk
   rw [hb,hb]
   rw [hwr] at hiw
   exact h.apart i j hi hj hij hiw (hlv _ hil) (hlv _ hjl)
 · intro x hx hxo
   rw [hsz]
   rcases mem_setCk hx with ⟨k,hk,hkc,rfl⟩ | ⟨_,rfl⟩
   · exact h.lt _ (nth_mem hk) hxo
   · exact h.lt (nth m c) (nth_mem hcl) hon
theorem heap_setCells (b:Nat):∀ (vs:List Value) (o:Nat) (w:World),(∀ k,k≠b→(w.setCells b o vs).heap[k]? = w.heap[k]?)∧(w.setCells b o vs).heap.size=w.heap.size∧
 (w.setCells b o vs).os=w.os∧((w.setCells b o vs).tape=w.tape∧w.drawn≤(w.setCells b o vs).drawn)∧(w.setCells b o vs).output=w.output
 | [],_,_=>⟨fun _ _=>rfl,rfl,rfl,⟨rfl,zw _⟩,rfl⟩
 | v :: r,o,w=>by
   obtain ⟨h1,h2,h3,h4,h5⟩:=heap_setCells b r (o+1) (w.setCell ⟨b,o,none⟩ v)
   refine ⟨fun k hk => ?_,?_,h3,h4,h5⟩
   · rw [World.setCells,h1 k hk];exact heap_setCell_other _ _ _ _ hk
   · rw [World.setCells,h2];simp
theorem row_ne {sz i i' f f':Nat} (h:f<sz) (h':f'<sz) (e:i*sz+f=i'*sz+f'):i=i'∧f=f':=by
 have hpos:0<sz:=by omega
 have h1:(i*sz+f) / sz=i:=by rw [xn,Nat.mul_add_div hpos,ph h];rfl
 have h2:(i'*sz+f') / sz=i':=by rw [xn,Nat.mul_add_div hpos,ph h'];rfl
 have:i=i':=by rw [← h1,← h2,e]
 subst this
 exact ⟨rfl,by omega⟩
theorem updParts'_ok (cd:Codec) (ad:Nat→Ad):∀ (ps:List SV) (x y:cd.α) (f:Nat),updParts' cd x f ps=some y→
 ∀ j,((cd.enc y).map (SV.va ad))[j]? = if f≤j∧j<f+ps.length∧j<cd.sz then (ps.map (SV.va ad))[j - f]? else ((cd.enc x).map (SV.va ad))[j]?
 | [],x,y,f,h,j=>by simp [updParts'] at h;subst h;rw [if_neg (by simp;omega)]
 | p :: ps,x,y,f,h,j=>by
   simp only [updParts'] at h
   split at h <;> try contradiction
   rename_i z hz
   have ih:=updParts'_ok cd ad ps z y (f+1) h j
   rw [ih,cd.upd_ok ad x f p z hz]
   by_cases h1:f+1≤j∧j<f+1+ps.length∧j<cd.sz
   · rw [if_pos h1,if_pos (by simp;omega)]
     rw [show j - f=(j - (f+1))+1 by omega];simp
   · rw [if_neg h1]
     by_cases h2:f=j∧j<cd.sz
     · obtain ⟨rfl,h2⟩:=h2
       rw [if_pos (by simp;omega),rf]
       have:=cd.len x
       simp;omega
     · rw [if_neg (by simp;omega),rf]
       split
       · rename_i e
         subst e
         have:=cd.len x
         rw [if_neg (by simp;omega),yk (by simp;omega)]
       · rfl
theorem updParts_ok (cd:Codec) (ad:Nat→Ad) (ps:List SV) (x y:cd.α) (f:Nat) (h:updParts cd x f ps=some y):
 ∀ j,((cd.enc y).map (SV.va ad))[j]? = if f≤j∧j<f+ps.length∧j<cd.sz then (ps.map (SV.va ad))[j - f]? else ((cd.enc x).map (SV.va ad))[j]? := by
 intro j
 unfold updParts at h
 split at h
 · split at h
   · rename_i y' hw
     simp only [Option.some.injEq] at h;subst h
     have e:=cd.whole_ok ad _ _ hw
     have hl:=congrArg wi e
     simp only [zn,cd.len] at hl
     by_cases hj:j<cd.sz
     · rw [if_pos (by omega),e,rq]
     · rw [if_neg (by omega),yk (by simp [cd.len];omega),yk (by simp [cd.len];omega)]
   · exact updParts'_ok cd ad ps x y 0 h j
 · rename_i f
   exact updParts'_ok cd ad ps x y (f+1) h j
theorem updParts'_flat (cd:Codec):∀ (ps:List SV) (x y:cd.α) (f:Nat),updParts' cd x f ps=some y→ps≠[]→cd.deep=false
 | [],_,_,_,_,h=>absurd rfl h
 | p :: ps,x,y,f,h,_=>by
   cases hd:cd.deep with
   | false=>rfl
   | true=>
     simp only [updParts'] at h
     rw [cd.upd_deep hd x f p] at h
     cases h
theorem updParts_flat {cd:Codec} {ps:List SV} {x y:cd.α} {f:Nat} (h:updParts cd x f ps=some y) (hp:ps≠[]):cd.deep=false:=by
 cases hd:cd.deep with
 | false=>rfl
 | true=>
   unfold updParts at h
   split at h
   · rw [cd.whole_deep hd] at h
     simp only at h
     exact absurd (updParts'_flat cd _ _ _ _ h hp) (by simp [hd])
   · exact absurd (updParts'_flat cd _ _ _ _ h hp) (by simp [hd])
theorem setParts_get:∀ (ps vs:List SV) (f j:Nat),(setParts vs f ps)[j]? = if f≤j∧j<f+ps.length∧j<vs.length then ps[j - f]? else vs[j]?
 | [],vs,f,j=>by rw [if_neg (by simp;omega)];rfl
 | p :: ps,vs,f,j=>by
   rw [setParts,setParts_get ps _ (f+1) j]
   by_cases h1:f+1≤j∧j<f+1+ps.length∧j<vs.length
   · rw [if_pos (by simp;omega),if_pos (by simp;omega)]
     rw [show j - f=(j - (f+1))+1 by omega];simp
   · rw [if_neg (by simp;omega)]
     by_cases h2:f=j∧j<vs.length
     · obtain ⟨rfl,h2⟩:=h2
       rw [if_pos (by simp;omega),rf]
       simp;omega
     · rw [if_neg (by simp;omega),rf]
       split
       · rename_i e
         subst e
         rw [if_neg (by omega),yk (by omega)]
       · rfl
theorem length_setParts:∀ (ps vs:List SV) (f:Nat),(setParts vs f ps).length=vs.length
 | [],_,_=>rfl
 | p :: ps,vs,f=>by rw [setParts,length_setParts ps];simp
theorem storeSV_ok {P:Program} {S:Sx} {w0 w:World} {m m':List (Ck C)} (hm:MemOK S w0 w m) {t:TypeId} {c i f:Nat} {ps:List Prop} {x:SV} (h:storeSV P m t c i f x=some (ps,m')) (hp:allOf ps):
 ∃ w',(storeVar t ((ads m c).at i f) (x.va (ads m))).run P w=.ok () w'∧MemOK S w0 w' m'∧ads m'=ads m∧m'.length=m.length:=by
 unfold storeSV at h
 split at h <;> try contradiction
 rename_i hcond
 simp only [zq,ux,yi] at hcond
 obtain ⟨⟨⟨⟨hwr,hpl⟩,hcell⟩,hlen⟩,hn0⟩:=hcond
 have hlen:x.parts.length=P.cellsOf t:=zp hlen
 have hn0:P.cellsOf t≠0:=xc hn0
 have hcs:=SV.plain_cells (ads m) hpl
 have hone:∀ v∈x.parts.map (SV.va (ads m)),v.oneCell'=true:=by
  intro v hv
  obtain ⟨u,hu,rfl⟩:=List.mem_map.1 hv
  exact SV.cell_one _ (hcell u hu)
 -- the store itself
 have hrun:∀ (i':Nat),(nth m c).live=true→(∀ j,j<x.parts.length→(w.cell? ((ads m c).at i' (f+j))).isSome=true)→
  (storeVar t ((ads m c).at i' f) (x.va (ads m))).run P w=.ok () (w.setCells (nth m c).block ((nth m c).base+(i'*(nth m c).sz+f)) (x.parts.map (SV.va (ads m)))):=by
  intro i' hlive hc
  have h2:=run_storeCells_cells (P:=P) (nth m c).block ((nth m c).base+(i'*(nth m c).sz+f)) (x.parts.map (SV.va (ads m))) 0 w
   (fun j hj=>by
     have:=hc j (by simpa using hj)
     simpa [ads,Ck.ad,Ad.at,qy] using this)
   (fun j hj=>hm.wrok _ (nth_mem (lt_of_alive (Ck.live_iff.1 hlive).1)) hwr hlive _ rfl) hone
  unfold storeVar
  simp only [Sem.run_bind,run_sizeOf0 hn0,Result.andThen_ok,ne_eq,hcs,SV.vas_eq]
  simpa [ads,Ck.ad,Ad.at,hlen] using h2
 have hread:∀ i' f',∀ w':World,w'=w.setCells (nth m c).block ((nth m c).base+(i'*(nth m c).sz+f)) (x.parts.map (SV.va (ads m)))→
  (∀ j,j<x.parts.length→(w.cell? ((ads m c).at i' (f+j))).isSome=true)→f+x.parts.length≤(nth m c).sz→f'<(nth m c).sz→∀ k,
  w'.cell? ((nth m c).ad.at k f')=if k=i'∧f≤f'∧f'<f+x.parts.length then (x.parts.map (SV.va (ads m)))[f' - f]? else w.cell? ((nth m c).ad.at k f'):=by
  intro i' f' w' hw' hc hfs hf' k
  subst hw'
  split
  · rename_i hk
    obtain ⟨rfl,h1,h2⟩:=hk
    have:=World.cell?_setCells_in (nth m c).block (x.parts.map (SV.va (ads m))) ((nth m c).base+(k*(nth m c).sz+f)) w
     (fun j hj=>by
       have:=hc j (by simpa using hj)
       simpa [ads,Ck.ad,Ad.at,qy] using this) (f' - f) (by simp;omega)
    have e:(nth m c).ad.at k f'=⟨(nth m c).block,(nth m c).base+(k*(nth m c).sz+f)+(f' - f),none⟩:=by
     simp [Ck.ad,Ad.at];omega
    rw [e,this]
    rw [zt]
  · rename_i hk
    refine World.cell?_setCells_out _ _ _ _ _ (fun _ _ => ?_)
    simp only [Ck.ad,Ad.at,zn]
    by_cases hki:k=i'
    · subst hki;omega
    · rcases vb ((nth m c).base+(k*(nth m c).sz+f')) ((nth m c).base+(i'*(nth m c).sz+f)) with h1 | h1
      · exact .inl h1
      · right
        rcases vb ((nth m c).base+(k*(nth m c).sz+f')) ((nth m c).base+(i'*(nth m c).sz+f)+x.parts.length) with h2 | h2
        · exfalso
          have e:k*(nth m c).sz+f'=i'*(nth m c).sz+(f+(k*(nth m c).sz+f' - (i'*(nth m c).sz+f))):=by omega
          exact hki (row_ne hf' (by omega) e).1
        · exact h2
 have hread0:∀ f',(∀ j,j<x.parts.length→(w.cell? ((ads m c).at 0 (f+j))).isSome=true)→
  (w.setCells (nth m c).block ((nth m c).base+(0*(nth m c).sz+f)) (x.parts.map (SV.va (ads m)))).cell? ((nth m c).ad.at 0 f')=if 0=0∧f≤f'∧f'<f+x.parts.length then (x.parts.map (SV.va (ads m)))[f' - f]? else w.cell? ((nth m c).ad.at 0 f'):=by
  intro f' hc
  split
  · rename_i hk
    obtain ⟨_,h1,h2⟩:=hk
    have:=World.cell?_setCells_in (nth m c).block (x.parts.map (SV.va (ads m))) ((nth m c).base+(0*(nth m c).sz+f)) w
     (fun j hj=>by
       have:=hc j (by simpa using hj)
       simpa [ads,Ck.ad,Ad.at,qy] using this) (f' - f) (by simp;omega)
    have e:(nth m c).ad.at 0 f'=⟨(nth m c).block,(nth m c).base+(0*(nth m c).sz+f)+(f' - f),none⟩:=by
     simp [Ck.ad,Ad.at];omega
    rw [e,this]
    rw [zt]
  · rename_i hk
    refine World.cell?_setCells_out _ _ _ _ _ (fun _ _ => ?_)
    simp only [Ck.ad,Ad.at,zn]
    omega
 split at h <;> try contradiction
 · rename_i t' l hcl
   split at h <;> try contradiction
   rename_i y hy
   split at h <;> try contradiction
   rename_i hfs
   simp only [Option.some.injEq,Prod.mk.injEq] at h
   obtain ⟨rfl,rfl⟩:=h
   obtain ⟨hp0,hp⟩:=(allOf_append _ _).1 hp
   simp only [allOf,and_true] at hp
   have hon:=Ck.there_ok hp0
   have hlive:(nth m c).live=true:=by simp [Ck.live,Ck.alive,hcl,hon]
   have hok:=hm.ok _ (nth_mem (lt_of_alive (Ck.live_iff.1 hlive).1)) hon
   simp only [Ck.ok,hcl] at hok
   obtain ⟨hsz,hok⟩:=hok
   have hc:∀ j,j<x.parts.length→(w.cell? ((ads m c).at i (f+j))).isSome=true:=by
    intro j hj
    have:=hok i hp (f+j) (by omega)
    simp only [ads];rw [this];rfl
   obtain ⟨g1,g2,g3,g4,g5⟩:=heap_setCells (nth m c).block (x.parts.map (SV.va (ads m))) ((nth m c).base+(i*(nth m c).sz+f)) w
   refine ⟨_,hrun i hlive hc,?_,ads_setCk _ _ _,length_setCk _ _ _⟩
   have hne:x.parts≠[]:=by intro e;rw [e] at hlen;exact hn0 hlen.symm
   refine hm.upd hwr hlive g3 g4 g5 g2 g1 (fun a=>World.frozen?_setCells _ _ _ _ _) _ (by simp [Ck.live,Ck.alive,Ck.on] at hon ⊢;exact hon) ?_ (CsIn.rows (RowsOf.flat (updParts_flat hy hne) _))
   simp only [Ck.ok]
   refine ⟨hsz,fun k hk f' hf' => ?_⟩
   rw [zh] at hk
   have:=hread i f' _ rfl hc (by omega) (by omega) k
   have e0:({ nth m c with cells:=.rows t' (l.set i y) }:Ck C).ad=(nth m c).ad:=rfl
   rw [e0,this]
   have hu:=updParts_ok (C t') (ads m) x.parts _ y f hy f'
   have hg:∀ z:(C t').α,some ((((C t').enc z).getD f' .junk).va (ads m))=(((C t').enc z).map (SV.va (ads m)))[f']? := by
    intro z
    have:=(C t').len z
    rw [zf,zt (by omega)]
    simp [xg,zt (show f'<((C t').enc z).length by omega)]
   by_cases hki:k=i
   · subst hki
     have e1:(l.set k y).getD k (C t').dflt=y:=by simp [xg,hp]
     rw [e1,hg,hu]
     by_cases h3:f≤f'∧f'<f+x.parts.length
     · rw [if_pos ⟨rfl,h3⟩,if_pos (by omega)]
     · rw [if_neg (fun e=>h3 e.2),if_neg (by omega),hok k hk f' hf',hg]
   · have e1:(l.set i y).getD k (C t').dflt=l.getD k (C t').dflt:=by simp [xg,tx (Ne.symm hki)]
     rw [e1,if_neg (fun e=>hki e.1),hok k hk f' hf']
 · rename_i vs hcl
   split at h <;> try contradiction
   split at h <;> try contradiction
   rename_i hfs
   simp only [Option.some.injEq,Prod.mk.injEq] at h
   obtain ⟨rfl,rfl⟩:=h
   have hon:=Ck.there_ok hp
   have hlive:(nth m c).live=true:=by simp [Ck.live,Ck.alive,hcl,hon]
   have hok:=hm.ok _ (nth_mem (lt_of_alive (Ck.live_iff.1 hlive).1)) hon
   simp only [Ck.ok,hcl] at hok
   obtain ⟨hsz,hok⟩:=hok
   have hcell':∀ j,j<vs.length→(w.cell? ((nth m c).ad.at 0 j)).isSome=true:=by
    intro j hj
    have:=hok j hj
    revert this
    generalize vs.getD j .junk=u
    intro this
    cases u <;> simp only [cellIs] at this <;> first | (obtain ⟨v,hv⟩:=this;simp [hv]) | simp [this]
   have hc:∀ j,j<x.parts.length→(w.cell? ((ads m c).at 0 (f+j))).isSome=true:=fun j hj=>hcell' (f+j) (by omega)
   obtain ⟨g1,g2,g3,g4,g5⟩:=heap_setCells (nth m c).block (x.parts.map (SV.va (ads m))) ((nth m c).base+(0*(nth m c).sz+f)) w
   refine ⟨_,hrun 0 hlive hc,?_,ads_setCk _ _ _,length_setCk _ _ _⟩
   refine hm.upd hwr hlive g3 g4 g5 g2 g1 (fun a=>World.frozen?_setCells _ _ _ _ _) _ (by simp [Ck.live,Ck.alive,Ck.on] at hon ⊢;exact hon) ?_ (CsIn.other (fun _ _ e=>by cases e) fun _ _ _ _ e=>by cases e)
   simp only [Ck.ok]
   refine ⟨by rw [length_setParts];exact hsz,fun f' hf' => ?_⟩
   rw [length_setParts] at hf'
   have:=hread0 f' hc
   have e0:({ nth m c with cells:=.one (setParts vs f x.parts) }:Ck C).ad=(nth m c).ad:=rfl
   have hget:=setParts_get x.parts vs f f'
   by_cases h3:f≤f'∧f'<f+x.parts.length
   · rw [if_pos ⟨rfl,h3⟩] at this
     rw [if_pos (by omega)] at hget
     have hlt:f' - f<x.parts.length:=by omega
     rw [zt hlt] at hget
     have e1:(setParts vs f x.parts).getD f' .junk=x.parts[f' - f]:=by simp [xg,hget]
     have hjk:=SV.cell_junk (hcell _ (List.getElem_mem hlt))
     rw [e0,e1]
     rw [zf,zt hlt] at this
     revert hjk this
     generalize x.parts[f' - f]=u
     intro this hjk
     cases u <;> simp only [cellIs] <;> first | exact this | cases hjk
   · rw [if_neg (fun e=>h3 e.2)] at this
     rw [if_neg (by omega)] at hget
     have e1:(setParts vs f x.parts).getD f' .junk=vs.getD f' .junk:=by simp [xg,hget]
     have hv:=hok f' hf'
     rw [e0,e1]
     revert hv
     generalize vs.getD f' .junk=u
     intro hv
     cases u <;> simp only [cellIs] at hv ⊢ <;> rw [this] <;> exact hv
end Go.Vx
namespace Go.Vx
open Go
variable {C:Nat→Codec}
def Ck.lt (n:Nat) (c:Ck C):Bool:=match c.cells with
 | .one vs=>SV.lts n vs
 | .it mc _ _=>ye mc n
 | _=>true
def memLt (n:Nat):List (Ck C)→Bool
 | []=>true
 | c :: r=>c.lt n && memLt n r
def tmLt (n:Nat):Tm→Bool
 | []=>true
 | (_,v) :: r=>SV.lt n v && tmLt n r
theorem memLt_mem {n:Nat} {m:List (Ck C)} (h:memLt n m=true) {c:Ck C} (hc:c∈m):c.lt n=true:=by
 induction m with
 | nil=>cases hc
 | cons x r ih=>
   simp only [memLt,zq] at h
   rcases List.mem_cons.1 hc with e | e
   · subst e;exact h.1
   · exact ih h.2 e
theorem tmLt_get {n:Nat}:∀ {tm:Tm},tmLt n tm=true→∀ t,SV.lt n (get tm t)=true
 | [],_,t=>rfl
 | (k,v) :: r,h,t=>by
   simp only [tmLt,zq] at h
   rw [get_put]
   split
   · exact h.1
   · exact tmLt_get h.2 t
theorem SV.lts_getD {n:Nat}:∀ {vs:List SV},SV.lts n vs=true→∀ f,SV.lt n (vs.getD f .junk)=true
 | [],_,_=>rfl
 | v :: r,h,0=>by simp only [SV.lts,zq] at h;exact h.1
 | v :: r,h,f+1=>by simp only [SV.lts,zq] at h;exact SV.lts_getD h.2 f
theorem Ck.ok_ads {ad ad':Nat→Ad} {n:Nat} (ha:∀ c,c<n→ad c=ad' c) {w:World} {c:Ck C} (hl:c.lt n=true) (h:Ck.ok ad w c):Ck.ok ad' w c:=by
 unfold Ck.ok at *
 unfold Ck.lt at hl
 split
 · rename_i t l h1
   simp only [h1] at h
   refine ⟨h.1,fun i hi f hf => ?_⟩
   rw [h.2 i hi f hf]
   have:=(C t).flat (l.getD i (C t).dflt) ad ad'
   have hlen:=(C t).len (l.getD i (C t).dflt)
   generalize (C t).enc (l.getD i (C t).dflt)=es at this hlen
   have e:=congrArg (fun l=>l[f]?) this
   simp only [zf] at e
   rw [zt (by omega)] at e
   simp only [yr,Option.some.injEq] at e
   simp [xg,zt (show f<es.length by omega),e]
 · rename_i vs h1
   simp only [h1] at h hl
   refine ⟨h.1,fun f hf => ?_⟩
   have h2:=h.2 f hf
   have h3:=SV.lts_getD hl f
   revert h2 h3
   generalize vs.getD f .junk=v
   intro h2 h3
   have e:=SV.va_congr ha v h3
   cases v <;> simp only [cellIs] at h2 ⊢ <;> first | exact h2 | (rw [← e];exact h2)
 · rename_i h1;simp only [h1] at h;exact h
 · rename_i h1;simp only [h1] at h hl;rw [← ha _ (by simpa using hl)];exact h
 · trivial
theorem ActOK.ads {ad ad':Nat→Ad} {n k:Nat} (ha:∀ c,c<k→ad c=ad' c) {tm:Tm} {a:Act} (hl:tmLt k tm=true) (h:ActOK ad n tm a):ActOK ad' n tm a:=by
 refine ⟨h.defers,h.size,fun t => ?_,h.inv⟩
 rcases h.tmps t with h1 | h1
 · exact .inl h1
 · right;rw [h1,SV.va_congr ha _ (tmLt_get hl t)]
theorem nth_append (m:List (Ck C)) (x:Ck C) (k:Nat):nth (m ++ [x]) k=if k<m.length then nth m k else if k=m.length then x else Ck.zero:=by
 induction m generalizing k with
 | nil=>cases k <;> simp [nth]
 | cons y r ih=>
   cases k with
   | zero=>simp [nth]
   | succ k=>simp [nth,ih]
theorem ads_append (m:List (Ck C)) (x:Ck C):∀ c,c<m.length→ads m c=ads (m ++ [x]) c:=by
 intro c hc;simp [ads,nth_append,hc]
theorem ads_append_new (m:List (Ck C)) (x:Ck C):ads (m ++ [x]) m.length=x.ad:=by simp [ads,nth_append]
theorem heap_alloc_lt (w:World) (o:Obj) {k:Nat} (h:k<w.heap.size):(w.alloc o).heap[k]? = w.heap[k]? := Go.RowKit.Below.heap_alloc w o k h
theorem heap_alloc_at (w:World) (o:Obj):(w.alloc o).heap[w.heap.size]? = some o:=by
 show (w.heap.push o)[w.heap.size]? = _
 simp
theorem MemOK.newO' {S:Sx} {w0 w:World} {m:List (Ck C)} (h:MemOK S w0 w m) (hl:memLt m.length m=true) (o:Obj) (ho:∀ (w:World) (a:Addr),w.heap[a.block]? = some o→w.frozen? a=false) (sz:Nat) (cs:Cells C) (g:Option Bool) (hg:g.getD true=true)
 (hok:Ck.ok (ads (m ++ [⟨w.heap.size,0,sz,true,g,cs⟩])) (w.alloc o) ⟨w.heap.size,0,sz,true,g,cs⟩)
 (hd:∀ t x,cs.Has t x→(∃ c0∈m,c0.cells.Has t x∧((C t).own=true→true=true→c0.wr=true))∨((C t).good (w.alloc o) x∧∀ b∈(C t).blks x,Blk S w0 (w.alloc o) (m ++ [⟨w.heap.size,0,sz,true,g,cs⟩]) ((C t).own && true) b)):
 MemOK S w0 (w.alloc o) (m ++ [⟨w.heap.size,0,sz,true,g,cs⟩]):=by
 have hon:(⟨w.heap.size,0,sz,true,g,cs⟩:Ck C).on=true:=by cases g <;> first | rfl | exact hg
 have hm:∀ x,x∈m ++ [(⟨w.heap.size,0,sz,true,g,cs⟩:Ck C)]→x∈m∨x=⟨w.heap.size,0,sz,true,g,cs⟩:=by
  intro x hx;simpa using hx
 have hmore:More S w0 (w.alloc o) (m ++ [⟨w.heap.size,0,sz,true,g,cs⟩]):=by
  refine h.more.mono' h.inS (fun k hk _=>heap_alloc_lt w _ hk) (fun x hx hxl => ?_) h.size (by simp) (fun x hx t y hy => ?_)
  · rcases hm x hx with hx | rfl
    · exact .inl ⟨x,hx,hxl,rfl,id⟩
    · exact .inr (zw _)
  · rcases hm x hx with hx | rfl
    · exact .inl ⟨x,hx,hy,fun _ h=>h⟩
    · exact hd t y hy
 refine ⟨h.os,h.tape,h.output,by have:=h.size;simp;omega,?_,?_,?_,?_,?_,?_,hmore⟩
 · intro k hk hno
   have hk':k<w.heap.size:=by have:=h.size;omega
   rw [heap_alloc_lt w _ hk']
   exact h.keep k hk hno
 · intro x hx hxw hxo hxb
   rcases hm x hx with hx | rfl
   · exact h.inS _ hx hxw hxo hxb
   · have:=h.size;exact absurd hxb (Nat.not_lt.2 this)
 · intro x hx hxo
   rcases hm x hx with hx | rfl
   · refine Ck.ok_ads (ads_append m _) (memLt_mem hl hx) (Ck.ok_same (h.ok _ hx hxo) (heap_alloc_lt w _ (h.lt _ hx hxo)))
   · exact hok
 · intro x hx hw hlv a ha
   rcases hm x hx with hx | rfl
   · rw [World.frozen?_of_block (w:=w) (by rw [ha];exact heap_alloc_lt w _ (h.lt _ hx (Ck.live_iff.1 hlv).2))]
     exact h.wrok _ hx hw hlv a ha
   · obtain ⟨b,off,s⟩:=a
     simp only at ha;subst ha
     exact ho _ _ (heap_alloc_at w o)
 · intro i j hi hj hij hiw hil hjl
   simp only [zx,vu] at hi hj
   rw [nth_append] at hiw hil ⊢
   rw [nth_append] at hjl ⊢
   by_cases h1:i<m.length
   · by_cases h2:j<m.length
     · rw [if_pos h1] at hiw hil ⊢
       rw [if_pos h2] at hjl ⊢
       exact h.apart i j h1 h2 hij hiw hil hjl
     · have:j=m.length:=by omega
       subst this
       rw [if_pos h1] at hil
       rw [if_pos h1,if_neg (ua _),if_pos rfl]
       exact Nat.ne_of_lt (h.lt _ (nth_mem h1) (Ck.live_iff.1 hil).2)
   · have:i=m.length:=by omega
     subst this
     have h2:j<m.length:=by omega
     rw [if_pos h2] at hjl
     rw [if_pos h2,if_neg (ua _),if_pos rfl]
     exact Nat.ne_of_gt (h.lt _ (nth_mem h2) (Ck.live_iff.1 hjl).2)
 · intro x hx hxo
   rcases hm x hx with hx | rfl
   · have:=h.lt _ hx hxo;simp;omega
   · simp
theorem MemOK.newO {S:Sx} {w0 w:World} {m:List (Ck C)} (h:MemOK S w0 w m) (hl:memLt m.length m=true) (o:Obj) (ho:∀ (w:World) (a:Addr),w.heap[a.block]? = some o→w.frozen? a=false) (sz:Nat) (cs:Cells C)
 (hok:Ck.ok (ads (m ++ [⟨w.heap.size,0,sz,true,none,cs⟩])) (w.alloc o) ⟨w.heap.size,0,sz,true,none,cs⟩) (hd:CsIn m true cs):
 MemOK S w0 (w.alloc o) (m ++ [⟨w.heap.size,0,sz,true,none,cs⟩]):=by
 refine h.newO' hl o ho sz cs none rfl hok fun t x hx => ?_
 rcases hd t x hx with h1 | hfl
 · exact .inl h1
 · refine .inr ⟨hfl.2 _,fun b hb => ?_⟩
   rw [hfl.1] at hb;cases hb
theorem MemOK.new {S:Sx} {w0 w:World} {m:List (Ck C)} (h:MemOK S w0 w m) (hl:memLt m.length m=true) (arr:Array Value) (e:TypeId) (sz:Nat) (cs:Cells C)
 (hok:Ck.ok (ads (m ++ [⟨w.heap.size,0,sz,true,none,cs⟩])) (w.alloc (.cells arr e)) ⟨w.heap.size,0,sz,true,none,cs⟩) (hd:CsIn m true cs):
 MemOK S w0 (w.alloc (.cells arr e)) (m ++ [⟨w.heap.size,0,sz,true,none,cs⟩]):=
 h.newO hl (.cells arr e) (fun w a hw=>by simp [World.frozen?,hw]) sz cs hok hd
theorem MemOK.drew {S:Sx} {w0 w:World} {m:List (Ck C)} (h:MemOK S w0 w m):MemOK S w0 w.drew m:=by
 refine ⟨h.os,⟨h.tape.1,Nat.le_succ_of_le h.tape.2⟩,h.output,h.size,h.keep,h.inS,fun c hc ho => ?_,h.wrok,h.apart,h.lt,h.more.mono h.inS (fun _ _ _=>rfl) (fun c hc hl=>.inl ⟨c,hc,hl,rfl,id⟩) h.size (zw _) (fun c hc=>CsIn.self hc)⟩
 exact Ck.ok_same (h.ok c hc ho) rfl
def SV.isV:SV→Value→Bool
 | .int k n,.int k' n'=>sameKind k k' && decide (n=n')
 | .bool s,.bool b=>s.val == b
 | .nilp,.pointer none=>true
 | .nils,.slice none 0 0=>true
 | .val (.slice none 0 0),.slice none 0 0=>true
 | .nili,.nilIface=>true
 | .nilf,.nilFunc=>true
 | .val (.string s),.string s'=>zi s.size 0 && zi s'.size 0
 | .val .nilIface,.nilIface=>true
 | _,_=>false
def SV.isVs:List SV→List Value→Bool
 | [],[]=>true
 | a :: r,b :: s=>SV.isV a b && SV.isVs r s
 | _,_=>false
theorem SV.isV_ok (ad:Nat→Ad) {s:SV} {v:Value} (h:SV.isV s v=true):s.va ad=v:=by
 unfold SV.isV at h
 split at h <;> try (first | contradiction | rfl)
 · simp only [zq,decide_eq_true_eq] at h
   rw [sameKind_eq h.1,h.2];rfl
 · simp at h;simp [SV.va,h]
 · simp only [zq] at h
   have h1:=zp h.1
   have h2:=zp h.2
   rename_i s s'
   obtain ⟨d⟩:=s
   obtain ⟨d'⟩:=s'
   have e1:d = #[]:=qt h1
   have e2:d' = #[]:=qt h2
   simp [SV.va,e1,e2]
theorem SV.isVs_ok (ad:Nat→Ad):∀ {s:List SV} {v:List Value},SV.isVs s v=true→s.map (SV.va ad)=v
 | [],[],_=>rfl
 | a :: r,b :: s,h=>by
   simp only [SV.isVs,zq] at h
   simp [SV.isV_ok ad h.1,SV.isVs_ok ad h.2]
 | [],_ :: _,h=>by simp [SV.isVs] at h
 | _ :: _,[],h=>by simp [SV.isVs] at h
def zeroOK (P:Program) (cd:Codec) (e:TypeId):Bool:=
 match P.info? e with
 | some i=>match i.zero with
   | some z=>SV.isVs (cd.enc cd.dflt) z.cells.toList && zi i.size cd.sz && !(zi cd.sz 0)
   | none=>false
 | none=>false
theorem zeroOK_ok {P:Program} {cd:Codec} {e:TypeId} (h:zeroOK P cd e=true):∃ i z,P.info? e=some i∧i.zero=some z∧(∀ ad,(cd.enc cd.dflt).map (SV.va ad)=z.cells.toList)∧i.size=cd.sz∧cd.sz≠0∧z.cells.size=cd.sz:=by
 unfold zeroOK at h
 split at h <;> try contradiction
 rename_i i hi
 split at h <;> try contradiction
 rename_i z hz
 simp only [zq,yi] at h
 refine ⟨i,z,hi,hz,fun ad=>SV.isVs_ok ad h.1.1,zp h.1.2,xc h.2,?_⟩
 have:=congrArg wi (SV.isVs_ok (fun _=>⟨0,0,0,true⟩) h.1.1)
 simp [cd.len] at this
 exact this.symm
theorem MemOK.off' {S:Sx} {w0 w:World} {m:List (Ck C)} (h:MemOK S w0 w m) (hl:memLt m.length m=true) {x:Ck C} (hx:x.on=false)
 (hd:∀ t y,x.cells.Has t y→(∃ c0∈m,c0.cells.Has t y∧((C t).own=true→x.wr=true→c0.wr=true))∨((C t).good w y∧∀ b∈(C t).blks y,Blk S w0 w (m ++ [x]) ((C t).own && x.wr) b)):MemOK S w0 w (m ++ [x]):=by
 have hm:∀ y,y∈m ++ [x]→y∈m∨y=x:=by intro y hy;simpa using hy
 have no:∀ {p:Prop},x.on=true→p:=fun h=>by rw [hx] at h;cases h
 refine ⟨h.os,h.tape,h.output,h.size,h.keep,?_,?_,?_,?_,?_,?_⟩
 · intro y hy hw ho hb
   rcases hm y hy with hy | rfl
   · exact h.inS y hy hw ho hb
   · exact no ho
 · intro y hy ho
   rcases hm y hy with hy | rfl
   · exact Ck.ok_ads (ads_append m _) (memLt_mem hl hy) (h.ok y hy ho)
   · exact no ho
 · intro y hy hw hlv a ha
   rcases hm y hy with hy | rfl
   · exact h.wrok y hy hw hlv a ha
   · exact no (Ck.live_iff.1 hlv).2
 · intro i j hi hj hij hiw hil hjl
   simp only [zx,vu] at hi hj
   rw [nth_append] at hiw hil ⊢
   rw [nth_append] at hjl ⊢
   by_cases h1:i<m.length
   · by_cases h2:j<m.length
     · rw [if_pos h1] at hiw hil ⊢
       rw [if_pos h2] at hjl ⊢
       exact h.apart i j h1 h2 hij hiw hil hjl
     · rw [if_neg h2,if_pos (by omega)] at hjl
       exact no (Ck.live_iff.1 hjl).2
   · rw [if_neg h1,if_pos (by omega)] at hil
     exact no (Ck.live_iff.1 hil).2
 · intro y hy ho
   rcases hm y hy with hy | rfl
   · exact h.lt y hy ho
   · exact no ho
 · refine h.more.mono' h.inS (fun _ _ _=>rfl) (fun y hy hyl => ?_) h.size (zw _) (fun y hy t z hz => ?_)
   · rcases hm y hy with hy | rfl
     · exact .inl ⟨y,hy,hyl,rfl,id⟩
     · exact no (Ck.live_iff.1 hyl).2
   · rcases hm y hy with hy | rfl
     · exact .inl ⟨y,hy,hz,fun _=>id⟩
     · exact hd t z hz
theorem MemOK.off {S:Sx} {w0 w:World} {m:List (Ck C)} (h:MemOK S w0 w m) (hl:memLt m.length m=true) {x:Ck C} (hx:x.on=false) (hd:CsIn m x.wr x.cells):MemOK S w0 w (m ++ [x]):=by
 refine h.off' hl hx fun t y hy => ?_
 rcases hd t y hy with h1 | hfl
 · exact .inl h1
 · exact .inr ⟨hfl.2 w,fun b hb=>by rw [hfl.1] at hb;cases hb⟩
end Go.Vx
namespace Go.Vx
open Go
variable {C:Nat→Codec}
structure Flat (ad:Nat→Ad) (cd:Codec) (arr:Array Value) (l:List cd.α):Prop where
 size:arr.size=l.length*cd.sz
 get:∀ i,i<l.length→∀ f,f<cd.sz→arr[i*cd.sz+f]? = some (((cd.enc (l.getD i cd.dflt)).getD f .junk).va ad)
theorem enc_flat (cd:Codec) (ad ad':Nat→Ad) (x:cd.α) (f:Nat) (hf:f<cd.sz):((cd.enc x).getD f .junk).va ad=((cd.enc x).getD f .junk).va ad':=by
 have:=cd.flat x ad ad'
 have hlen:=cd.len x
 have e:=congrArg (fun l=>l[f]?) this
 simp only [zf] at e
 rw [zt (by omega)] at e
 simp only [yr,Option.some.injEq] at e
 simp [xg,zt (show f<(cd.enc x).length by omega),e]
theorem Flat.ads {ad:Nat→Ad} (ad':Nat→Ad) {cd:Codec} {arr:Array Value} {l:List cd.α} (h:Flat ad cd arr l):Flat ad' cd arr l:=
 ⟨h.size,fun i hi f hf=>by rw [h.get i hi f hf,enc_flat cd ad ad' _ f hf]⟩
theorem cell?_alloc (w:World) (arr:Array Value) (e:TypeId) (o:Nat):(w.alloc (.cells arr e)).cell? ⟨w.heap.size,o,none⟩=arr[o]? := by
 simp only [World.cell?,heap_alloc_at];simp
theorem Flat.ok {ad:Nat→Ad} {t:Nat} {arr:Array Value} {l:List (C t).α} (h:Flat ad (C t) arr l) (w:World) (e:TypeId) (wr:Bool) (gl:Option Bool):
 Ck.ok ad (w.alloc (.cells arr e)) (⟨w.heap.size,0,(C t).sz,wr,gl,.rows t l⟩:Ck C):=by
 refine ⟨rfl,fun i hi f hf => ?_⟩
 have:=h.get i hi f hf
 simp only [Ck.ad,Ad.at,we]
 rw [cell?_alloc];exact this
theorem flat_made {ad:Nat→Ad} {cd:Codec} {z:Array Value} (hz:(cd.enc cd.dflt).map (SV.va ad)=z.toList) (hs:z.size=cd.sz) (n:Nat):
 Flat ad cd (madeCells z (n*cd.sz)) (zo n cd.dflt):=by
 refine ⟨by simp [size_madeCells],fun i hi f hf => ?_⟩
 simp only [List.length_replicate] at hi
 have hlt:i*cd.sz+f<n*cd.sz:=by
  have:=uz cd.sz (show i+1≤n by omega)
  rw [wn] at this;omega
 have e1:(i*cd.sz+f) % z.size=f:=by rw [hs,xn,Nat.mul_add_mod,Nat.mod_eq_of_lt hf]
 have e2:(zo n cd.dflt).getD i cd.dflt=cd.dflt:=by simp [xg,hi]
 rw [e2]
 have e3:z[f]? = some (((cd.enc cd.dflt).getD f .junk).va ad):=by
  have:=congrArg (fun l=>l[f]?) hz
  simp only [zf] at this
  have hl:=cd.len cd.dflt
  rw [zt (by omega)] at this
  simp only [yr] at this
  rw [← vh,← this]
  simp [xg,zt (show f<(cd.enc cd.dflt).length by omega)]
 simp only [madeCells,Array.getElem?_map,Array.getElem?_range,hlt,if_true,yr,e1]
 have e4:f<z.size:=by omega
 rw [getElem!_pos z f e4]
 rw [Array.getElem?_eq_getElem e4] at e3
 exact e3
def flatSV (cd:Codec):List cd.α→List SV
 | []=>[]
 | x :: r=>cd.enc x ++ flatSV cd r
theorem flatSV_get (cd:Codec):∀ (l:List cd.α) (i f:Nat),i<l.length→f<cd.sz→(flatSV cd l)[i*cd.sz+f]? = some ((cd.enc (l.getD i cd.dflt)).getD f .junk)
 | [],_,_,h,_=>by simp at h
 | x :: r,0,f,_,hf=>by
   have:=cd.len x
   simp only [flatSV,ro,we]
   rw [List.getElem?_append_left (by omega)]
   simp [xg,zt (show f<(cd.enc x).length by omega)]
 | x :: r,i+1,f,h,hf=>by
   have:=cd.len x
   simp only [flatSV]
   rw [List.getElem?_append_right (by rw [wn];omega)]
   have e:(i+1)*cd.sz+f - (cd.enc x).length=i*cd.sz+f:=by rw [wn];omega
   rw [e,flatSV_get cd r i f (by simpa using h) hf]
   simp [xg]
theorem flatSV_len (cd:Codec):∀ l:List cd.α,(flatSV cd l).length=l.length*cd.sz
 | []=>by simp [flatSV]
 | x :: r=>by simp [flatSV,flatSV_len cd r,cd.len,wn];omega
theorem flat_of {ad:Nat→Ad} {cd:Codec} {arr:Array Value} {l:List cd.α} (h:(flatSV cd l).map (SV.va ad)=arr.toList):Flat ad cd arr l:=by
 refine ⟨?_,fun i hi f hf => ?_⟩
 · have:=congrArg wi h
   simp [flatSV_len] at this
   exact this.symm
 · rw [← vh,← h,zf,flatSV_get cd l i f hi hf];rfl
def newCells (P:Program) (C:Nat→Codec) (e:TypeId):Option (Nat×Cells C):=
 match P.underlying e with
 | some (.array n e')=>match P.info? e with
   | some i=>match i.zero with
     | some z=>if SV.isVs (flatSV (C e') (zo n (C e').dflt)) z.cells.toList && !(zi (C e').sz 0) then some ((C e').sz,.rows e' (zo n (C e').dflt)) else none
     | none=>none
   | none=>none
 | some _=>match P.info? e with
   | some i=>match i.zero with
     | some z=>some (z.cells.size,.one (z.cells.toList.map SV.atom))
     | none=>none
   | none=>none
 | none=>none
theorem one_ok {ad:Nat→Ad} (w:World) (e:TypeId) (vs:List SV) (arr:Array Value) (h:(vs.map (SV.va ad))=arr.toList) (wr:Bool) (gl:Option Bool):
 Ck.ok ad (w.alloc (.cells arr e)) (⟨w.heap.size,0,vs.length,wr,gl,.one vs⟩:Ck C):=by
 refine ⟨.inl (zw _),fun f hf => ?_⟩
 have hc:(w.alloc (.cells arr e)).cell? ((⟨w.heap.size,0,vs.length,wr,gl,.one vs⟩:Ck C).ad.at 0 f)=some ((vs.getD f .junk).va ad):=by
  simp only [Ck.ad,Ad.at,we,ro]
  rw [cell?_alloc,← vh,← h]
  simp [xg,zt hf]
 revert hc
 generalize vs.getD f .junk=v
 intro hc
 cases v <;> simp only [cellIs] <;> first | exact hc | exact ⟨_,hc⟩
theorem newCells_ok {P:Program} {e:TypeId} {sz:Nat} {cs:Cells C} (h:newCells P C e=some (sz,cs)) (w:World) (ad:Nat→Ad):
 ∃ z,(zeroValue e).run P w=.ok z w∧Ck.ok ad (w.alloc (.cells z.cells e)) (⟨w.heap.size,0,sz,true,none,cs⟩:Ck C):=by
 unfold newCells at h
 split at h <;> try contradiction
 · rename_i n e' hu
   split at h <;> try contradiction
   rename_i i hi
   split at h <;> try contradiction
   rename_i z hz
   split at h <;> try contradiction
   rename_i hc
   simp only [zq] at hc
   simp only [Option.some.injEq,Prod.mk.injEq] at h
   obtain ⟨rfl,rfl⟩:=h
   refine ⟨z,by simp [zeroValue,typeInfo,hi,hz],?_⟩
   exact (flat_of (SV.isVs_ok ad hc.1)).ok w e true none
 · split at h <;> try contradiction
   rename_i i hi
   split at h <;> try contradiction
   rename_i z hz
   simp only [Option.some.injEq,Prod.mk.injEq] at h
   obtain ⟨rfl,rfl⟩:=h
   refine ⟨z,by simp [zeroValue,typeInfo,hi,hz],?_⟩
   have:=one_ok (C:=C) (ad:=ad) w e (z.cells.toList.map SV.atom) z.cells (by simp [td,Function.comp_def,SV.va_atom]) true none
   simpa using this
def fillRows (cd:Codec) (l:List cd.α):List (Nat×SV)→Option (List cd.α)
 | []=>some l
 | (i,v) :: r=>if v.plain && zi v.parts.length cd.sz && ye i l.length then
     match updParts cd (l.getD i cd.dflt) 0 v.parts with
     | some y=>fillRows cd (l.set i y) r
     | none=>none
   else none
theorem foldl_get:∀ (ps:List Value) (off k:Nat) (cs:Array Value) (j:Nat),((ps.zipIdx k).foldl (fun (cs:Array Value) (c,j)=>cs.setIfInBounds (off+j) c) cs)[j]? =
 if off+k≤j∧j<off+k+ps.length∧j<cs.size then ps[j - (off+k)]? else cs[j]?
 | [],off,k,cs,j=>by rw [if_neg (by simp;omega)];rfl
 | p :: ps,off,k,cs,j=>by
   simp only [pi,ut]
   rw [foldl_get ps off (k+1)]
   simp only [Array.size_setIfInBounds]
   by_cases h1:off+(k+1)≤j∧j<off+(k+1)+ps.length∧j<cs.size
   · rw [if_pos h1,if_pos (by simp;omega),show j - (off+k)=(j - (off+(k+1)))+1 by omega];simp
   · rw [if_neg h1]
     by_cases h2:off+k=j∧j<cs.size
     · obtain ⟨rfl,h2⟩:=h2
       rw [if_pos (by simp;omega)];simp [h2]
     · rw [if_neg (by simp;omega),Array.getElem?_setIfInBounds]
       split
       · rename_i e;subst e
         rw [if_neg (by omega),wj (by omega)]
       · rfl
theorem size_foldl:∀ (ps:List (Value×Nat)) (off:Nat) (cs:Array Value),(ps.foldl (fun (cs:Array Value) (c,j)=>cs.setIfInBounds (off+j) c) cs).size=cs.size
 | [],_,_=>rfl
 | (c,j) :: ps,off,cs=>by simp only [ut];rw [size_foldl ps];simp
theorem fillRows_ok {ad:Nat→Ad} {cd:Codec} (hn:cd.sz≠0):∀ (qs:List (Nat×SV)) (l out:List cd.α) (arr:Array Value),fillRows cd l qs=some out→Flat ad cd arr l→
 ∃ arr',Instr.fill (fun i=>some (i*cd.sz,cd.sz)) arr (qs.map fun p=>(p.1,p.2.va ad))=some arr'∧Flat ad cd arr' out
 | [],l,out,arr,h,hf=>by simp [fillRows] at h;subst h;exact ⟨arr,rfl,hf⟩
 | (i,v) :: r,l,out,arr,h,hf=>by
   simp only [fillRows] at h
   split at h <;> try contradiction
   rename_i hc
   simp only [zq] at hc
   obtain ⟨⟨hpl,hlen⟩,hlt⟩:=hc
   have hlen:=zp hlen
   have hlt:i<l.length:=by simpa using hlt
   split at h <;> try contradiction
   rename_i y hy
   have hcs:=SV.plain_cells ad hpl
   have hsz:(v.va ad).cells.size=cd.sz:=by rw [hcs];simp [SV.vas_eq,hlen]
   have hb:i*cd.sz+cd.sz≤arr.size:=by
    rw [hf.size]
    have:=uz cd.sz (show i+1≤l.length by omega)
    rw [wn] at this;omega
   simp only [vw,Instr.fill]
   rw [if_neg (by rw [hsz];simp;omega)]
   refine fillRows_ok hn r _ out _ h ?_
   have hzip:(v.va ad).cells.zipIdx.foldl (fun cs (c,j)=>cs.setIfInBounds (i*cd.sz+j) c) arr=((v.parts.map (SV.va ad)).zipIdx 0).foldl (fun (cs:Array Value) (c,j)=>cs.setIfInBounds (i*cd.sz+j) c) arr:=by
    rw [hcs,← qg];simp [SV.vas_eq]
   refine ⟨?_,fun i' hi' f hf' => ?_⟩
   · rw [hzip,size_foldl,zh,hf.size]
   · rw [zh] at hi'
     rw [hzip,foldl_get]
     simp only [za,zn,hlen]
     have hrow:i'*cd.sz+f<arr.size:=by
      rw [hf.size]
      have:=uz cd.sz (show i'+1≤l.length by omega)
      rw [wn] at this;omega
     by_cases he:i'=i
     · subst he
       rw [if_pos (by omega),show i'*cd.sz+f - i'*cd.sz=f by omega]
       have e1:(l.set i' y).getD i' cd.dflt=y:=by simp [xg,hlt]
       rw [e1]
       have hu:=updParts_ok cd ad v.parts _ y 0 hy f
       rw [if_pos (by omega)] at hu
       simp only [rq] at hu
       rw [← hu,zf]
       have:=cd.len y
       rw [zt (by omega)]
       simp [xg,zt (show f<(cd.enc y).length by omega)]
     · rw [if_neg]
       · rw [hf.get i' hi' f hf']
         have e1:(l.set i y).getD i' cd.dflt=l.getD i' cd.dflt:=by simp [xg,tx (Ne.symm he)]
         rw [e1]
       · rintro ⟨h1,h2,_⟩
         have e:i'*cd.sz+f=i*cd.sz+(i'*cd.sz+f - i*cd.sz):=by omega
         exact he (row_ne hf' (by omega) e).1
end Go.Vx
namespace Go.Vx
open Go
variable {C:Nat→Codec}
def Ck.orNil (c:Ck C) (n m:Nat):List Prop:=match c.gl with
 | none=>[]
 | some b=>[b=false→n=0∧m=0]
theorem Ck.orNil_ok {c:Ck C} {n m:Nat} (h:allOf (c.orNil n m)):c.on=true∨(c.on=false∧n=0∧m=0):=by
 unfold Ck.orNil at h
 cases hg:c.gl with
 | none=>exact .inl (by simp [Ck.on,hg])
 | some b=>
   rw [hg] at h
   cases b with
   | true=>exact .inl (by simp [Ck.on,hg])
   | false=>exact .inr ⟨by simp [Ck.on,hg],h.1 rfl⟩
def Ck.orHas (c:Ck C) (k:Nat):Option Bool:=match c.gl with
 | none=>none
 | some b=>some (ye 0 k || b)
theorem Ck.orHas_ok {c:Ck C} {k:Nat}:(c.orHas k).getD true=(ye 0 k || c.on):=by
 unfold Ck.orHas Ck.on
 cases c.gl <;> simp
def conj:List Prop→Tr→Tr
 | [],X=>X
 | p :: r,X=>.and (.lf p) (conj r X)
theorem conj_iff:∀ (ps:List Prop) (X:Tr),(conj ps X).holds↔allOf ps∧X.holds
 | [],X=>by simp [conj,allOf]
 | p :: r,X=>by
   have e:(conj (p :: r) X).holds↔p∧(conj r X).holds:=Iff.rfl
   rw [e,conj_iff r X]
   simp [allOf,and_assoc]
def castL {t1 t2:Nat} (h:t2=t1) (l:List (C t2).α):List (C t1).α:=h ▸ l
def appendSV (P:Program) (tm:Tm) (m:List (Ck C)) (e:TypeId) (s x:SV) (K:SV→List (Ck C)→Tr):Tr:=
 match P.info? e with
 | none=>.no
 | some ti=>
   match memLt m.length m && tmLt m.length tm && !(zi ti.bytes 0) && (zeroOK P (C e) e && !(C e).own) with
   | false=>.no
   | true=>
     match x with
     | .sl c2 i2 k _=>match (nth m c2).cells with
       | .rows t2 l2=>if h2:t2=e then
          match s with
          | .sl c i n mm=>match (nth m c).cells with
            | .rows t1 l1=>if h1:t1=e then
               .and (.lf (n≤mm∧i+mm≤l1.length∧i2+k≤l2.length∧(n+k)*ti.bytes≤140737488355328))
               (conj ((nth m c).orNil n mm ++ (nth m c2).orNil k k) (match (nth m c).wr with
               | true=>.all fun b=>.all fun base=>.all fun (sp:List (C e).α)=>.all fun cap=>.imp (n+k≤cap) (.imp (cap≤n+k+sp.length)
                  (K (.sl m.length 0 (n+k) cap) (setCk m c .dead ++ [⟨b,base,(C e).sz,true,(nth m c).orHas k,.rows e (((castL h1 l1).drop i).take n ++ ((castL h2 l2).drop i2).take k ++ sp)⟩])))
               | false=>.and (.lf (mm<n+k)) (.all fun b=>.all fun (sp:List (C e).α)=>
                  K (.sl m.length 0 (n+k) (n+k+sp.length)) (m ++ [⟨b,0,(C e).sz,true,none,.rows e (((castL h1 l1).drop i).take n ++ ((castL h2 l2).drop i2).take k ++ sp)⟩]))))
              else .no
            | _=>.no
          | .nils=>.and (.lf (i2+k≤l2.length∧k*ti.bytes≤140737488355328)) (conj ((nth m c2).orNil k k)
             (.all fun b=>.all fun (sp:List (C e).α)=>.imp (k=0→sp.length=0) (K (.sl m.length 0 k (k+sp.length)) (m ++ [⟨b,0,(C e).sz,true,some (ye 0 k),.rows e (((castL h2 l2).drop i2).take k ++ sp)⟩]))))
          | _=>.no
         else .no
       | _=>.no
     | .nils=>match s with
       | .sl c i n mm=>.and (.lf (n≤mm)) (conj ((nth m c).orNil n mm) (K (.sl c i n mm) m))
       | .nils=>K .nils m
       | _=>.no
     | _=>.no
def eev (P:Program) (tm:Tm) (m:List (Ck C)) (al:List (Nat×Bool)) (o:Op) (K:SV→List (Ck C)→Tr):Tr:=
 match o with
 | .store t a v=>match ev tm m al a,ev tm m al v with
   | some (.ptr c i f),some x=>match storeSV P m t c i f x with
     | some (ps,m')=>conj ps (K .undef m')
     | none=>.no
   | _,_=>.no
 | .alloc e=>match memLt m.length m && tmLt m.length tm with
   | true=>match newCells P C e with
     | some (sz,cs)=>.all fun b=>K (.ptr m.length 0 0) (m ++ [⟨b,0,sz,true,none,cs⟩])
     | none=>.no
   | false=>.no
 | .box _ x=>match ev tm m al x with
   | some v=>match memLt m.length m && tmLt m.length tm && v.plain && SV.lts m.length v.parts with
     | true=>.all fun b=>K (.ptr m.length 0 0) (m ++ [⟨b,0,v.parts.length,true,none,.one v.parts⟩])
     | false=>.no
   | none=>.no
 | .makeSlice t l c=>match P.underlying t,ev tm m al l,ev tm m al c with
   | some (.slice e),some (.int _ n),some (.int _ q)=>match P.info? e with
     | some i=>match memLt m.length m && tmLt m.length tm && zeroOK P (C e) e with
       | true=>.and (.lf (0≤n∧n≤q∧(i.bytes:Int)*q≤281474976710656∧q≤9223372036854775807)) (.all fun b=>K (.sl m.length 0 n.toNat q.toNat) (m ++ [⟨b,0,(C e).sz,true,none,.rows e (zo q.toNat (C e).dflt)⟩]))
       | false=>.no
     | none=>.no
   | _,_,_=>.no
 | .buildSlice t len ps=>match P.underlying t,optAll (fun (p:Nat×Operand)=>(ev tm m al p.2).map fun v=>(p.1,v)) ps.toList with
   | some (.slice e),some qs=>match memLt m.length m && tmLt m.length tm && zeroOK P (C e) e && Nat.ble (len*(C e).sz) 16777216 with
     | true=>match fillRows (C e) (zo len (C e).dflt) qs with
       | some l=>.all fun b=>K (.sl m.length 0 len len) (m ++ [⟨b,0,(C e).sz,true,none,.rows e l⟩])
       | none=>.no
     | false=>.no
   | _,_=>.no
 | .call c=>match c.callee with
   | .builtin .append=>match c.argTypes.toList,c.args.toList with
     | [t,t'],[s,x]=>match zi t t',P.underlying t,ev tm m al s,ev tm m al x with
       | true,some (.slice e),some s,some x=>appendSV P tm m e s x K
       | false,some (.slice e),some s,some (.sl c i n mm)=>match P.underlying t' with
         | some (.slice _)=>appendSV P tm m e s (.sl c i n mm) K
         | _=>.no
       | _,_,_,_=>.no
     | _,_=>.no
   | _=>.no
 | _=>.no
structure Left (P:Program) (S:Sx) (w0:World) (tm:Tm) (m:List (Ck C)) (w:World) (s:Sem Next) (K:SV→List (Ck C)→Tr):Prop where
 ex:∃ w' m' r,(s.run P w=.ok (.value (r.va (ads m'))) w'∨(s.run P w=.ok .skip w'∧r=.undef))∧MemOK S w0 w' m'∧K r m'∧(∀ k,k<m.length→ads m k=ads m' k)∧m.length≤m'.length∧
  (m'.length=m.length∧ads m'=ads m∨tmLt m.length tm=true)
theorem newCells_in {P:Program} {m:List (Ck C)} {e:TypeId} {sz:Nat} {cs:Cells C} {wr:Bool} (h:newCells P C e=some (sz,cs)):CsIn m wr cs:=by
 unfold newCells at h
 repeat' split at h
 all_goals first
  | contradiction
  | (simp only [Option.some.injEq,Prod.mk.injEq] at h
     obtain ⟨_,rfl⟩:=h
     first
      | exact CsIn.rows (RowsOf.rep _)
      | exact CsIn.other (fun _ _ e=>by cases e) (fun _ _ _ _ e=>by cases e))
theorem fillRows_in {m:List (Ck C)} {wr:Bool} {t:Nat} (hn:(C t).sz≠0):∀ {qs:List (Nat×SV)} {l out:List (C t).α},fillRows (C t) l qs=some out→RowsOf m wr t l→RowsOf m wr t out
 | [],l,out,h,hl=>by simp [fillRows] at h;subst h;exact hl
 | (i,v) :: r,l,out,h,hl=>by
   simp only [fillRows] at h
   split at h <;> try contradiction
   rename_i hc
   simp only [zq] at hc
   split at h <;> try contradiction
   rename_i y hy
   refine fillRows_in hn h (hl.put (.inr ((C t).flat_deep (updParts_flat hy ?_) y)) i)
   intro e
   have:=zp hc.1.2
   rw [e] at this
   exact hn this.symm
theorem eev_store {P:Program} {S:Sx} {w0 w:World} {n:Nat} {tm:Tm} {m:List (Ck C)} {a:Act} (h:ActOK (ads m) n tm a) (hm:MemOK S w0 w m) {al:List (Nat×Bool)} (ha:AlOK tm al) {t:TypeId} {x y:Operand}
 {dst:Option Tmp} {ty:TypeId} {pos:String} {after:Array Edge} {g:Option (Nat×Bool)}
 {K:SV→List (Ck C)→Tr} (hl:eev P tm m al (.store t x y) K):Left P S w0 tm m w (execOp a.eval ⟨dst,.store t x y,ty,pos,after,g⟩) K:=by
 simp only [eev] at hl
 split at hl <;> try (first | contradiction | exact False.elim hl)
 rename_i c i f v h1 h2
 split at hl <;> try (first | contradiction | exact False.elim hl)
 rename_i ps m' hs
 obtain ⟨hp,hK⟩:=(conj_iff _ _).1 hl
 obtain ⟨w',hr,hm',ha',hlen⟩:=storeSV_ok hm hs hp
 have e1:=ev_ok h hm.glob ha _ _ h1
 have e2:=ev_ok h hm.glob ha _ _ h2
 refine ⟨w',m',.undef,.inr ⟨?_,rfl⟩,hm',hK,fun k _=>by rw [ha'],by omega,.inl ⟨hlen,ha'⟩⟩
 simp [execOp,Instr.storeAt,e1,e2,SV.va,Instr.sureAddr,hr]
theorem eev_alloc {P:Program} {S:Sx} {w0 w:World} {tm:Tm} {m:List (Ck C)} {a:Act} (hm:MemOK S w0 w m) {al:List (Nat×Bool)} {e:TypeId}
 {dst:Option Tmp} {ty:TypeId} {pos:String} {after:Array Edge} {g:Option (Nat×Bool)}
 {K:SV→List (Ck C)→Tr} (hl:eev P tm m al (.alloc e) K):Left P S w0 tm m w (execOp a.eval ⟨dst,.alloc e,ty,pos,after,g⟩) K:=by
 simp only [eev] at hl
 split at hl <;> try (first | contradiction | exact False.elim hl)
 rename_i hc
 simp only [zq] at hc
 split at hl <;> try (first | contradiction | exact False.elim hl)
 rename_i sz cs hn
 obtain ⟨z,hz,hok⟩:=newCells_ok hn w (ads (m ++ [⟨w.heap.size,0,sz,true,none,cs⟩]))
 refine ⟨_,_,_,.inl ?_,hm.new hc.1 z.cells e sz cs hok (newCells_in hn),hl w.heap.size,ads_append _ _,by simp,.inr hc.2⟩
 have:ads (m ++ [(⟨w.heap.size,0,sz,true,none,cs⟩:Ck C)]) m.length=⟨w.heap.size,0,sz,true⟩:=ads_append_new _ _
 simp [execOp,Instr.alloc,hz,newVar,newRow,SV.va,this,Ad.at]
theorem eev_box {P:Program} {S:Sx} {w0 w:World} {n:Nat} {tm:Tm} {m:List (Ck C)} {a:Act} (h:ActOK (ads m) n tm a) (hm:MemOK S w0 w m) {al:List (Nat×Bool)} (ha:AlOK tm al) {e:TypeId} {x:Operand}
 {dst:Option Tmp} {ty:TypeId} {pos:String} {after:Array Edge} {g:Option (Nat×Bool)}
 {K:SV→List (Ck C)→Tr} (hl:eev P tm m al (.box e x) K):Left P S w0 tm m w (execOp a.eval ⟨dst,.box e x,ty,pos,after,g⟩) K:=by
 simp only [eev] at hl
 split at hl <;> try (first | contradiction | exact False.elim hl)
 rename_i v hv
 split at hl <;> try (first | contradiction | exact False.elim hl)
 rename_i hc
 simp only [zq] at hc
 obtain ⟨⟨⟨h1,h2⟩,h3⟩,h4⟩:=hc
 have e1:=ev_ok h hm.glob ha _ _ hv
 have hcs:=SV.plain_cells (ads m) h3
 have hvas:=SV.vas_congr (ads_append m ⟨w.heap.size,0,v.parts.length,true,none,.one v.parts⟩) v.parts h4
 have hok:=one_ok (C:=C) (ad:=ads (m ++ [⟨w.heap.size,0,v.parts.length,true,none,.one v.parts⟩])) w e v.parts (v.va (ads m)).cells (by rw [hcs,← SV.vas_eq,← hvas]) true none
 refine ⟨_,_,_,.inl ?_,hm.new h1 _ e _ _ hok (CsIn.other (fun _ _ e=>by cases e) (fun _ _ _ _ e=>by cases e)),hl w.heap.size,ads_append _ _,by simp,.inr h2⟩
 have:ads (m ++ [(⟨w.heap.size,0,v.parts.length,true,none,.one v.parts⟩:Ck C)]) m.length=⟨w.heap.size,0,v.parts.length,true⟩:=ads_append_new _ _
 simp [execOp,Instr.box,e1,newVar,newRow,SV.va,this,Ad.at]
theorem eev_make {P:Program} {S:Sx} {w0 w:World} {n:Nat} {tm:Tm} {m:List (Ck C)} {a:Act} (h:ActOK (ads m) n tm a) (hm:MemOK S w0 w m) {al:List (Nat×Bool)} (ha:AlOK tm al) {t:TypeId} {x y:Operand}
 {dst:Option Tmp} {ty:TypeId} {pos:String} {after:Array Edge} {g:Option (Nat×Bool)}
 {K:SV→List (Ck C)→Tr} (hl:eev P tm m al (.makeSlice t x y) K):Left P S w0 tm m w (execOp a.eval ⟨dst,.makeSlice t x y,ty,pos,after,g⟩) K:=by
 simp only [eev] at hl
 split at hl <;> try (first | contradiction | exact False.elim hl)
 rename_i e k n k' q hu h1 h2
 split at hl <;> try (first | contradiction | exact False.elim hl)
 rename_i i hi
 split at hl <;> try (first | contradiction | exact False.elim hl)
 rename_i hc
 simp only [zq] at hc
 obtain ⟨⟨c1,c2⟩,c3⟩:=hc
 obtain ⟨hlf,hK⟩:=hl
 obtain ⟨p1,p2,p3,p4⟩:=hlf
 obtain ⟨i',z,hi',hz,hzz,hsz,hn0,hzs⟩:=zeroOK_ok c3
 rw [hi] at hi'
 simp only [Option.some.injEq] at hi'
 subst hi'
 have e1:=ev_ok h hm.glob ha _ _ h1
 have e2:=ev_ok h hm.glob ha _ _ h2
 have hr:=run_make (P:=P) w t e i z hu hi hz k k' n q p1 p2 p3 p4
 rw [hsz] at hr
 have hfl:=flat_made (ad:=ads (m ++ [⟨w.heap.size,0,(C e).sz,true,none,.rows e (zo q.toNat (C e).dflt)⟩])) (hzz _) hzs q.toNat
 refine ⟨_,_,_,.inl ?_,hm.new c1 _ e _ _ (hfl.ok w e true none) (CsIn.rows (RowsOf.rep _)),hK w.heap.size,ads_append _ _,by simp,.inr c2⟩
 have:ads (m ++ [(⟨w.heap.size,0,(C e).sz,true,none,.rows e (zo q.toNat (C e).dflt)⟩:Ck C)]) m.length=⟨w.heap.size,0,(C e).sz,true⟩:=ads_append_new _ _
 simp [execOp,e1,e2,SV.va,hr,this,Ad.at]
theorem optAll_pairs {ev:Operand→Option SV} {ρ:Operand→Value} {ad:Nat→Ad} (hev:∀ x v,ev x=some v→ρ x=v.va ad):∀ {l:List (Nat×Operand)} {qs:List (Nat×SV)},
 optAll (fun (p:Nat×Operand)=>(ev p.2).map fun v=>(p.1,v)) l=some qs→l.map (fun p=>(p.1,ρ p.2))=qs.map fun p=>(p.1,p.2.va ad)
 | [],qs,h=>by simp [optAll] at h;subst h;rfl
 | a :: l,qs,h=>by
   simp only [optAll] at h
   split at h <;> try (first | contradiction | exact False.elim h)
   rename_i b s hb hs
   simp only [Option.some.injEq] at h;subst h
   cases hea:ev a.2 with
   | none=>simp [hea] at hb
   | some v=>
     simp only [hea,yr,Option.some.injEq] at hb;subst hb
     simp [hev _ _ hea,optAll_pairs hev hs]
theorem eev_buildSlice {P:Program} {S:Sx} {w0 w:World} {n:Nat} {tm:Tm} {m:List (Ck C)} {a:Act} (h:ActOK (ads m) n tm a) (hm:MemOK S w0 w m) {al:List (Nat×Bool)} (ha:AlOK tm al) {t:TypeId} {len:Nat} {ps:Array (Nat×Operand)}
 {dst:Option Tmp} {ty:TypeId} {pos:String} {after:Array Edge} {g:Option (Nat×Bool)}
 {K:SV→List (Ck C)→Tr} (hl:eev P tm m al (.buildSlice t len ps) K):Left P S w0 tm m w (execOp a.eval ⟨dst,.buildSlice t len ps,ty,pos,after,g⟩) K:=by
 simp only [eev] at hl
 split at hl <;> try (first | contradiction | exact False.elim hl)
 rename_i e qs hu hq
 split at hl <;> try (first | contradiction | exact False.elim hl)
 rename_i hc
 simp only [zq] at hc
 obtain ⟨⟨⟨c1,c2⟩,c3⟩,c4⟩:=hc
 split at hl <;> try (first | contradiction | exact False.elim hl)
 rename_i l hfr
 obtain ⟨i,z,hi,hz,hzz,hsz,hn0,hzs⟩:=zeroOK_ok c3
 have c4:len*(C e).sz≤16777216:=Nat.le_of_ble_eq_true c4
 have hpairs:=optAll_pairs (fun x v=>ev_ok h hm.glob ha x v) hq
 obtain ⟨arr',h1,h2⟩:=fillRows_ok (ad:=ads m) hn0 qs _ l _ hfr (flat_made (hzz _) hzs len)
 have h3:(ps.map fun p=>(p.1,a.eval p.2)).toList=qs.map fun p=>(p.1,p.2.va (ads m)):=by rw [← hpairs];simp
 have hfl:=h2.ads (ads (m ++ [⟨w.heap.size,0,(C e).sz,true,none,.rows e l⟩]))
 refine ⟨_,_,_,.inl ?_,hm.new c1 arr' e _ _ (hfl.ok w e true none) (CsIn.rows (fillRows_in hn0 hfr (RowsOf.rep _))),hl w.heap.size,ads_append _ _,by simp,.inr c2⟩
 have:ads (m ++ [(⟨w.heap.size,0,(C e).sz,true,none,.rows e l⟩:Ck C)]) m.length=⟨w.heap.size,0,(C e).sz,true⟩:=ads_append_new _ _
 have hso:(sizeOf e).run P w=.ok (C e).sz w:=by simp [sizeOf,typeInfo,hi,hsz]
 have hbig:¬ (16777216<len*(C e).sz):=by omega
 have h4:(Array.map (fun p:Nat×Operand=>(p.1,a.eval p.2)) ps).toList=qs.map fun p=>(p.1,p.2.va (ads m)):=h3
 by_cases h0:len*(C e).sz=0
 · have hl0:len=0:=by rcases Nat.mul_eq_zero.1 h0 with h | h;exact h;exact absurd h hn0
   subst hl0
   have e1:madeCells z.cells (0*(C e).sz) = #[]:=by simp [madeCells]
   rw [e1,← h4] at h1
   simp only [qx] at h1
   have e2:Array.range 0 = #[]:=rfl
   simp [execOp,Instr.buildSlice,run_underlying' hu,hso,newRow,SV.va,this,Ad.at,e2,h1]
 · rw [← h4] at h1
   simp only [qx,madeCells] at h1
   simp [execOp,Instr.buildSlice,run_underlying' hu,hso,hbig,zeroValue,typeInfo,hi,hz,newRow,SV.va,this,Ad.at,h1]
   intro h5;exact absurd h5 h0
end Go.Vx
