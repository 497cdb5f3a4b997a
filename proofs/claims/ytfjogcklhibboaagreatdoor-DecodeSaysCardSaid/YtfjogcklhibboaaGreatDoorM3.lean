/-
  The symbolic evaluator: an array of slices within a struct: its slices are laid into it one by one, each is written no more then; it is read az a chunk of its own.
  The symbolic evaluator, fifteenth part: one operation under its guard; a list of operations.
  The symbolic evaluator: a region that draws its order and has effects.
  The symbolic evaluator, sixteenth part: regions, code, loops.
  The symbolic evaluator, seventeenth part: functions and their contracts.
  The symbolic evaluator, eighteenth part: which function a method of an interface value is.
  The symbolic evaluator, nineteenth part: from a contract to a law's own call.
  Conditions: none.
-/
import Derived.Test.YtfjogcklhibboaaGreatDoorM2
import Derived.LaidEql
import Derived.Below
open Array renaming ext' → wd, getElem?_eq_none → wj, getElem?_toList → vh, replicate → uu, setIfInBounds_comm → tj
open Bool renaming and_eq_true → zq, false_eq_true → vf, not_eq_true' → yi, or_eq_true → yd, or_false → sr
open List renaming all_eq_true → ux, append_assoc → vx, getD_cons_zero → uy, getD_eq_getElem?_getD → zy, getElem?_append_left → yx, getElem?_append_right → xr, getElem?_drop → vp, getElem?_eq_getElem → zt, getElem?_map → zf, getElem?_take_of_lt → yn, length_append → zx, length_cons → xy, length_drop → wk, length_singleton → vu, length_take → ze, mapM_cons → ov, mem_cons_of_mem → yw, mem_cons_self → xp
open Nat renaming add_zero → za, beq → zi, ble → wc, blt → ye, eq_of_beq_eq_true → zp, le_of_ble_eq_true → xk, le_refl → zw, le_trans → xl, lt_or_ge → vb, ne_of_beq_eq_false → xc, not_lt_zero → xi, zero_add → we, zero_mul → ro
open Option renaming getD_some → ym, map_some → yr
set_option linter.unusedVariables false
set_option linter.unusedSimpArgs false
set_option linter.unusedSectionVars false
namespace Go.Vx
open Go
variable {C:Nat→Codec}
structure Tail (C:Nat→Codec) where
 ty:Nat
 hd:Nat
 F:FamW C
def tset (f:Nat) (rv:Value):Nat→List SV→List SV
 | _,[]=>[]
 | k,.val o :: r=>.val (bif zi k f then rv else o) :: tset f rv (k+1) r
 | k,x :: r=>x :: tset f rv (k+1) r
def allVal:List SV→Bool
 | []=>true
 | .val _ :: r=>allVal r
 | _=>false
theorem tset_len (f:Nat) (rv:Value):∀ (vs:List SV) (k:Nat),(tset f rv k vs).length=vs.length
 | [],_=>rfl
 | x :: r,k=>by cases x <;> simp [tset,tset_len f rv r]
theorem tset_getD (f:Nat) (rv:Value):∀ (vs:List SV) (k j:Nat),(k+j=f→∃ o,vs.getD j .junk=.val o)→(tset f rv k vs).getD j .junk=if k+j=f then .val rv else vs.getD j .junk
 | [],k,j,h=>by
   by_cases e:k+j=f
   · obtain ⟨o,ho⟩:=h e
     simp at ho
   · rw [if_neg e];rfl
 | x :: r,k,0,h=>by
   by_cases e:k+0=f
   · obtain ⟨o,ho⟩:=h e
     simp only [uy] at ho
     subst ho
     have:zi k f=true:=by rw [← e];simp
     simp only [tset,this,cond_true,uy]
     rw [if_pos e]
   · have:zi k f=false:=by
      cases hb:zi k f with
      | false=>rfl
      | true=>exact absurd (zp hb) e
     cases x <;> simp only [tset,this,cond_false,uy] <;> rw [if_neg e]
 | x :: r,k,j+1,h=>by
   have ih:=tset_getD f rv r (k+1) j (fun e=>by simpa using h (by omega))
   have e:k+1+j=k+(j+1):=by omega
   rw [e] at ih
   cases x <;> simp only [tset,List.getD_cons_succ] <;> exact ih
theorem allVal_getD:∀ (vs:List SV) (h j:Nat),allVal (vs.drop h)=true→h≤j→j<vs.length→∃ o,vs.getD j .junk=.val o
 | [],_,_,_,_,h=>absurd h (xi _)
 | x :: r,0,0,ha,_,_=>by
   cases x <;> simp [allVal] at ha
   exact ⟨_,rfl⟩
 | x :: r,0,j+1,ha,_,hl=>by
   have:allVal r=true:=by cases x <;> simp [allVal] at ha;exact ha
   simpa using allVal_getD r 0 j this (Nat.zero_le _) (by simpa using hl)
 | x :: r,h+1,0,_,hj,_=>absurd hj (Nat.not_succ_le_zero _)
 | x :: r,h+1,j+1,ha,hj,hl=>by
   simpa using allVal_getD r h j (by simpa using ha) (by omega) (by simpa using hl)
theorem MemOK.ghs {S:Sx} {w0 w:World} {m:List (Ck C)} (h:MemOK S w0 w m) {g:Nat} (hx:(nth m g).on=false) (cs:Cells C)
 (hd:∀ t y,cs.Has t y→(∃ c0∈m,c0.cells.Has t y∧((C t).own=true→(nth m g).wr=true→c0.wr=true))∨((C t).good w y∧∀ b∈(C t).blks y,Blk S w0 w (setCk m g cs) ((C t).own && (nth m g).wr) b)):MemOK S w0 w (setCk m g cs):=by
 have no:∀ {p:Prop},(nth m g).on=true→p:=fun h=>by rw [hx] at h;cases h
 have on':({ nth m g with cells:=cs }:Ck C).on=(nth m g).on:=rfl
 refine ⟨h.os,h.tape,h.output,h.size,h.keep,?_,?_,?_,?_,?_,?_⟩
 · intro y hy hw ho hb
   rcases mem_setCk hy with ⟨k,hk,_,rfl⟩ | ⟨_,rfl⟩
   · exact h.inS _ (nth_mem hk) hw ho hb
   · exact no ho
 · intro y hy ho
   rw [ads_setCk]
   rcases mem_setCk hy with ⟨k,hk,_,rfl⟩ | ⟨_,rfl⟩
   · exact h.ok _ (nth_mem hk) ho
   · exact no ho
 · intro y hy hw hlv a ha
   rcases mem_setCk hy with ⟨k,hk,_,rfl⟩ | ⟨_,rfl⟩
   · exact h.wrok _ (nth_mem hk) hw hlv a ha
   · exact no (Ck.live_iff.1 hlv).2
 · intro i j hi hj hij hiw hil hjl
   rw [length_setCk] at hi hj
   rw [nth_setCk] at hiw hil ⊢
   rw [nth_setCk] at hjl ⊢
   by_cases h1:i=g∧g<m.length
   · rw [if_pos h1] at hil
     exact no (Ck.live_iff.1 hil).2
   · rw [if_neg h1] at hiw hil ⊢
     by_cases h2:j=g∧g<m.length
     · rw [if_pos h2] at hjl
       exact no (Ck.live_iff.1 hjl).2
     · rw [if_neg h2] at hjl ⊢
       exact h.apart i j hi hj hij hiw hil hjl
 · intro y hy ho
   rcases mem_setCk hy with ⟨k,hk,_,rfl⟩ | ⟨_,rfl⟩
   · exact h.lt _ (nth_mem hk) ho
   · exact no ho
 · refine h.more.mono' h.inS (fun _ _ _=>rfl) (fun y hy hyl => ?_) h.size (zw _) (fun y hy t z hz => ?_)
   · rcases mem_setCk hy with ⟨k,hk,_,rfl⟩ | ⟨_,rfl⟩
     · exact .inl ⟨_,nth_mem hk,hyl,rfl,id⟩
     · exact no (Ck.live_iff.1 hyl).2
   · rcases mem_setCk hy with ⟨k,hk,_,rfl⟩ | ⟨_,rfl⟩
     · exact .inl ⟨_,nth_mem hk,hz,fun _=>id⟩
     · exact hd t z hz
def isSl:Option SV→Bool
 | some (.sl _ _ _ _)=>true
 | _=>false
def tailOf (P:Program) (T:Option (Tail C)) (tm:Tm) (m:List (Ck C)) (al:List (Nat×Bool)) (o:Op):Option (List Prop×List (Ck C)):=
 match T with
 | none=>none
 | some T=>match o with
   | .store t a v=>match isSl (ev tm m al v) with
    | false=>none
    | true=>match ev tm m al a,ev tm m al v with
     | some (.ptr c 0 f),some (.sl k 0 n mm)=>match ye f T.hd,(nth m c).cells,(nth m c).wr,(nth m (c+1)).cells,(nth m (c+1)).gl with
       | false,.one vs,true,.rows te ys,some false=>match (nth m k).cells,(nth m k).wr,allVal (vs.drop T.hd),zi k c,aggTy P t,zi (P.cellsOf t) 1 with
         | .rows t' l,true,true,false,some false,true=>if h:te=T.F.te∧t'=T.F.t then
            some ((nth m c).there ++ ((nth m k).there ++ [f<vs.length,n=l.length]),
             setCk (setCk (frz m k) c (.one (tset f (.slice (some ((ads m k).at 0 0)) n mm) 0 vs))) (c+1) (.rows te (ys ++ [h.1.symm ▸ T.F.put ⟨true,(nth m k).block,(nth m k).base,mm,castL h.2 l⟩])))
           else none
         | _,_,_,_,_,_=>none
       | _,_,_,_,_=>none
     | _,_=>none
   | _=>none
theorem tailOf_ok {P:Program} {S:Sx} {w0 w:World} {N:Nat} {T:Option (Tail C)} {tm:Tm} {m:List (Ck C)} {a:Act} (h:ActOK (ads m) N tm a) (hm:MemOK S w0 w m) {al:List (Nat×Bool)} (ha:AlOK tm al) {o:Oper} {ps:List Prop} {m':List (Ck C)}
 (hf:tailOf P T tm m al o.op=some (ps,m')) {K:SV→List (Ck C)→Tr} (hKK:(conj ps (K .undef m')).holds):Left P S w0 tm m w (execOp a.eval o) K:=by
 obtain ⟨hps,hK⟩:=(conj_iff _ _).1 hKK
 clear hKK
 obtain ⟨dst,op,ty,pos,after,g⟩:=o
 unfold tailOf at hf
 simp only at hf
 split at hf <;> try contradiction
 rename_i T
 split at hf <;> try contradiction
 rename_i t x y
 split at hf <;> try contradiction
 split at hf <;> try contradiction
 rename_i c f k n mm hx hy
 split at hf <;> try contradiction
 rename_i vs te ys hbl hcl hwr hcg hgl
 split at hf <;> try contradiction
 rename_i t' l hck hwk hav hkc hag hsz
 split at hf <;> try contradiction
 rename_i hte
 simp only [Option.some.injEq,Prod.mk.injEq] at hf
 obtain ⟨rfl,rfl⟩:=hf
 obtain ⟨sty,hd,F⟩:=T
 simp only at hte hbl hav
 obtain ⟨rfl,rfl⟩:=hte
 simp only [castL_self] at hps hK
 obtain ⟨hth,hps2⟩:=(allOf_append _ _).1 hps
 obtain ⟨hthk,hfl,hnl,_⟩:=(allOf_append _ _).1 hps2
 have hon:=Ck.there_ok hth
 have honk:=Ck.there_ok hthk
 have hfl:f<vs.length:=hfl
 have hnl:n=l.length:=hnl
 have hkc:k≠c:=fun e=>by rw [e] at hkc;simp at hkc
 have hhd:hd≤f:=by
  refine Nat.le_of_not_lt fun hlt => ?_
  have:ye f hd=true:=by simp [Nat.blt_eq];exact hlt
  rw [this] at hbl;cases hbl
 have e1:=ev_ok h hm.glob ha _ _ hx
 have e2:=ev_ok h hm.glob ha _ _ hy
 have hc:=lt_of_alive (show (nth m c).alive=true by simp [Ck.alive,hcl])
 have hk:=lt_of_alive (show (nth m k).alive=true by simp [Ck.alive,hck])
 have hcg':=lt_of_alive (show (nth m (c+1)).alive=true by simp [Ck.alive,hcg])
 have hgon:(nth m (c+1)).on=false:=by unfold Ck.on;rw [hgl]
 have hlive:(nth m c).live=true:=by simp [Ck.live,Ck.alive,hcl,hon]
 have hlivek:(nth m k).live=true:=by simp [Ck.live,Ck.alive,hck,honk]
 have hok:=hm.ok _ (nth_mem hc) hon
 simp only [Ck.ok,hcl] at hok
 obtain ⟨hcs,hok⟩:=hok
 have hao:(ads m k).on=true:=honk
 generalize hrv:(Value.slice (some ((ads m k).at 0 0)) n mm)=rv at hK
 have hv:(SV.sl k 0 n mm).va (ads m)=rv:=by rw [← hrv];simp only [SV.va,hao,cond_true]
 have hv1:rv.cells = #[rv]:=by rw [← hrv];rfl
 have hv2:rv.oneCell'=true:=by rw [← hrv];rfl
 have hn1:P.cellsOf t=1:=zp hsz
 have hbase:(nth m c).base+(0*(nth m c).sz+f)=(nth m c).base+f:=by omega
 obtain ⟨g1,g2,g3,g4,g5⟩:=heap_setCells (nth m c).block [rv] ((nth m c).base+f) w
 have hcell:∀ j,j<vs.length→∃ v,w.cell? ⟨(nth m c).block,(nth m c).base+j,none⟩=some v:=fun j hj=>by
  have h0:=hok j hj
  simp only [Ck.ad,Ad.at,ro,we] at h0
  generalize vs.getD j .junk=v at h0
  cases v <;> simp only [cellIs] at h0 <;> first | exact ⟨_,h0⟩ | exact h0
 have hsome:∀ j,j < [rv].length→(w.cell? ⟨(nth m c).block,(nth m c).base+f+j,none⟩).isSome=true:=by
  intro j hj
  obtain rfl:j=0:=by simp at hj;omega
  obtain ⟨v,hv⟩:=hcell f hfl
  rw [za,hv];rfl
 have hst:=run_storeCells_cells (P:=P) (nth m c).block ((nth m c).base+f) [rv] 0 w (fun j hj=>by simpa using hsome j hj) (fun j _=>hm.wrok _ (nth_mem hc) hwr hlive _ rfl) (by simp [hv2])
 have hrun:(storeVar t ((ads m c).at 0 f) rv).run P w=.ok () (w.setCells (nth m c).block ((nth m c).base+f) [rv]):=by
  unfold storeVar
  simp only [Sem.run_bind,run_sizeOf0 (show P.cellsOf t≠0 by omega),Result.andThen_ok,ne_eq,hv1]
  simpa [ads,Ck.ad,Ad.at,hn1] using hst
 have hnf:nth (Vx.frz m k) c=nth m c:=by rw [nth_frz,if_neg (fun e=>hkc e.1.symm)]
 have hkg:k≠c+1:=fun e=>by rw [e] at honk;rw [hgon] at honk;cases honk
 have hm1:=hm.frz k
 have hgd:=tset_getD f rv vs 0
 have hm2:MemOK S w0 (w.setCells (nth m c).block ((nth m c).base+f) [rv]) (setCk (Vx.frz m k) c (.one (tset f rv 0 vs))):=by
  refine hm1.upd (c:=c) (by rw [hnf];exact hwr) (by rw [hnf];exact hlive) g3 g4 g5 g2 (fun j hj=>by rw [hnf] at hj;exact g1 j hj) (fun a=>World.frozen?_setCells _ _ _ _ _) (.one (tset f rv 0 vs)) (by rw [hnf];simp [Ck.live,Ck.alive,Ck.on] at hon ⊢;exact hon) ?_ (CsIn.other (fun _ _ e=>by cases e) (fun _ _ _ _ e=>by cases e))
  rw [hnf,ads_frz]
  refine ⟨by rw [tset_len];exact hcs,fun j hj => ?_⟩
  rw [tset_len] at hj
  have e3:=hgd j (fun e=>by rw [show j=f by omega];exact allVal_getD vs hd f hav hhd hfl)
  rw [e3]
  have e0:({ nth m c with cells:=.one (tset f rv 0 vs) }:Ck C).ad.at 0 j=⟨(nth m c).block,(nth m c).base+j,none⟩:=by simp [Ck.ad,Ad.at]
  rw [e0]
  by_cases hjf:j=f
  · rw [if_pos (by omega),hjf]
    have h1:=World.cell?_setCells_in (nth m c).block [rv] ((nth m c).base+f) w hsome 0 (by simp)
    rw [za] at h1
    exact h1
  · rw [if_neg (by omega)]
    have h1:=hok j hj
    simp only [Ck.ad,Ad.at,ro,we] at h1
    have h2:(w.setCells (nth m c).block ((nth m c).base+f) [rv]).cell? ⟨(nth m c).block,(nth m c).base+j,none⟩=w.cell? ⟨(nth m c).block,(nth m c).base+j,none⟩:=by
     rw [World.cell?_setCells_out]
     intro _ _
     simp only [vu]
     omega
    generalize vs.getD j .junk=v at h1
    cases v <;> simp only [cellIs] at h1 ⊢ <;> rw [h2] <;> exact h1
 have hng:nth (setCk (Vx.frz m k) c (.one (tset f rv 0 vs))) (c+1)=nth m (c+1):=by
  rw [nth_setCk,if_neg (by omega),nth_frz,if_neg (fun e=>hkg e.1.symm)]
 have hnk:nth (setCk (Vx.frz m k) c (.one (tset f rv 0 vs))) k={ nth m k with wr:=false }:=by
  rw [nth_setCk,if_neg (fun e=>hkc e.1),nth_frz,if_pos ⟨rfl,hk⟩]
 have hlen:(setCk (Vx.frz m k) c (.one (tset f rv 0 vs))).length=m.length:=by rw [length_setCk,length_frz]
 have hadm:ads (setCk (Vx.frz m k) c (.one (tset f rv 0 vs)))=ads m:=by rw [ads_setCk,ads_frz]
 have hokk:=hm2.ok (nth (setCk (Vx.frz m k) c (.one (tset f rv 0 vs))) k) (nth_mem (by rw [hlen];exact hk)) (by rw [hnk];exact honk)
 rw [hnk,hadm] at hokk
 simp only [Ck.ok,hck] at hokk
 obtain ⟨hksz,hokk⟩:=hokk
 have hro:Rw.ok (C F.t) (w.setCells (nth m c).block ((nth m c).base+f) [rv]) ⟨true,(nth m k).block,(nth m k).base,mm,l⟩:=by
  unfold Rw.ok
  simp only
  intro j hj q hq
  have h1:=hokk j hj q hq
  simp only [Ck.ad,Ad.at,hksz] at h1
  rw [h1,enc_flat (C F.t) (ads m) noAd _ q hq]
 have hm3:MemOK S w0 (w.setCells (nth m c).block ((nth m c).base+f) [rv]) (setCk (setCk (Vx.frz m k) c (.one (tset f rv 0 vs))) (c+1) (.rows F.te (ys ++ [F.put ⟨true,(nth m k).block,(nth m k).base,mm,l⟩]))):=by
  refine hm2.ghs (by rw [hng];exact hgon) _ fun t' z hz => ?_
  obtain ⟨rfl,hz⟩:=hz.inv
  have hz:z∈ys ++ [F.put ⟨true,(nth m k).block,(nth m k).base,mm,l⟩]:=hz
  rcases List.mem_append.1 hz with hz | hz
  · refine .inl ⟨_,nth_mem (m:=setCk (Vx.frz m k) c (.one (tset f rv 0 vs))) (c:=c+1) (by rw [hlen];exact hcg'),?_,fun _ h=>h⟩
    rw [hng]
    exact .of_rows hcg hz
  · rw [List.mem_singleton.1 hz]
    refine .inr ⟨F.good _ _ hro,fun b hb => ?_⟩
    rw [F.blks] at hb
    have hb:b=(nth m k).block:=by simpa [Rw.blks] using hb
    subst hb
    refine ⟨by rw [g2];exact hm.lt _ (nth_mem hk) honk,fun hb0=>.inl (hm.inS _ (nth_mem hk) hwk honk hb0),fun c' hc' hw' hl' => ?_,fun p hp=>((hm.more.pin p hp).2.2 _ (nth_mem hk) hlivek).symm⟩
    have key:∀ j,j<m.length→j≠k→(nth m j).wr=true→(nth m j).live=true→(nth m j).block≠(nth m k).block:=fun j hj hjk h1 h2=>hm.apart j k hj hk hjk h1 h2 hlivek
    rcases mem_setCk hc' with ⟨j,hj,hjg,rfl⟩ | ⟨_,rfl⟩
    · rw [hlen] at hj
      by_cases hjc:j=c
      · subst hjc
        rw [nth_setCk,if_pos ⟨rfl,by rw [length_frz];exact hc⟩,hnf]
        exact key j hj (Ne.symm hkc) hwr hlive
      · by_cases hjk:j=k
        · subst hjk
          rw [hnk] at hw';cases hw'
        · have e:nth (setCk (Vx.frz m k) c (.one (tset f rv 0 vs))) j=nth m j:=by
           rw [nth_setCk,if_neg (fun e=>hjc e.1),nth_frz,if_neg (fun e=>hjk e.1)]
          rw [e] at hw' hl' ⊢
          exact key j hj hjk hw' hl'
    · rw [hng] at hl'
      have:=(Ck.live_iff.1 hl').2
      change (nth m (c+1)).on=true at this
      rw [hgon] at this;cases this
 refine ⟨_,_,.undef,.inr ⟨?_,rfl⟩,hm3,hK,fun j _=>by rw [ads_setCk,hadm],by rw [length_setCk,hlen];exact zw _,.inl ⟨by rw [length_setCk,hlen],by rw [ads_setCk,hadm]⟩⟩
 rw [hv] at e2
 have e1':a.eval x=.pointer (some ((ads m c).at 0 f)):=by rw [e1];rfl
 simp [execOp,Instr.storeAt,e1',e2,Instr.sureAddr,hrun]
def boxT (P:Program) (tm:Tm) (m:List (Ck C)) (T:Tail C) (o:Op) (K:SV→List (Ck C)→Tr):Tr:=
 match o with
 | .box _ x=>match ev tm m [] x with
   | some v=>match memLt m.length m && tmLt m.length tm && v.plain && SV.lts m.length v.parts with
     | true=>.all fun b=>K (.ptr m.length 0 0) (m ++ [⟨b,0,v.parts.length,true,none,.one v.parts⟩,⟨0,0,1,false,some false,.rows T.F.te []⟩])
     | false=>.no
   | none=>.no
 | _=>.no
theorem boxT_ok {P:Program} {S:Sx} {w0 w:World} {n:Nat} {tm:Tm} {m:List (Ck C)} {T:Tail C} {a:Act} (h:ActOK (ads m) n tm a) (hm:MemOK S w0 w m) {o:Oper}
 {K:SV→List (Ck C)→Tr} (hl:(boxT P tm m T o.op K).holds):Left P S w0 tm m w (execOp a.eval o) K:=by
 obtain ⟨dst,op,ty,pos,after,g⟩:=o
 unfold boxT at hl
 simp only at hl
 split at hl <;> try exact hl.elim
 rename_i e x
 split at hl <;> try exact hl.elim
 rename_i v hv
 split at hl <;> try exact hl.elim
 rename_i hc
 simp only [zq] at hc
 obtain ⟨⟨⟨h1,h2⟩,h3⟩,h4⟩:=hc
 have e1:=ev_ok h hm.glob (fun p hp=>by cases hp) _ _ hv
 have hcs:=SV.plain_cells (ads m) h3
 have hvas:=SV.vas_congr (ads_append m ⟨w.heap.size,0,v.parts.length,true,none,.one v.parts⟩) v.parts h4
 have hok:=one_ok (C:=C) (ad:=ads (m ++ [⟨w.heap.size,0,v.parts.length,true,none,.one v.parts⟩])) w e v.parts (v.va (ads m)).cells (by rw [hcs,← SV.vas_eq,← hvas]) true none
 have hm1:=hm.new h1 _ e _ _ hok (CsIn.other (fun _ _ e=>by cases e) (fun _ _ _ _ e=>by cases e))
 have hl1:memLt (m ++ [(⟨w.heap.size,0,v.parts.length,true,none,.one v.parts⟩:Ck C)]).length (m ++ [⟨w.heap.size,0,v.parts.length,true,none,.one v.parts⟩])=true:=by
  refine memLt_app (memLt_mono (by simp) h1) ?_
  simp only [memLt,Ck.lt,Bool.and_true]
  exact SV.lts_mono (by simp) _ h4
 have hm2:=hm1.off hl1 (x:=⟨0,0,1,false,some false,.rows T.F.te []⟩) rfl fun t y hy=>by
  obtain ⟨rfl,hy⟩:=hy.inv
  cases hy
 have ea:m ++ [(⟨w.heap.size,0,v.parts.length,true,none,.one v.parts⟩:Ck C),⟨0,0,1,false,some false,.rows T.F.te []⟩]=m ++ [⟨w.heap.size,0,v.parts.length,true,none,.one v.parts⟩] ++ [⟨0,0,1,false,some false,.rows T.F.te []⟩]:=by simp
 have had:∀ k,k<m.length→ads m k=ads (m ++ [(⟨w.heap.size,0,v.parts.length,true,none,.one v.parts⟩:Ck C),⟨0,0,1,false,some false,.rows T.F.te []⟩]) k:=fun k hk=>by
  rw [ea,← ads_append _ _ k (by simp;omega),← ads_append _ _ k hk]
 refine ⟨_,_,_,.inl ?_,by rw [ea];exact hm2,hl w.heap.size,had,by simp,.inr h2⟩
 have e0:ads (m ++ [(⟨w.heap.size,0,v.parts.length,true,none,.one v.parts⟩:Ck C),⟨0,0,1,false,some false,.rows T.F.te []⟩]) m.length=⟨w.heap.size,0,v.parts.length,true⟩:=by
  rw [ea,← ads_append _ _ _ (by simp)]
  exact ads_append_new _ _
 simp [execOp,Instr.box,e1,newVar,newRow,SV.va,e0,Ad.at]
def findTail (te:Nat):Nat→List (Ck C)→Option Nat
 | _,[]=>none
 | k,⟨_,_,_,_,g,.rows t _⟩ :: r=>match zi t te,g with
   | true,none=>some k
   | _,_=>findTail te (k+1) r
 | k,_ :: r=>findTail te (k+1) r
def arrQ (P:Program) (T:Option (Tail C)) (tm:Tm) (m:List (Ck C)) (al:List (Nat×Bool)) (o:Op):Ans:=
 match T with
 | none=>none
 | some T=>match o with
   | .indexAddr t x ix=>match P.underlying t,ev tm m al x,ev tm m al ix with
     | some (.array n e),some (.ptr c i f),some (.int _ j)=>match P.underlying e,zi (P.cellsOf e) 1,wc 2 n with
       | some (.slice _),true,true=>match findTail T.F.te 0 m with
         | some q=>match zi (nth m q).sz 1 with
           | true=>some ([0≤j,j<(n:Int),(nth m q).block=(nth m c).block,(nth m q).base=(nth m c).base+(i*(nth m c).sz+f)],.ptr q j.toNat 0)
           | false=>none
         | none=>some ([0≤j,j<(n:Int)],.ptr c i (j.toNat+f))
       | _,_,_=>none
     | _,_,_=>none
   | _=>none
theorem arrQ_ok {P:Program} {S:Sx} {w0 w:World} {n:Nat} {T:Option (Tail C)} {tm:Tm} {m:List (Ck C)} {a:Act} (h:ActOK (ads m) n tm a) (hm:MemOK S w0 w m) {al:List (Nat×Bool)} (ha:AlOK tm al) {o:Oper} {ps:List Prop} {r:SV}
 (hl:arrQ P T tm m al o.op=some (ps,r)) (hp:allOf ps):(execOp a.eval o).run P w=.ok (.value (r.va (ads m))) w:=by
 obtain ⟨dst,op,type,pos,after,guard⟩:=o
 unfold arrQ at hl
 simp only at hl
 split at hl <;> try contradiction
 split at hl <;> try contradiction
 rename_i t x ix
 split at hl <;> try contradiction
 rename_i n e c i f k j hu hx hj
 split at hl <;> try contradiction
 rename_i e' hue hce hn
 have hce:=zp hce
 have hn:2≤n:=xk hn
 have hs:=run_sizeOf0 (P:=P) (t:=e) (by omega) w
 have ex:=ev_ok h hm.glob ha _ _ hx
 have ej:=ev_ok h hm.glob ha _ _ hj
 have main:0≤j→j<(n:Int)→∀ v:Value,v=.pointer (some (((ads m c).at i f).add (j.toNat*1)))→(execOp a.eval ⟨dst,.indexAddr t x ix,type,pos,after,guard⟩).run P w=.ok (.value v) w:=by
  rintro h1 h2 v rfl
  have ht:¬ n≤1:=by omega
  simp [execOp,ex,ej,SV.va,Instr.indexAt,asIntOf,run_underlying' hu,Instr.sureAddr,h1,h2,hs,hce]
 split at hl
 · rename_i q _
   split at hl <;> try contradiction
   rename_i hq
   have hq:=zp hq
   simp only [Option.some.injEq,Prod.mk.injEq] at hl
   obtain ⟨rfl,rfl⟩:=hl
   obtain ⟨h1,h2,h3,h4,_⟩:=hp
   refine main h1 h2 _ ?_
   simp only [SV.va,ads,Ck.ad,Ad.at,h3,h4,hq]
   simp [Addr.add]
 · simp only [Option.some.injEq,Prod.mk.injEq] at hl
   obtain ⟨rfl,rfl⟩:=hl
   obtain ⟨h1,h2,_⟩:=hp
   refine main h1 h2 _ ?_
   have:(ads m c).base+(i*(ads m c).sz+(j.toNat+f))=(ads m c).base+(i*(ads m c).sz+f)+j.toNat*1:=by omega
   simp only [SV.va,Ad.at,Addr.add,this]
   split
   · rename_i h0;rw [h0];rfl
   · rfl
def seqOf:Nat→List (Nat×SV)→Option (List SV)
 | _,[]=>some []
 | k,(i,.fn f a b) :: r=>match zi i k,seqOf (k+1) r with
   | true,some vs=>some (.fn f a b :: vs)
   | _,_=>none
 | _,_=>none
theorem fill_seq {ad:Nat→Ad}:∀ (qs:List (Nat×SV)) (k:Nat) (vs:List SV) (arr:Array Value),seqOf k qs=some vs→k+vs.length≤arr.size→
 ∃ arr',Instr.fill (fun i=>some (i*1,1)) arr (qs.map fun p=>(p.1,p.2.va ad))=some arr'∧arr'.size=arr.size∧∀ j:Nat,arr'[j]? = if k≤j∧j<k+vs.length then (vs.map (SV.va ad))[j - k]? else arr[j]?
 | [],k,vs,arr,h,_=>by
   simp only [seqOf,Option.some.injEq] at h
   subst h
   exact ⟨arr,rfl,rfl,fun j=>by rw [if_neg (by simp only [List.length_nil];omega)]⟩
 | (i,v) :: r,k,vs,arr,h,hs=>by
   cases v <;> simp only [seqOf] at h <;> try contradiction
   rename_i f a b
   split at h <;> try contradiction
   rename_i us hik hr
   simp only [Option.some.injEq] at h
   subst h
   have hik:=zp hik
   subst hik
   simp only [xy] at hs
   obtain ⟨arr',h1,h2,h3⟩:=fill_seq (ad:=ad) r (i+1) us (arr.setIfInBounds i ((SV.fn f a b).va ad)) hr (by simp;omega)
   refine ⟨arr',?_,by rw [h2];simp,fun j => ?_⟩
   · have hc:((SV.fn f a b).va ad).cells = #[(SV.fn f a b).va ad]:=by simp [SV.va,Value.cells]
     simp only [List.map_cons,Instr.fill,hc]
     rw [if_neg (by simp;omega)]
     simpa using h1
   · rw [h3]
     by_cases hj:j=i
     · subst hj
       rw [if_neg (by omega),if_pos (by simp only [xy];omega)]
       simp [Array.getElem?_setIfInBounds_self_of_lt (show j<arr.size by omega)]
     · rw [Array.getElem?_setIfInBounds_ne (Ne.symm hj)]
       by_cases h4:i+1≤j∧j<i+1+us.length
       · rw [if_pos h4,if_pos (by simp only [xy];omega),show j - i=(j - (i+1))+1 by omega]
         simp
       · rw [if_neg h4,if_neg (by simp only [xy];omega)]
def bldF (P:Program) (tm:Tm) (m:List (Ck C)) (o:Op):Option (List SV):=
 match o with
 | .buildSlice t len ps=>match P.underlying t with
   | some (.slice e)=>match P.underlying e,P.info? e with
     | some (.func _ _ _),some i=>match i.zero,zi i.size 1,optAll (fun (p:Nat×Operand)=>(ev tm m [] p.2).map fun v=>(p.1,v)) ps.toList with
       | some .nilFunc,true,some qs=>match seqOf 0 qs with
         | some vs=>match zi vs.length len && wc 1 len && wc len 1000 && memLt m.length m && tmLt m.length tm && SV.lts m.length vs with
           | true=>some vs
           | false=>none
         | none=>none
       | _,_,_=>none
     | _,_=>none
   | _=>none
 | _=>none
def bldT (m:List (Ck C)) (vs:List SV) (K:SV→List (Ck C)→Tr):Tr:=
 .all fun b=>K (.sl m.length 0 vs.length vs.length) (m ++ [⟨b,0,1,true,none,.one vs⟩])
theorem bldF_ok {P:Program} {S:Sx} {w0 w:World} {n:Nat} {tm:Tm} {m:List (Ck C)} {a:Act} (h:ActOK (ads m) n tm a) (hm:MemOK S w0 w m) {o:Oper} {vs:List SV} (hb:bldF P tm m o.op=some vs)
 {K:SV→List (Ck C)→Tr} (hl:(bldT m vs K).holds):Left P S w0 tm m w (execOp a.eval o) K:=by
 obtain ⟨dst,op,ty,pos,after,g⟩:=o
 unfold bldF at hb
 simp only at hb
 split at hb <;> try contradiction
 rename_i t len ps
 split at hb <;> try contradiction
 rename_i e hu
 split at hb <;> try contradiction
 rename_i pa ra va i hue hi
 split at hb <;> try contradiction
 rename_i qs hz hsz hq
 split at hb <;> try contradiction
 rename_i us hsq
 split at hb <;> try contradiction
 rename_i hc
 simp only [Option.some.injEq] at hb
 subst hb
 simp only [zq] at hc
 obtain ⟨⟨⟨⟨⟨c1,c2⟩,c3⟩,c4⟩,c5⟩,c6⟩:=hc
 have c1:=zp c1
 have c2:1≤len:=xk c2
 have c3:len≤1000:=xk c3
 have hsz:=zp hsz
 have hso:(sizeOf e).run P w=.ok 1 w:=by simp [sizeOf,typeInfo,hi,hsz]
 have hpairs:=optAll_pairs (fun x v=>ev_ok h hm.glob (fun p hp=>by cases hp) x v) hq
 have h3:(ps.map fun p=>(p.1,a.eval p.2)).toList=qs.map fun p=>(p.1,p.2.va (ads m)):=by rw [← hpairs];simp
 obtain ⟨arr',f1,f2,f3⟩:=fill_seq (ad:=ads m) qs 0 us ((Array.range (len*1)).map ((#[Value.nilFunc]:Array Value)[· % 1]!)) hsq (by simp;omega)
 have hl2:us.map (SV.va (ads m))=arr'.toList:=by
  refine List.ext_getElem? fun j => ?_
  rw [vh (xs:=arr'),f3]
  by_cases hj:j<us.length
  · rw [if_pos (by omega)];rfl
  · rw [if_neg (by omega),List.getElem?_eq_none (by simp;omega)]
    symm
    refine wj ?_
    simp;omega
 have hvas:=SV.vas_congr (ads_append m ⟨w.heap.size,0,1,true,none,.one us⟩) us c6
 rw [SV.vas_eq,SV.vas_eq] at hvas
 have hok:Ck.ok (ads (m ++ [(⟨w.heap.size,0,1,true,none,.one us⟩:Ck C)])) (w.alloc (.cells arr' e)) (⟨w.heap.size,0,1,true,none,.one us⟩:Ck C):=by
  refine ⟨.inr rfl,fun f hf => ?_⟩
  have hcell:(w.alloc (.cells arr' e)).cell? ((⟨w.heap.size,0,1,true,none,.one us⟩:Ck C).ad.at 0 f)=some ((us.getD f .junk).va (ads (m ++ [(⟨w.heap.size,0,1,true,none,.one us⟩:Ck C)]))):=by
   simp only [Ck.ad,Ad.at,we,ro]
   rw [cell?_alloc,← vh,← hl2,hvas]
   simp [List.getD,zt hf]
  revert hcell
  generalize us.getD f .junk=v
  intro hcell
  cases v <;> simp only [cellIs] <;> first | exact hcell | exact ⟨_,hcell⟩
 refine ⟨_,_,_,.inl ?_,hm.new c4 arr' e _ _ hok (CsIn.other (fun _ _ e=>by cases e) (fun _ _ _ _ e=>by cases e)),hl w.heap.size,ads_append _ _,by simp,.inr c5⟩
 have hthis:ads (m ++ [(⟨w.heap.size,0,1,true,none,.one us⟩:Ck C)]) m.length=⟨w.heap.size,0,1,true⟩:=ads_append_new _ _
 have hbig:¬ (16777216<len):=by omega
 have h0:¬ len=0:=by omega
 rw [← h3] at f1
 simp only [Array.toList_map] at f1
 simp only [Nat.mul_one] at f1
 simp [execOp,Instr.buildSlice,run_underlying' hu,hso,hbig,h0,zeroValue,typeInfo,hi,hz,newRow,SV.va,hthis,Ad.at,Value.cells,c1]
 simp at f1
 rw [f1]
 simp
def updEach (cd:Codec):List cd.α→List SV→Option (List cd.α)
 | [],[]=>some []
 | x :: l,v :: r=>match cd.upd x 0 v,updEach cd l r with
   | some y,some l'=>some (y :: l')
   | _,_=>none
 | _,_=>none
theorem updEach_ok {cd:Codec} (hs:cd.sz=1) (ad:Nat→Ad):∀ (l:List cd.α) (vs:List SV) (l':List cd.α),updEach cd l vs=some l'→l'.length=vs.length∧l.length=vs.length∧∀ k,k<vs.length→((cd.enc (l'.getD k cd.dflt)).getD 0 .junk).va ad=(vs.getD k .junk).va ad
 | [],[],l',h=>by
   simp only [updEach,Option.some.injEq] at h
   subst h
   exact ⟨rfl,rfl,fun k hk=>absurd hk (xi k)⟩
 | x :: l,v :: r,l',h=>by
   simp only [updEach] at h
   split at h <;> try contradiction
   rename_i y l2 hy hl
   simp only [Option.some.injEq] at h
   subst h
   obtain ⟨h1,h2,h3⟩:=updEach_ok hs ad l r l2 hl
   refine ⟨by simp [h1],by simp [h2],fun k hk => ?_⟩
   cases k with
   | zero=>
     have hu:=cd.upd_ok ad x 0 v y hy
     have e1:((cd.enc y).getD 0 .junk).va ad=(v.va ad):=by
      have h4:=cd.len y
      have h5:=cd.len x
      have h6:((cd.enc y).map (SV.va ad))[0]? = some (v.va ad):=by
       rw [hu,List.getElem?_set_self (by simp;omega)]
      rw [zf] at h6
      cases h7:(cd.enc y)[0]? with
      | none=>rw [h7] at h6;cases h6
      | some u=>
        rw [h7] at h6
        simp only [yr,Option.some.injEq] at h6
        rw [zy,h7]
        exact h6
     simpa using e1
   | succ k=>simpa using h3 k (by simpa using hk)
 | [],_ :: _,_,h=>by simp [updEach] at h
 | _ :: _,[],_,h=>by simp [updEach] at h
def arrS (P:Program) (tm:Tm) (m:List (Ck C)) (o:Op):Option (List Prop×List (Ck C)):=
 match o with
 | .store t a v=>match P.underlying t with
   | some (.array _ _)=>match ev tm m [] a,ev tm m [] v with
     | some (.ptr c 0 0),some (.agg vs)=>match (nth m c).cells,(nth m c).wr && (zi (P.cellsOf t) vs.length && !(zi (P.cellsOf t) 0) && vs.all SV.cell) with
       | .rows t' l,true=>match zi (C t').sz 1 && !((C t').deep),updEach (C t') l vs with
         | true,some l'=>some ((nth m c).there,setCk m c (.rows t' l'))
         | _,_=>none
       | _,_=>none
     | _,_=>none
   | _=>none
 | _=>none
theorem arrS_ok {P:Program} {S:Sx} {w0 w:World} {N:Nat} {tm:Tm} {m:List (Ck C)} {a:Act} (h:ActOK (ads m) N tm a) (hm:MemOK S w0 w m) {o:Oper} {ps:List Prop} {m':List (Ck C)}
 (hf:arrS P tm m o.op=some (ps,m')) {K:SV→List (Ck C)→Tr} (hKK:(conj ps (K .undef m')).holds):Left P S w0 tm m w (execOp a.eval o) K:=by
 obtain ⟨hps,hK⟩:=(conj_iff _ _).1 hKK
 clear hKK
 obtain ⟨dst,op,ty,pos,after,g⟩:=o
 unfold arrS at hf
 simp only at hf
 split at hf <;> try contradiction
 rename_i t x y
 split at hf <;> try contradiction
 split at hf <;> try contradiction
 rename_i c vs hx hy
 split at hf <;> try contradiction
 rename_i t' l hcl hcc
 split at hf <;> try contradiction
 rename_i l' hsd hu
 simp only [Option.some.injEq,Prod.mk.injEq] at hf
 obtain ⟨rfl,rfl⟩:=hf
 simp only [zq,yi] at hcc hsd
 obtain ⟨hwr,⟨hn,hn0⟩,hcell⟩:=hcc
 have hn:P.cellsOf t=vs.length:=zp hn
 have hn0:P.cellsOf t≠0:=xc hn0
 have hsz:(C t').sz=1:=zp hsd.1
 have hon:=Ck.there_ok hps
 have hc:=lt_of_alive (show (nth m c).alive=true by simp [Ck.alive,hcl])
 have hlive:(nth m c).live=true:=by simp [Ck.live,Ck.alive,hcl,hon]
 have hok:=hm.ok _ (nth_mem hc) hon
 simp only [Ck.ok,hcl] at hok
 obtain ⟨hcs,hok⟩:=hok
 rw [hsz] at hcs
 obtain ⟨u1,u2,u3⟩:=updEach_ok hsz (ads m) l vs l' hu
 have e1:=ev_ok h hm.glob (fun p hp=>by cases hp) _ _ hx
 have e2:=ev_ok h hm.glob (fun p hp=>by cases hp) _ _ hy
 have hone:∀ v∈vs.map (SV.va (ads m)),v.oneCell'=true:=by
  intro v hv
  obtain ⟨u,hu,rfl⟩:=List.mem_map.1 hv
  exact SV.cell_one _ (List.all_eq_true.1 hcell u hu)
 obtain ⟨g1,g2,g3,g4,g5⟩:=heap_setCells (nth m c).block (vs.map (SV.va (ads m))) (nth m c).base w
 have hsome:∀ j,j<(vs.map (SV.va (ads m))).length→(w.cell? ⟨(nth m c).block,(nth m c).base+j,none⟩).isSome=true:=by
  intro j hj
  have:=hok j (by simpa [u2] using hj) 0 (by omega)
  simp only [Ck.ad,Ad.at,hcs] at this
  rw [show (nth m c).base+(j*1+0)=(nth m c).base+j by omega] at this
  rw [this];rfl
 have hst:=run_storeCells_cells (P:=P) (nth m c).block (nth m c).base (vs.map (SV.va (ads m))) 0 w (fun j hj=>by simpa using hsome j hj) (fun j _=>hm.wrok _ (nth_mem hc) hwr hlive _ rfl) (by simpa using hone)
 have hrun:(storeVar t ((ads m c).at 0 0) ((SV.agg vs).va (ads m))).run P w=.ok () (w.setCells (nth m c).block (nth m c).base (vs.map (SV.va (ads m)))):=by
  unfold storeVar
  simp only [Sem.run_bind,run_sizeOf0 hn0,Result.andThen_ok,ne_eq,SV.va,Value.cells,SV.vas_eq]
  simpa [ads,Ck.ad,Ad.at,hn] using hst
 have hdeep:(C t').deep=false:=hsd.2
 refine ⟨_,_,.undef,.inr ⟨?_,rfl⟩,hm.upd hwr hlive g3 g4 g5 g2 g1 (fun a=>World.frozen?_setCells _ _ _ _ _) (.rows t' l') (by simp [Ck.live,Ck.alive,Ck.on] at hon ⊢;exact hon) ?_ (CsIn.rows (RowsOf.flat hdeep _)),hK,fun k _=>by rw [ads_setCk],by rw [length_setCk];exact zw _,.inl ⟨length_setCk ..,ads_setCk ..⟩⟩
 · have e1':a.eval x=.pointer (some ((ads m c).at 0 0)):=by rw [e1];rfl
   simp [execOp,Instr.storeAt,e1',e2,Instr.sureAddr,hrun]
 · refine ⟨by rw [hsz];exact hcs,fun k hk f hf => ?_⟩
   have hf0:f=0:=by omega
   subst hf0
   have e0:({ nth m c with cells:=.rows t' l' }:Ck C).ad.at k 0=⟨(nth m c).block,(nth m c).base+k,none⟩:=by
    have:({ nth m c with cells:=.rows t' l' }:Ck C).ad.at k 0=⟨(nth m c).block,(nth m c).base+(k*(nth m c).sz+0),none⟩:=rfl
    rw [this,hcs];simp
   rw [e0]
   have h1:=World.cell?_setCells_in (nth m c).block (vs.map (SV.va (ads m))) (nth m c).base w hsome k (by simp;omega)
   rw [h1,u3 k (by omega)]
   simp [zy,zt (show k<vs.length by omega)]
def copyS (P:Program) (tm:Tm) (m:List (Ck C)) (o:Op):Option (List Prop×SV×List (Ck C)):=
 match o with
 | .call c=>match c.callee with
   | .builtin .copy=>match c.argTypes.toList,c.args.toList with
     | [t,_],[x,y]=>match P.underlying t,ev tm m [] x,ev tm m [] y with
       | some (.slice e),some (.sl d i n _),some (.sl s j k kk)=>match zi (P.cellsOf e) 1 && (nth m d).wr,(nth m d).cells,(nth m s).cells with
         | true,.rows t1 l,.rows t2 l2=>if h:t2=t1 then
            match zi (C t1).sz 1 && !((C t1).deep) with
            | true=>some (((nth m d).there ++ (nth m s).orNil k kk) ++ [i+min k n≤l.length∧j+min k n≤l2.length],.int .i64 ((min k n:Nat):Int),setCk m d (.rows t1 (l.take i ++ ((castL h l2).drop j).take (min k n) ++ l.drop (i+min k n))))
            | false=>none
           else none
         | _,_,_=>none
       | _,_,_=>none
     | _,_=>none
   | _=>none
 | _=>none
theorem copyS_ok {P:Program} {S:Sx} {w0 w:World} {N:Nat} {tm:Tm} {m:List (Ck C)} {a:Act} (h:ActOK (ads m) N tm a) (hm:MemOK S w0 w m) {o:Oper} {ps:List Prop} {v:SV} {m':List (Ck C)}
 (hf:copyS P tm m o.op=some (ps,v,m')) {K:SV→List (Ck C)→Tr} (hKK:(conj ps (K v m')).holds):Left P S w0 tm m w (execOp a.eval o) K:=by
 obtain ⟨hps,hK⟩:=(conj_iff _ _).1 hKK
 clear hKK
 obtain ⟨dst,op,ty,pos,after,g⟩:=o
 unfold copyS at hf
 simp only at hf
 split at hf <;> try contradiction
 rename_i cl
 obtain ⟨callee,args,argTypes⟩:=cl
 simp only at hf
 split at hf <;> try contradiction
 split at hf <;> try contradiction
 rename_i t tt x y hts has
 split at hf <;> try contradiction
 rename_i e d i n mm s j k kk hu hx hy
 split at hf <;> try contradiction
 rename_i t1 l t2 l2 hb hcd hcs
 split at hf <;> try contradiction
 rename_i ht
 subst ht
 split at hf <;> try contradiction
 rename_i hz
 rw [castL_self] at hf
 simp only [Option.some.injEq,Prod.mk.injEq] at hf
 obtain ⟨rfl,rfl,rfl⟩:=hf
 simp only [zq,yi] at hb hz
 obtain ⟨hce,hwr⟩:=hb
 have hce:P.cellsOf e=1:=zp hce
 have hsz:(C t2).sz=1:=zp hz.1
 obtain ⟨hps1,hlen⟩:=(allOf_append _ _).1 hps
 obtain ⟨hth,hor⟩:=(allOf_append _ _).1 hps1
 obtain ⟨⟨hl1,hl2⟩,_⟩:=hlen
 have hon:=Ck.there_ok hth
 have hd:=lt_of_alive (show (nth m d).alive=true by simp [Ck.alive,hcd])
 have hs:=lt_of_alive (show (nth m s).alive=true by simp [Ck.alive,hcs])
 have hlive:(nth m d).live=true:=by simp [Ck.live,Ck.alive,hcd,hon]
 have hok:=hm.ok _ (nth_mem hd) hon
 simp only [Ck.ok,hcd] at hok
 obtain ⟨hdz,hok⟩:=hok
 rw [hsz] at hdz
 have e1:=ev_ok h hm.glob (fun p hp=>by cases hp) _ _ hx
 have e2:=ev_ok h hm.glob (fun p hp=>by cases hp) _ _ hy
 obtain ⟨vals,hvals⟩:∃ vals,vals=((l2.drop j).take (min k n)).map fun z=>(((C t2).enc z).getD 0 .junk).va (ads m):=⟨_,rfl⟩
 have hvl:vals.length=min k n:=by rw [hvals,List.length_map,ze,wk];omega
 have hvat:∀ r,r<min k n→vals[r]? = some ((((C t2).enc (l2.getD (j+r) (C t2).dflt)).getD 0 .junk).va (ads m)):=fun r hr=>by
  have e:l2.getD (j+r) (C t2).dflt=l2[j+r]:=by rw [zy,zt (show j+r<l2.length by omega)];rfl
  rw [hvals,zf,yn hr,vp,zt (show j+r<l2.length by omega),e]
  rfl
 have hone:∀ v∈vals,v.oneCell'=true:=by
  intro v hv
  rw [hvals] at hv
  obtain ⟨z,_,rfl⟩:=List.mem_map.1 hv
  refine SV.cell_one _ ((C t2).cell z _ ?_)
  have:=(C t2).len z
  rw [zy,zt (show 0<((C t2).enc z).length by omega)]
  exact List.getElem_mem _
 have hat:∀ r,(nth m d).ad.at r 0=⟨(nth m d).block,(nth m d).base+r,none⟩:=fun r=>by
  simp [Ck.ad,Ad.at,hdz]
 have hsome:∀ r,r<vals.length→(w.cell? ⟨(nth m d).block,(nth m d).base+i+r,none⟩).isSome=true:=by
  intro r hr
  have:=hok (i+r) (by omega) 0 (by omega)
  rw [hat] at this
  rw [show (nth m d).base+i+r=(nth m d).base+(i+r) by omega,this];rfl
 have hst:=run_storeCells_cells (P:=P) (nth m d).block ((nth m d).base+i) vals 0 w (fun r hr=>by simpa using hsome r hr) (fun r _=>hm.wrok _ (nth_mem hd) hwr hlive _ rfl) hone
 simp only [za] at hst
 obtain ⟨g1,g2,g3,g4,g5⟩:=heap_setCells (nth m d).block vals ((nth m d).base+i) w
 have hd0:(SV.sl d i n mm).va (ads m)=.slice (some ⟨(nth m d).block,(nth m d).base+i,none⟩) n mm:=by
  have:(ads m d).on=true:=hon
  have ha:(ads m d).at i 0=⟨(nth m d).block,(nth m d).base+i,none⟩:=hat i
  simp [SV.va,this,ha]
 have hrun:(Builtin.copy_ #[t,tt] ty #[(SV.sl d i n mm).va (ads m),(SV.sl s j k kk).va (ads m)]).run P w=.ok (goInt ((min k n:Nat):Int)) (w.setCells (nth m d).block ((nth m d).base+i) vals):=by
  rw [hd0]
  rcases Ck.orNil_ok hor with hso | ⟨hso,hk0,_⟩
  · have hoks:=hm.ok _ (nth_mem hs) hso
    simp only [Ck.ok,hcs] at hoks
    obtain ⟨hssz,hoks⟩:=hoks
    rw [hsz] at hssz
    have hsat:(ads m s).at j 0=⟨(nth m s).block,(nth m s).base+j,none⟩:=by simp [ads,Ck.ad,Ad.at,hssz]
    have hld:=run_loadCells_list (P:=P) w ((ads m s).at j 0) vals (fun r v hv=>by
     have hr:r<min k n:=by
      rw [← hvl]
      exact (List.getElem?_eq_some_iff.1 hv).1
     rw [hvat r hr] at hv
     simp only [Option.some.injEq] at hv
     subst hv
     have:=hoks (j+r) (by omega) 0 (by omega)
     have e0:(nth m s).ad.at (j+r) 0=((ads m s).at j 0).add r:=by
      rw [hsat]
      simp [Ck.ad,Ad.at,hssz,Addr.add,Nat.add_assoc]
     rw [← e0]
     exact this)
    have hsv:(SV.sl s j k kk).va (ads m)=.slice (some ((ads m s).at j 0)) k kk:=by
     have:(ads m s).on=true:=hso
     simp [SV.va,this]
    rw [hsv]
    rw [hvl] at hld
    have hmin:Nat.min k n=min k n:=rfl
    simp [Builtin.copy_,run_underlying' hu,Builtin.lenOf,Builtin.firstCells,run_sizeOf0 (P:=P) (t:=e) (by omega),hce,hmin,hld,hst]
  · subst hk0
    have hv0:vals=[]:=List.eq_nil_of_length_eq_zero (by rw [hvl];simp)
    have hsv:(SV.sl s j 0 kk).va (ads m)=.slice none 0 kk:=by
     have:(ads m s).on=false:=hso
     simp [SV.va,this]
    rw [hsv,hv0]
    simp [Builtin.copy_,run_underlying' hu,Builtin.lenOf,Builtin.firstCells,run_sizeOf0 (P:=P) (t:=e) (by omega),storeCells,World.setCells]
 have hdeep:(C t2).deep=false:=hz.2
 refine ⟨_,_,.int .i64 ((min k n:Nat):Int),.inl ?_,hm.upd hwr hlive g3 g4 g5 g2 g1 (fun a=>World.frozen?_setCells _ _ _ _ _) (.rows t2 (l.take i ++ (l2.drop j).take (min k n) ++ l.drop (i+min k n))) (by simp [Ck.live,Ck.alive,Ck.on] at hon ⊢;exact hon) ?_ (CsIn.rows (RowsOf.flat hdeep _)),hK,fun k _=>by rw [ads_setCk],by rw [length_setCk];exact zw _,.inl ⟨length_setCk ..,ads_setCk ..⟩⟩
 · have ea:args = #[x,y]:=by
    apply wd
    rw [has]
   have et:argTypes = #[t,tt]:=by
    apply wd
    rw [hts]
   subst ea et
   generalize (SV.sl d i n mm).va (ads m)=vd at hrun e1
   generalize (SV.sl s j k kk).va (ads m)=vs at hrun e2
   have er:(SV.int IntKind.i64 ((min k n:Nat):Int)).va (ads (setCk m d (.rows t2 (l.take i ++ (l2.drop j).take (min k n) ++ l.drop (i+min k n)))))=goInt ((min k n:Nat):Int):=rfl
   rw [er]
   simp [execOp,resolve,invoke,builtin,e1,e2,hrun]
 · refine ⟨by rw [hsz];exact hdz,fun r hr f hf => ?_⟩
   have hf0:f=0:=by omega
   subst hf0
   have hL:(l.take i ++ (l2.drop j).take (min k n) ++ l.drop (i+min k n)).length=l.length:=by
    simp only [zx,ze,wk];omega
   have hr:r<l.length:=by rw [← hL];exact hr
   have e0:({ nth m d with cells:=.rows t2 (l.take i ++ (l2.drop j).take (min k n) ++ l.drop (i+min k n)) }:Ck C).ad.at r 0=⟨(nth m d).block,(nth m d).base+r,none⟩:=by
    have:({ nth m d with cells:=.rows t2 (l.take i ++ (l2.drop j).take (min k n) ++ l.drop (i+min k n)) }:Ck C).ad.at r 0=⟨(nth m d).block,(nth m d).base+(r*(nth m d).sz+0),none⟩:=rfl
    rw [this,hdz];simp
   rw [e0]
   by_cases h1:i≤r∧r<i+min k n
   · have h2:=World.cell?_setCells_in (nth m d).block vals ((nth m d).base+i) w hsome (r - i) (by omega)
     rw [show (nth m d).base+i+(r - i)=(nth m d).base+r by omega] at h2
     rw [h2]
     have h3:=hvat (r - i) (by omega)
     rw [zt (by omega)] at h3
     rw [h3]
     congr 4
     have tl:(l.take i).length=i:=by rw [ze];omega
     simp only [zy]
     rw [vx,xr (by omega),tl,yx (by rw [ze,wk];omega),yn (by omega),vp]
   · rw [World.cell?_setCells_out _ _ _ _ _ (fun _ _=>by show (nth m d).base+r<_∨_≤(nth m d).base+r;omega)]
     have h3:=hok r hr 0 (by omega)
     rw [hat] at h3
     rw [h3]
     congr 4
     have tl:(l.take i).length=i:=by rw [ze];omega
     have tl2:((l2.drop j).take (min k n)).length=min k n:=by rw [ze,wk];omega
     simp only [zy]
     rw [vx]
     by_cases h4:r<i
     · rw [yx (by omega),yn h4]
     · rw [xr (by omega),tl,xr (by omega),tl2,vp]
       congr 2
       omega
end Go.Vx
namespace Go.Vx
open Go
variable {C:Nat→Codec}
def pickB (x:Bool) (A B:SB):SB:=
 match A,B with
 | .t,.t=>.t
 | .f,.f=>.f
 | .t,.f=>.tm x
 | .f,.t=>.tm (!x)
 | .t,B=>.tm (x || B.val)
 | .f,B=>.tm (!x && B.val)
 | A,.f=>.tm (x && A.val)
 | A,.t=>.tm (!x || A.val)
 | A,B=>.tm (bif x then A.val else B.val)
theorem pickB_ok (x:Bool) (A B:SB):(pickB x A B).val=if x then A.val else B.val:=by
 cases x <;> cases A <;> cases B <;> simp [pickB,SB.val]
def pickP (tm:Tm) (m:List (Ck C)) (al:List (Nat×Bool)) (o:Op):Ans:=
 match o with
 | .pick (.tmp tc) a b=>match ev tm m al (.tmp tc) with
   | some (.bool .t)=>(ev tm m al a).map fun v=>([],v)
   | some (.bool .f)=>(ev tm m al b).map fun v=>([],v)
   | some (.bool (.tm x))=>match ev tm m (al ++ [(tc,true)]) a,ev tm m (al ++ [(tc,false)]) b with
     | some (.bool A),some (.bool B)=>some ([],.bool (pickB x A B))
     | some .undef,some (.bool B)=>some ([x=false],.bool B)
     | some (.bool A),some .undef=>some ([x=true],.bool A)
     | _,_=>none
   | _=>none
 | _=>none
theorem pickP_ok {P:Program} {n:Nat} {tm:Tm} {m:List (Ck C)} {a:Act} (h:ActOK (ads m) n tm a) (hg:GlOK m) {al:List (Nat×Bool)} (ha:AlOK tm al) {o:Oper} {ps:List Prop} {r:SV}
 (hp:pickP tm m al o.op=some (ps,r)) (hps:allOf ps) (w:World):(execOp a.eval o).run P w=.ok (.value (r.va (ads m))) w:=by
 obtain ⟨dst,op,ty,pos,after,g⟩:=o
 simp only at hp
 cases op <;> simp only [pickP] at hp <;> try contradiction
 rename_i c x y
 cases c <;> simp only at hp <;> try contradiction
 rename_i tc
 split at hp <;> try (first | contradiction | exact False.elim hp)
 · rename_i hc
   cases hx:ev tm m al x with
   | none=>simp [hx] at hp
   | some v=>
     simp only [hx,yr,Option.some.injEq,Prod.mk.injEq] at hp
     obtain ⟨rfl,rfl⟩:=hp
     simp [execOp,ev_ok h hg ha _ _ hc,ev_ok h hg ha _ _ hx,SV.va,SB.val,asBool]
 · rename_i hc
   cases hy:ev tm m al y with
   | none=>simp [hy] at hp
   | some v=>
     simp only [hy,yr,Option.some.injEq,Prod.mk.injEq] at hp
     obtain ⟨rfl,rfl⟩:=hp
     simp [execOp,ev_ok h hg ha _ _ hc,ev_ok h hg ha _ _ hy,SV.va,SB.val,asBool]
 · rename_i b hc
   have hcond:condAt tm tc=some b:=by
    simp only [ev] at hc
    unfold condAt
    cases hg':get tm tc with
    | junk=>simp [hg',strip] at hc
    | cnd cs v=>
      simp only [hg',strip] at hc
      split at hc
      · cases v <;> simp_all [SB.val]
      · cases hc
    | bool s=>simp only [hg',strip,Option.some.injEq,SV.bool.injEq] at hc;simp [hc,SB.val]
    | _=>simp [hg',strip] at hc
   have hval:=ev_ok h hg ha _ _ hc
   have ha':AlOK tm (al ++ [(tc,b)]):=by
    intro p hp
    rcases List.mem_append.1 hp with hp | hp
    · exact ha p hp
    · simp at hp;subst hp;exact hcond
   split at hp <;> try (first | contradiction | exact False.elim hp)
   · rename_i A B hA hB
     simp only [Option.some.injEq,Prod.mk.injEq] at hp
     obtain ⟨rfl,rfl⟩:=hp
     cases b with
     | true=>
       have:=ev_ok h hg ha' _ _ hA
       have hv:a.eval (.tmp tc)=.bool true:=hval
       simp [execOp,hv,this,SV.va,asBool,pickB_ok]
     | false=>
       have:=ev_ok h hg ha' _ _ hB
       have hv:a.eval (.tmp tc)=.bool false:=hval
       simp [execOp,hv,this,SV.va,asBool,pickB_ok]
   · rename_i B hA hB
     simp only [Option.some.injEq,Prod.mk.injEq] at hp
     obtain ⟨rfl,rfl⟩:=hp
     have hb:b=false:=hps.1
     subst hb
     have:=ev_ok h hg ha' _ _ hB
     have hv:a.eval (.tmp tc)=.bool false:=hval
     simp [execOp,hv,this,SV.va,asBool]
   · rename_i A hA hB
     simp only [Option.some.injEq,Prod.mk.injEq] at hp
     obtain ⟨rfl,rfl⟩:=hp
     have hb:b=true:=hps.1
     subst hb
     have:=ev_ok h hg ha' _ _ hA
     have hv:a.eval (.tmp tc)=.bool true:=hval
     simp [execOp,hv,this,SV.va,asBool]
inductive PTree where
 | nil
 | p (i:Nat) (r:PTree)
 | q (i:Nat) (r:PTree)
 | e (i:Nat) (r:PTree)
 | f (i:Nat) (r:PTree)
 | two (i:Nat) (a:PTree) (j:Nat) (b:PTree)
inductive Tk where
 | p (i:Nat)
 | q (i:Nat)
 | e (i:Nat)
 | f (i:Nat)
 | t (r:PTree)
def PTree.of:List Tk→PTree
 | []=>.nil
 | .p i :: r=>.p i (PTree.of r)
 | .q i :: r=>.q i (PTree.of r)
 | .e i :: r=>.e i (PTree.of r)
 | .f i :: r=>.f i (PTree.of r)
 | .t r :: _=>r
def PTree.len:PTree→Nat
 | .nil=>0
 | .p _ r=>r.len+1
 | .q _ r=>r.len+1
 | .e _ r=>r.len+1
 | .f _ r=>r.len+1
 | .two _ a _ _=>a.len+1
structure Env (P:Program) (C:Nat→Codec) where
 fcs:List (Fc P C)
 pcs:List (Pc P C)
 n:Nat
 plans:List (Nat×List Nat×List Tk):=[]
 fams:List (Fam C):=[]
 famw:List (FamW C):=[]
 tail:Option (Tail C):=none
def Plain (C:Nat→Codec) (a:Addr):Prop:=∃ (g:Nat) (c:Array Value) (t:TypeId),(a.block,Obj.cells c t (0,0))∈(C g).gpins
def eqPtr (P:Program) (C:Nat→Codec) (t1 t2:TypeId) (a b:Addr):Option (List Prop×SB):=
 match zi t1 t2 with
 | false=>some ([],.f)
 | true=>match P.underlying t1,P.info? t1 with
   | some (.pointer te),some i=>match P.info? te with
     | some j=>match i.comparable,zi j.size 0 with
       | true,false=>some ([Plain C a,Plain C b],.tm (decide (a=b)))
       | _,_=>none
     | none=>none
   | _,_=>none
def eqQ (P:Program) (tm:Tm) (m:List (Ck C)) (al:List (Nat×Bool)) (o:Op):Ans:=
 match o with
 | .binOp op t x y _=>match ev tm m al x,ev tm m al y with
   | some (.ifc t1 (.val (.pointer (some a)))),some (.ifc t2 (.val (.pointer (some b))))=>match P.underlying t with
     | some (.interface _)=>match op with
       | .eql=>(eqPtr P C t1 t2 a b).map fun (ps,s)=>(ps,.bool s)
       | .neq=>(eqPtr P C t1 t2 a b).map fun (ps,s)=>(ps,.bool s.neg)
       | _=>none
     | _=>none
   | _,_=>none
 | _=>none
theorem eqPtr_ok {P:Program} {S:Sx} {w0 w:World} {m:List (Ck C)} (hm:MemOK S w0 w m) {t:TypeId} {ms:Array (String×TypeId)} (ht:P.underlying t=some (.interface ms)) {t1 t2:TypeId} {a b:Addr} {ps:List Prop} {s:SB}
 (h:eqPtr P C t1 t2 a b=some (ps,s)) (hp:allOf ps):(Op.equal t (.iface t1 (.pointer (some a))) (.iface t2 (.pointer (some b)))).run P w=.ok s.val w:=by
 unfold eqPtr at h
 split at h
 · rename_i hne
   simp only [Option.some.injEq,Prod.mk.injEq] at h
   obtain ⟨_,rfl⟩:=h
   have hne:t1≠t2:=xc hne
   have key:∀ d:Nat,(Op.equalIn (d+1) t (.iface t1 (.pointer (some a))) (.iface t2 (.pointer (some b)))).run P w=.ok false w:=fun d=>by
    simp [Op.equalIn,run_underlying' ht,hne]
   exact key 9999
 · rename_i he
   have he:t1=t2:=zp he
   subst he
   split at h <;> try contradiction
   rename_i te i hu hi
   split at h <;> try contradiction
   rename_i j hj
   split at h <;> try contradiction
   rename_i hc hs
   simp only [Option.some.injEq,Prod.mk.injEq] at h
   obtain ⟨rfl,rfl⟩:=h
   have hs:j.size≠0:=xc hs
   obtain ⟨⟨g,c,u,hg⟩,⟨g',c',u',hg'⟩,_⟩:=hp
   have ha:=(hm.more.gp g _ hg).1
   have hb:=(hm.more.gp g' _ hg').1
   by_cases hab:a=b
   · subst hab
     simp only [SB.val,decide_true]
     exact run_equalIn_iface_ptr_same w 9998 a ht hu hi hc hj
   · simp only [Op.equal,Op.maxDepth,run_equalIn_iface_ptr_other w 9998 ht hu hi hc hj hs hab ha hb,SB.val,decide_eq_false hab]
theorem eqQ_ok {P:Program} {S:Sx} {w0 w:World} {n:Nat} {tm:Tm} {m:List (Ck C)} {a:Act} (h:ActOK (ads m) n tm a) (hm:MemOK S w0 w m) {al:List (Nat×Bool)} (ha:AlOK tm al) {o:Oper} {ps:List Prop} {r:SV}
 (hl:eqQ P tm m al o.op=some (ps,r)) (hp:allOf ps):(execOp a.eval o).run P w=.ok (.value (r.va (ads m))) w:=by
 obtain ⟨dst,op,type,pos,after,guard⟩:=o
 simp only at hl
 cases op <;> simp only [eqQ] at hl <;> try contradiction
 case binOp bo t x y yt=>
  split at hl <;> try contradiction
  rename_i t1 a1 t2 b1 hx hy
  split at hl <;> try contradiction
  rename_i ms ht
  have ex:=ev_ok h hm.glob ha _ _ hx
  have ey:=ev_ok h hm.glob ha _ _ hy
  cases bo <;> simp only at hl <;> try contradiction
  · cases he:eqPtr P C t1 t2 a1 b1 with
    | none=>simp [he] at hl
    | some q=>
      obtain ⟨qs,s⟩:=q
      simp only [he,yr,Option.some.injEq,Prod.mk.injEq] at hl
      obtain ⟨rfl,rfl⟩:=hl
      have:=eqPtr_ok hm ht he hp
      simp [execOp,ex,ey,SV.va,eqGuard,binOp,this]
  · cases he:eqPtr P C t1 t2 a1 b1 with
    | none=>simp [he] at hl
    | some q=>
      obtain ⟨qs,s⟩:=q
      simp only [he,yr,Option.some.injEq,Prod.mk.injEq] at hl
      obtain ⟨rfl,rfl⟩:=hl
      have:=eqPtr_ok hm ht he hp
      simp [execOp,ex,ey,SV.va,eqGuard,binOp,this]
      cases s <;> simp [SB.val,SB.neg]
def wraps {P:Program} (E:Env P C):List Nat:=match E.plans.find? fun p=>zi p.1 2000000 with
 | some (_,F,_)=>F
 | none=>[]
def inW (d:Nat):List Nat→Bool
 | []=>false
 | x :: r=>zi x d || inW d r
def wrapP (W:List Nat) (tm:Tm) (m:List (Ck C)) (al:List (Nat×Bool)) (o:Oper):Ans:=
 match W with
 | []=>none
 | _ :: _=>match o.dst with
   | some d=>match inW d W with
     | true=>match o.op with
       | .binOp .add _ x y _=>match ev tm m al x,ev tm m al y with
         | some (.int k a),some (.int k' b)=>if sameKind k k' then some ([],.int k (k.wrap (a+b))) else none
         | _,_=>none
       | _=>none
     | false=>none
   | none=>none
theorem wrapP_ok {P:Program} {n:Nat} {W:List Nat} {tm:Tm} {m:List (Ck C)} {a:Act} (h:ActOK (ads m) n tm a) (hg:GlOK m) {al:List (Nat×Bool)} (ha:AlOK tm al) {o:Oper} {ps:List Prop} {r:SV}
 (hp:wrapP W tm m al o=some (ps,r)) (w:World):(execOp a.eval o).run P w=.ok (.value (r.va (ads m))) w:=by
 obtain ⟨dst,op,type,pos,after,guard⟩:=o
 unfold wrapP at hp
 simp only at hp
 split at hp <;> try contradiction
 split at hp <;> try contradiction
 split at hp <;> try contradiction
 split at hp <;> try contradiction
 rename_i t x y yt
 split at hp <;> try contradiction
 rename_i k p k' q hx hy
 split at hp <;> try contradiction
 rename_i hk
 simp only [Option.some.injEq,Prod.mk.injEq] at hp
 obtain ⟨rfl,rfl⟩:=hp
 have:=sameKind_eq hk
 subst this
 have ex:=ev_ok h hg ha _ _ hx
 have ey:=ev_ok h hg ha _ _ hy
 simp [execOp,ex,ey,SV.va,binOp,Op.intArith,eqGuard]
def pureP {P:Program} (E:Env P C) (tm:Tm) (m:List (Ck C)) (al:List (Nat×Bool)) (o:Oper):Ans:=
 match wrapP (wraps E) tm m al o with
 | some r=>some r
 | none=>match pickP tm m al o.op with
   | some r=>some r
   | none=>pev P (fun c=>(nth m c).sz) (fun c=>(nth m c).onB) (ev tm m al) o.op
def pureQ {P:Program} (E:Env P C) (tm:Tm) (m:List (Ck C)) (al:List (Nat×Bool)) (o:Op):Ans:=
 match lev P tm m al o with
 | some r=>some r
 | none=>match eqQ P tm m al o with
   | some r=>some r
   | none=>match strQ P tm m al o with
     | some r=>some r
     | none=>match arrQ P E.tail tm m al o with
       | some r=>some r
       | none=>callQ E.pcs tm m al o
theorem pureP_ok {P:Program} {E:Env P C} {n:Nat} {tm:Tm} {m:List (Ck C)} {a:Act} (h:ActOK (ads m) n tm a) (hg:GlOK m) {al:List (Nat×Bool)} (ha:AlOK tm al) {o:Oper} {ps:List Prop} {r:SV}
 (hp:pureP E tm m al o=some (ps,r)) (hps:allOf ps) (w:World):(execOp a.eval o).run P w=.ok (.value (r.va (ads m))) w:=by
 unfold pureP at hp
 split at hp
 · rename_i r' hr
   simp only [Option.some.injEq] at hp;subst hp
   exact wrapP_ok h hg ha hr w
 split at hp
 · rename_i r' hr
   simp only [Option.some.injEq] at hp;subst hp
   exact pickP_ok h hg ha hr hps w
 · exact pev_ok hp hps (fun _=>rfl) (fun c=>(nth m c).on_onB) (ev_ok h hg ha) w
def Reads (P:Program) (S:Sx) (w0:World) (m:List (Ck C)) (o:Oper) (a:Act) (v:Value):Prop:=
 ∀ w,MemOK S w0 w m→(execOp a.eval o).run P w=.ok (.value v) w∨
   ∃ f vals,(execOp a.eval o).run P w=.ok (.enter f vals) w∧Calls P f vals w fun e w'=>e=.returned v∧MemOK S w0 w' m
theorem pureQ_ok {P:Program} {S:Sx} {w0:World} {E:Env P C} {n:Nat} {tm:Tm} {m:List (Ck C)} {a:Act} (h:ActOK (ads m) n tm a) {al:List (Nat×Bool)} (ha:AlOK tm al) {o:Oper} {ps:List Prop} {r:SV}
 (hp:pureQ E tm m al o.op=some (ps,r)) (hps:allOf ps):Reads P S w0 m o a (r.va (ads m)):=by
 intro w hm
 unfold pureQ at hp
 split at hp
 · rename_i r' hr
   simp only [Option.some.injEq] at hp;subst hp
   exact .inl (lev_ok h hm ha hr hps)
 · split at hp
   · rename_i r' hr
     simp only [Option.some.injEq] at hp;subst hp
     exact .inl (eqQ_ok h hm ha hr hps)
   · split at hp
     · rename_i r' hr
       simp only [Option.some.injEq] at hp;subst hp
       exact .inl (strQ_ok h hm ha hr hps)
     · split at hp
       · rename_i r' hr
         simp only [Option.some.injEq] at hp;subst hp
         exact .inl (arrQ_ok h hm ha hr hps)
       · exact .inr (callQ_ok h hm ha hp hps)
theorem Reads.wp {P:Program} {S:Sx} {w0 w:World} {m:List (Ck C)} {o:Oper} {a:Act} {v:Value} (h:Reads P S w0 m o a v) (hm:MemOK S w0 w m)
 {next:Act→World→Prop} {Q:Exit→Act→World→Prop} (hn:∀ w',MemOK S w0 w' m→next (a.put o.dst v) w'):o.wp P a w next Q:=by
 unfold Oper.wp
 rcases h w hm with h1 | ⟨f,vals,h1,h2⟩
 · rw [h1];exact hn w hm
 · rw [h1]
   exact h2.mono fun e w' ⟨he,hm'⟩=>by subst he;exact hn w' hm'
def imp:List (Nat×Bool×Bool)→Prop→Prop
 | [],p=>p
 | (_,w,b) :: r,p=>b=w→imp r p
def impT:List (Nat×Bool×Bool)→Prop→Tr
 | [],p=>.lf p
 | (_,w,b) :: r,p=>.imp (b=w) (impT r p)
theorem impT_imp:∀ {cs:List (Nat×Bool×Bool)} {p:Prop},(impT cs p).holds→imp cs p
 | [],_,h=>h
 | (_,_,_) :: _,_,h=>fun e=>impT_imp (h e)
def asks (cs:List (Nat×Bool×Bool)):List Prop→Tr→Tr
 | [],X=>X
 | p :: r,X=>.and (impT cs p) (asks cs r X)
theorem imp_ok:∀ {cs:List (Nat×Bool×Bool)} {p:Prop},imp cs p→holds cs=true→p
 | [],_,h,_=>h
 | (_,w,b) :: r,p,h,hh=>by
   simp only [holds,zq,beq_iff_eq] at hh
   exact imp_ok (h hh.1) hh.2
theorem asks_ok:∀ {cs:List (Nat×Bool×Bool)} {ps:List Prop} {X:Tr},asks cs ps X→X.holds∧(holds cs=true→allOf ps)
 | _,[],_,h=>⟨h,fun _=>trivial⟩
 | _,_ :: _,_,h=>⟨(asks_ok h.2).1,fun hh=>⟨imp_ok (impT_imp h.1) hh,(asks_ok h.2).2 hh⟩⟩
def alOf (cs:List (Nat×Bool×Bool)):List (Nat×Bool):=cs.map fun c=>(c.1,c.2.1)
theorem alOf_ok {tm:Tm} {cs:List (Nat×Bool×Bool)} (h:∀ c∈cs,condAt tm c.1=some c.2.2) (hh:holds cs=true):AlOK tm (alOf cs):=by
 intro p hp
 obtain ⟨c,hc,rfl⟩:=List.mem_map.1 hp
 have:c.2.2=c.2.1:=by
  clear h hp
  induction cs with
  | nil=>cases hc
  | cons x r ih=>
    obtain ⟨t,w,b⟩:=x
    simp only [holds,zq,beq_iff_eq] at hh
    rcases List.mem_cons.1 hc with rfl | hc
    · exact hh.1
    · exact ih hh.2 hc
 rw [h c hc,this]
def callOf:Op→Option Call
 | .call c=>match c.callee with
   | .builtin _=>none
   | _=>some c
 | _=>none
theorem callOf_ok {o:Op} {c:Call} (h:callOf o=some c):o=.call c:=by
 unfold callOf at h
 split at h
 · split at h
   · cases h
   · simp only [Option.some.injEq] at h;rw [h]
 · cases h
def tailTy (T:Option (Tail C)):Op→Option (Tail C)
 | .box e _=>match T with
   | some T=>match zi e T.ty with
     | true=>some T
     | false=>none
   | none=>none
 | _=>none
def eff1 {P:Program} (E:Env P C) (tm:Tm) (m:List (Ck C)) (o:Op) (K:SV→List (Ck C)→Tr):Tr:=
 match famOf P E.fams tm m [] o with
 | some h=>famT h tm m K
 | none=>match famWOf P E.famw tm m [] o with
   | some h=>famWT P h tm m K
   | none=>match callOf o with
     | some c=>callP E.fcs tm m [] c K
     | none=>match tailOf P E.tail tm m [] o with
       | some (ps,m')=>conj ps (K .undef m')
       | none=>match tailTy E.tail o with
         | some T=>boxT P tm m T o K
         | none=>match bldF P tm m o with
           | some vs=>bldT m vs K
           | none=>match arrS P tm m o with
             | some (ps,m')=>conj ps (K .undef m')
             | none=>match copyS P tm m o with
               | some (ps,v,m')=>conj ps (K v m')
               | none=>eev P tm m [] o K
def effG {P:Program} (E:Env P C) (ops:Array Oper) (o:Oper):Nat→Tm→List (Ck C)→(Tm→List (Ck C)→Tr)→Tr
 | fuel,tm,m,K=>match gd ops tm o.guard with
   | .lost=>.no
   | .skip=>match put? E.n tm o.dst [] .undef with
     | some tm'=>K tm' m
     | none=>.no
   | .run []=>eff1 E tm m o.op fun v m'=>match put? E.n tm o.dst [] v with
     | some tm'=>K tm' m'
     | none=>.no
   | .run ((t,_,_) :: _)=>match fuel with
     | 0=>.no
     | fuel+1=>match get tm t with
       | .bool (.tm b)=>.and (.imp (b=true) (fTm (know t true tm) fun tm'=>effG E ops o fuel tm' m K)) (.imp (b=false) (fTm (know t false tm) fun tm'=>effG E ops o fuel tm' m K))
       | _=>.no
theorem eev_ok {P:Program} {S:Sx} {w0 w:World} {n:Nat} {tm:Tm} {m:List (Ck C)} {a:Act} (h:ActOK (ads m) n tm a) (hm:MemOK S w0 w m) {al:List (Nat×Bool)} (ha:AlOK tm al) {o:Oper}
 {K:SV→List (Ck C)→Tr} (hl:eev P tm m al o.op K):Left P S w0 tm m w (execOp a.eval o) K:=by
 obtain ⟨dst,op,ty,pos,after,g⟩:=o
 simp only at hl
 cases op
 case store=>exact eev_store h hm ha hl
 case alloc=>exact eev_alloc hm hl
 case box=>exact eev_box h hm ha hl
 case makeSlice=>exact eev_make h hm ha hl
 case buildSlice=>exact eev_buildSlice h hm ha hl
 case call=>exact eev_append h hm ha hl
 all_goals exact hl.elim
theorem Left.opTo {P:Program} {S:Sx} {w0 w:World} {n:Nat} {tm:Tm} {m:List (Ck C)} {o:Oper} {a:Act} {K:SV→List (Ck C)→Tr} (h:ActOK (ads m) n tm a)
 (hl:Left P S w0 tm m w (execOp a.eval o) K):OpTo P S w0 n tm m o a w K:=by
 obtain ⟨w',m',r,hr,hm',hK,hads,hlen,hlt⟩:=hl.ex
 intro next Q hn
 have ha:ActOK (ads m') n tm a:=by
  rcases hlt with ⟨_,e⟩ | hlt
  · rw [e];exact h
  · exact h.ads hads hlt
 unfold Oper.wp
 rcases hr with hr | ⟨hr,rfl⟩
 · rw [hr];exact hn _ _ _ _ hK hm' ha rfl ⟨hlen,hads⟩
 · rw [hr];exact hn _ _ _ _ hK hm' ha rfl ⟨hlen,hads⟩
theorem eff1_ok {P:Program} {S:Sx} {w0 w:World} {E:Env P C} {o:Oper} {tm:Tm} {m:List (Ck C)} {K:Tm→List (Ck C)→Tr}
 (hs:eff1 E tm m o.op fun v m'=>match put? E.n tm o.dst [] v with | some tm'=>K tm' m' | none=>.no) {a:Act}
 (h:ActOK (ads m) E.n tm a) (hm:MemOK S w0 w m) {next:Act→World→Prop} {Q:Exit→Act→World→Prop}
 (hn:∀ tm' m' a' w',K tm' m'→ActOK (ads m') E.n tm' a'→MemOK S w0 w' m'→(m.length≤m'.length∧∀ k,k<m.length→ads m k=ads m' k)→next a' w'):o.wp P a w next Q:=by
 have fin:OpTo P S w0 E.n tm m o a w (fun v m'=>match put? E.n tm o.dst [] v with | some tm'=>K tm' m' | none=>.no)→o.wp P a w next Q:=by
  intro ho
  refine ho next Q ?_
  intro r m' w' v hK hm' ha' hv hads
  dsimp only at hK
  split at hK <;> try (first | contradiction | exact False.elim hK)
  rename_i tm' hp
  exact hn _ _ _ _ hK (put_ok ha' hp (by simp) _ hv) hm' hads
 have hnil:AlOK tm []:=by intro p hp;cases hp
 unfold eff1 at hs
 split at hs
 · rename_i ht hf
   obtain ⟨v,m',hr,hK,hiff,ha',_,hl,hads⟩:=famT_ok (S:=S) (w0:=w0) h hm.glob hnil hf hs
   refine fin fun next Q hn => ?_
   unfold Oper.wp
   rw [hr w hm]
   exact hn _ _ _ _ hK ((hiff w).1 hm) ha' rfl ⟨hl,fun k hk=>(hads k hk).1⟩
 · split at hs
   · rename_i ht hf
     exact fin ((famWT_ok h hm hnil hf hs).opTo h)
   · split at hs
     · rename_i c hc
       obtain ⟨dst,op,ty,pos,after,g⟩:=o
       have e:=callOf_ok hc
       simp only at e
       subst e
       exact fin (callP_ok h hm hnil hs)
     · split at hs
       · rename_i ps m' hf
         exact fin ((tailOf_ok h hm hnil hf hs).opTo h)
       · split at hs
         · exact fin ((boxT_ok h hm hs).opTo h)
         · split at hs
           · rename_i vs hb
             exact fin ((bldF_ok h hm hb hs).opTo h)
           · split at hs
             · rename_i ps m' hf
               exact fin ((arrS_ok h hm hf hs).opTo h)
             · split at hs
               · rename_i ps v m' hf
                 exact fin ((copyS_ok h hm hf hs).opTo h)
               · exact fin ((eev_ok h hm hnil hs).opTo h)
theorem effG_ok {P:Program} {S:Sx} {w0 w:World} {E:Env P C} {ops:Array Oper} {o:Oper} {m:List (Ck C)} {K:Tm→List (Ck C)→Tr} {a:Act}
 (hm:MemOK S w0 w m) {next:Act→World→Prop} {Q:Exit→Act→World→Prop}
 (hn:∀ tm' m' a' w',K tm' m'→ActOK (ads m') E.n tm' a'→MemOK S w0 w' m'→(m.length≤m'.length∧∀ k,k<m.length→ads m k=ads m' k)→next a' w'):∀ (fuel:Nat) (tm:Tm),effG E ops o fuel tm m K→ActOK (ads m) E.n tm a→
 (Region.wanted o (yielded ops a.tmps)=true→o.wp P a w next Q)∧(Region.wanted o (yielded ops a.tmps)=false→next (a.put o.dst Go.undef) w)
 | fuel,tm,hs,h=>by
   have h1:∀ hg:gd ops tm o.guard=.skip,∀ tm',put? E.n tm o.dst [] .undef=some tm'→K tm' m→(Region.wanted o (yielded ops a.tmps)=true→o.wp P a w next Q)∧(Region.wanted o (yielded ops a.tmps)=false→next (a.put o.dst Go.undef) w):=by
    intro hg tm' hp hk
    have hw:=gd_skip h hg
    exact ⟨fun e=>(by rw [hw] at e;cases e),fun _=>hn _ _ _ _ hk (put_ok h hp (by simp) _ rfl) hm ⟨zw _,fun _ _=>rfl⟩⟩
   have h2:gd ops tm o.guard=.run []→(eff1 E tm m o.op fun v m'=>match put? E.n tm o.dst [] v with | some tm'=>K tm' m' | none=>.no)→
    (Region.wanted o (yielded ops a.tmps)=true→o.wp P a w next Q)∧(Region.wanted o (yielded ops a.tmps)=false→next (a.put o.dst Go.undef) w):=by
    intro hg hk
    obtain ⟨hw,_⟩:=gd_run h hg
    exact ⟨fun _=>eff1_ok hk h hm hn,fun e=>(by rw [hw] at e;cases e)⟩
   cases fuel with
   | zero=>
     unfold effG at hs
     split at hs <;> try (first | contradiction | exact False.elim hs)
     · rename_i hg
       split at hs <;> try (first | contradiction | exact False.elim hs)
       rename_i tm' hp
       exact h1 hg tm' hp hs
     · rename_i hg
       exact h2 hg hs
   | succ fuel=>
     unfold effG at hs
     split at hs <;> try (first | contradiction | exact False.elim hs)
     · rename_i hg
       split at hs <;> try (first | contradiction | exact False.elim hs)
       rename_i tm' hp
       exact h1 hg tm' hp hs
     · rename_i hg
       exact h2 hg hs
     · simp only at hs
       split at hs <;> try (first | contradiction | exact False.elim hs)
       rename_i b ht
       have hk:=know_ok h ht
       cases b with
       | true=>exact effG_ok hm hn fuel _ (by simpa only [fTm_eq] using hs.1 rfl) hk
       | false=>exact effG_ok hm hn fuel _ (by simpa only [fTm_eq] using hs.2 rfl) hk
def famQ {P:Program} (E:Env P C) (ops:Array Oper) (o:Oper):Nat→Tm→List (Ck C)→(Tm→List (Ck C)→Tr)→Tr
 | fuel,tm,m,K=>match gd ops tm o.guard with
   | .lost=>.no
   | .skip=>match put? E.n tm o.dst [] .undef with
     | some tm'=>K tm' m
     | none=>.no
   | .run []=>match famOf P E.fams tm m [] o.op with
     | some h=>famT h tm m fun v m'=>match put? E.n tm o.dst [] v with
       | some tm'=>fM m' fun m'=>K tm' m'
       | none=>.no
     | none=>.no
   | .run ((t,_,_) :: _)=>match fuel with
     | 0=>.no
     | fuel+1=>match get tm t with
       | .bool (.tm b)=>.and (.imp (b=true) (fTm (know t true tm) fun tm'=>famQ E ops o fuel tm' m K)) (.imp (b=false) (fTm (know t false tm) fun tm'=>famQ E ops o fuel tm' m K))
       | _=>.no
theorem famQ_ok {P:Program} {S:Sx} {w0:World} {E:Env P C} {ops:Array Oper} {o:Oper} {m:List (Ck C)} {K:Tm→List (Ck C)→Tr} {a:Act} (hg:GlOK m):∀ (fuel:Nat) (tm:Tm),(famQ E ops o fuel tm m K).holds→ActOK (ads m) E.n tm a→
 ∃ v tm' m',((Region.wanted o (yielded ops a.tmps)=true∧∀ w,MemOK S w0 w m→(execOp a.eval o).run P w=.ok (.value v) w)∨(Region.wanted o (yielded ops a.tmps)=false∧v=Go.undef))∧
   (K tm' m').holds∧ActOK (ads m') E.n tm' (a.put o.dst v)∧(∀ w,MemOK S w0 w m↔MemOK S w0 w m')∧GlOK m'∧(m.length≤m'.length∧∀ k,k<m.length→ads m k=ads m' k∧nth m' k=nth m k)
 | fuel,tm,hs,h=>by
   have h1:gd ops tm o.guard=.skip→∀ tm',put? E.n tm o.dst [] .undef=some tm'→(K tm' m).holds→_:=fun hgd tm' hp hk=>
    (⟨Go.undef,tm',m,.inr ⟨gd_skip h hgd,rfl⟩,hk,put_ok h hp (by simp) _ rfl,fun _=>Iff.rfl,hg,zw _,fun _ _=>⟨rfl,rfl⟩⟩:
      ∃ v tm' m',((Region.wanted o (yielded ops a.tmps)=true∧∀ w,MemOK S w0 w m→(execOp a.eval o).run P w=.ok (.value v) w)∨(Region.wanted o (yielded ops a.tmps)=false∧v=Go.undef))∧
    (K tm' m').holds∧ActOK (ads m') E.n tm' (a.put o.dst v)∧(∀ w,MemOK S w0 w m↔MemOK S w0 w m')∧GlOK m'∧(m.length≤m'.length∧∀ k,k<m.length→ads m k=ads m' k∧nth m' k=nth m k))
   have h2:gd ops tm o.guard=.run []→∀ ht,famOf P E.fams tm m [] o.op=some ht→(famT ht tm m fun v m'=>match put? E.n tm o.dst [] v with
    | some tm'=>fM m' fun m'=>K tm' m'
    | none=>.no).holds→∃ v tm' m',((Region.wanted o (yielded ops a.tmps)=true∧∀ w,MemOK S w0 w m→(execOp a.eval o).run P w=.ok (.value v) w)∨(Region.wanted o (yielded ops a.tmps)=false∧v=Go.undef))∧
    (K tm' m').holds∧ActOK (ads m') E.n tm' (a.put o.dst v)∧(∀ w,MemOK S w0 w m↔MemOK S w0 w m')∧GlOK m'∧(m.length≤m'.length∧∀ k,k<m.length→ads m k=ads m' k∧nth m' k=nth m k):=by
    intro hgd ht hf hk
    obtain ⟨hw,_⟩:=gd_run h hgd
    obtain ⟨v,m',hr,hK,hiff,ha',hg',hl,hads⟩:=famT_ok (S:=S) (w0:=w0) h hg (al:=[]) (by intro p hp;cases hp) hf hk
    split at hK <;> try (first | contradiction | exact False.elim hK)
    rename_i tm' hp
    rw [fM_eq] at hK
    exact ⟨v.va (ads m'),tm',m',.inl ⟨hw,hr⟩,hK,put_ok ha' hp (by simp) _ rfl,hiff,hg',hl,hads⟩
   cases fuel with
   | zero=>
     unfold famQ at hs
     split at hs <;> try (first | contradiction | exact False.elim hs)
     · rename_i hgd
       split at hs <;> try (first | contradiction | exact False.elim hs)
       rename_i tm' hp
       exact h1 hgd tm' hp hs
     · rename_i hgd
       split at hs <;> try (first | contradiction | exact False.elim hs)
       rename_i ht hf
       exact h2 hgd ht hf hs
   | succ fuel=>
     unfold famQ at hs
     split at hs <;> try (first | contradiction | exact False.elim hs)
     · rename_i hgd
       split at hs <;> try (first | contradiction | exact False.elim hs)
       rename_i tm' hp
       exact h1 hgd tm' hp hs
     · rename_i hgd
       split at hs <;> try (first | contradiction | exact False.elim hs)
       rename_i ht hf
       exact h2 hgd ht hf hs
     · simp only at hs
       split at hs <;> try (first | contradiction | exact False.elim hs)
       rename_i b ht
       have hk:=know_ok h ht
       cases b with
       | true=>exact famQ_ok hg fuel _ (by simpa only [fTm_eq] using hs.1 rfl) hk
       | false=>exact famQ_ok hg fuel _ (by simpa only [fTm_eq] using hs.2 rfl) hk
theorem memEq {S:Sx} {w0:World} {m m':List (Ck C)} (h:∀ w,MemOK S w0 w m↔MemOK S w0 w m'):(fun w=>MemOK S w0 w m)=(fun w=>MemOK S w0 w m'):=funext fun w=>propext (h w)
def stepP {P:Program} (E:Env P C) (ops:Array Oper) (o:Oper) (tm:Tm) (m:List (Ck C)) (K:Tm→List (Ck C)→Tr):Tr:=
 match gd ops tm o.guard with
 | .lost=>.no
 | .skip=>match put? E.n tm o.dst [] .undef with
   | some tm'=>K tm' m
   | none=>.no
 | .run cs=>match pureP E tm m (alOf cs) o with
   | some (ps,v)=>match put? E.n tm o.dst cs v with
     | some tm'=>asks cs ps (K tm' m)
     | none=>.no
   | none=>match famOf P E.fams tm m (alOf cs) o.op with
     | some _=>effG E ops o 8 tm m K
     | none=>match pureQ E tm m (alOf cs) o.op with
       | some (ps,v)=>match put? E.n tm o.dst cs v with
         | some tm'=>asks cs ps (K tm' m)
         | none=>.no
       | none=>effG E ops o 8 tm m K
def sops {P:Program} (E:Env P C) (ops:Array Oper):List Oper→Tm→List (Ck C)→(Tm→List (Ck C)→Tr)→Tr
 | [],tm,m,K=>K tm m
 | o :: r,tm,m,K=>stepP E ops o tm m fun tm' m'=>fTm1 tm' fun tm'=>fM m' fun m'=>sops E ops r tm' m' K
theorem stepP_ok {P:Program} {S:Sx} {w0 w:World} {E:Env P C} {ops:Array Oper} {o:Oper} {tm:Tm} {m:List (Ck C)} {K:Tm→List (Ck C)→Tr} (hs:stepP E ops o tm m K) {a:Act}
 (h:ActOK (ads m) E.n tm a) (hm:MemOK S w0 w m) {next:Act→World→Prop} {Q:Exit→Act→World→Prop}
 (hn:∀ tm' m' a' w',K tm' m'→ActOK (ads m') E.n tm' a'→MemOK S w0 w' m'→(m.length≤m'.length∧∀ k,k<m.length→ads m k=ads m' k)→next a' w'):
 (Region.wanted o (yielded ops a.tmps)=true→o.wp P a w next Q)∧(Region.wanted o (yielded ops a.tmps)=false→next (a.put o.dst Go.undef) w):=by
 unfold stepP at hs
 split at hs <;> try (first | contradiction | exact False.elim hs)
 · rename_i hg
   have hw:=gd_skip h hg
   split at hs <;> try (first | contradiction | exact False.elim hs)
   rename_i tm' hp
   refine ⟨fun e=>(by rw [hw] at e;cases e),fun _=>hn _ _ _ _ hs (put_ok h hp (by simp) _ rfl) hm ⟨zw _,fun _ _=>rfl⟩⟩
 · rename_i cs hg
   obtain ⟨hw,hcs⟩:=gd_run h hg
   split at hs
   · rename_i ps v hpu
     split at hs <;> try (first | contradiction | exact False.elim hs)
     rename_i tm' hp
     obtain ⟨hK,hps⟩:=asks_ok hs
     refine ⟨fun e => ?_,fun e => ?_⟩
     · rw [hw] at e
       have hr:=pureP_ok h hm.glob (alOf_ok hcs e) hpu (hps e) w
       unfold Oper.wp
       rw [hr]
       refine hn _ _ _ _ hK (put_ok h hp hcs _ ?_) hm ⟨zw _,fun _ _=>rfl⟩
       cases cs with
       | nil=>rfl
       | cons c r=>simp [mkc,SV.va,e]
     · rw [hw] at e
       refine hn _ _ _ _ hK (put_ok h hp hcs _ ?_) hm ⟨zw _,fun _ _=>rfl⟩
       cases cs with
       | nil=>cases e
       | cons c r=>simp [mkc,SV.va,e]
   · split at hs
     · exact effG_ok hm hn 8 tm hs h
     split at hs
     · rename_i ps v hpu
       split at hs <;> try (first | contradiction | exact False.elim hs)
       rename_i tm' hp
       obtain ⟨hK,hps⟩:=asks_ok hs
       refine ⟨fun e => ?_,fun e => ?_⟩
       · rw [hw] at e
         have hr:=pureQ_ok (S:=S) (w0:=w0) h (alOf_ok hcs e) hpu (hps e)
         refine hr.wp hm fun w' hm' => ?_
         refine hn _ _ _ _ hK (put_ok h hp hcs _ ?_) hm' ⟨zw _,fun _ _=>rfl⟩
         cases cs with
         | nil=>rfl
         | cons c r=>simp [mkc,SV.va,e]
       · rw [hw] at e
         refine hn _ _ _ _ hK (put_ok h hp hcs _ ?_) hm ⟨zw _,fun _ _=>rfl⟩
         cases cs with
         | nil=>cases e
         | cons c r=>simp [mkc,SV.va,e]
     · exact effG_ok hm hn 8 tm hs h
end Go.Vx
namespace Go.Vx
open Go
section
variable {P:Program} {ops:Array Oper} {T:Array Bool→World→Prop} {T0 Cl:World→Prop} {Q:Exit→Act→World→Prop} {E:Nat→Bool}
def wpAT (P:Program) (ops:Array Oper) (T:Array Bool→World→Prop) (Q:Exit→Act→World→Prop):Nat→Array Bool→Act→World→Prop
 | 0,listed,a,w=>T listed w∧Region.ready .any ops listed=[]∧Q .normal a w
 | fuel+1,listed,a,w=>
   T listed w∧(Region.ready .any ops listed=[]→Q .normal a w)∧
   ∀ i∈Region.ready .any ops listed,wpOp P ops Q i (wpAT P ops T Q fuel (listed.setIfInBounds i true)) a w
theorem wpAT_any:∀ (fuel:Nat) (listed:Array Bool) (a:Act) (w:World),wpAT P ops T Q fuel listed a w→wpAny P .any ops Q fuel listed a w
 | 0,_,_,_,h=>⟨h.2.1,h.2.2⟩
 | fuel+1,_,_,_,h=>⟨h.2.1,fun i hi=>wpOp_mono (fun a' w' hk=>wpAT_any fuel _ a' w' hk) (h.2.2 i hi)⟩
def YieldsT (P:Program) (ops:Array Oper) (T0:World→Prop) (o:Oper) (v:Value) (a:Act):Prop:=
 (Region.wanted o (yielded ops a.tmps)=true∧∀ w,T0 w→(execOp a.eval o).run P w=.ok (.value v) w)∨
 (Region.wanted o (yielded ops a.tmps)=false∧v=undef)
theorem YieldsT.of_same {o:Oper} {v:Value} {a a':Act} (hy:YieldsT P ops T0 o v a) (he:execOp a'.eval o=execOp a.eval o)
 (hw:Region.wanted o (yielded ops a'.tmps)=Region.wanted o (yielded ops a.tmps)):YieldsT P ops T0 o v a':=by
 unfold YieldsT at *;rw [he,hw];exact hy
theorem YieldsT.wpOp {i:Nat} {o:Oper} {v:Value} {a:Act} (hi:ops[i]? = some o) (hy:YieldsT P ops T0 o v a) {K:Act→World→Prop} {w:World} (hw':T0 w) (h:K (a.put o.dst v) w):wpOp P ops Q i K a w:=by
 unfold Go.wpOp
 simp only [hi]
 rcases hy with ⟨hw,hv⟩ | ⟨hw,rfl⟩
 · simp only [hw,if_true,Oper.wp,hv w hw',Oper.upon];exact .inl h
 · simp only [hw,vf,if_false];exact h
def Hy (P:Program) (ops:Array Oper) (E:Nat→Bool) (T:Array Bool→World→Prop) (Cl:World→Prop) (Q:Exit→Act→World→Prop):Nat→Array Bool→Act→Prop
 | 0,listed,a=>Region.ready .any ops listed=[]∧∀ w,Cl w→Q .normal a w
 | fuel+1,listed,a=>
   (Region.ready .any ops listed=[]→∀ w,Cl w→Q .normal a w)∧
   ∀ i∈Region.ready .any ops listed,if E i=true then (∀ w,Cl w→wpOp P ops Q i (wpAT P ops T Q fuel (listed.setIfInBounds i true)) a w)
     else qOp P ops Cl i (Hy P ops E T Cl Q fuel (listed.setIfInBounds i true)) a
theorem getD_set_le {l:Array Bool} {i j:Nat} (h:l.getD j false=true):(l.setIfInBounds i true).getD j false=true:=by
 by_cases hij:i=j
 · subst hij
   rcases vb i l.size with h' | h'
   · simp [h']
   · simp [wj h'] at h
 · rw [getD_set_ne false hij];exact h
theorem Hy_sound:∀ (fuel:Nat) (listed:Array Bool) (a:Act) (w:World),(∀ l w,(∀ j,listed.getD j false=true→l.getD j false=true)→Cl w→T l w)→Hy P ops E T Cl Q fuel listed a→Cl w→wpAT P ops T Q fuel listed a w
 | 0,_,_,_,hCT,h,hw=>⟨hCT _ _ (fun _ h=>h) hw,h.1,h.2 _ hw⟩
 | fuel+1,listed,a,w,hCT,h,hw=>by
   refine ⟨hCT _ _ (fun _ h=>h) hw,fun h0=>h.1 h0 _ hw,fun i hi => ?_⟩
   have:=h.2 i hi
   split at this
   · exact this w hw
   · exact wpOp_of_qOp hw (fun a' w' hw' hk=>Hy_sound fuel _ a' w' (fun l w hl hc=>hCT l w (fun j hj=>hl j (getD_set_le hj)) hc) hk hw') this
theorem wpOp_put' {j:Nat} {oi oj:Oper} {v:Value} (hj:ops[j]? = some oj) (hap:oi.apart ops oj=true) (hsj:∀ cs b,oj.op≠.select cs b)
 (hQ:∀ c a w,Q (.panic c) (a.put oi.dst v) w→Q (.panic c) a w) {Y:Act→Prop} (hY:∀ a,Y a→∀ u,Y (a.put oj.dst u)) (hYd:∀ a,Y a→∀ d,Y { a with defers:=d :: a.defers }) {K:Act→World→Prop} {a:Act} {w:World}
 (hy:Y a) (h:wpOp P ops Q j K (a.put oi.dst v) w):wpOp P ops Q j (fun a' w'=>Y a'∧K (a'.put oi.dst v) w') a w:=by
 obtain ⟨h1,h2,h3⟩:=Oper.apart_spec hap
 unfold wpOp at *
 simp only [hj] at *
 rw [wanted_put oj a oi.dst v h1] at h
 split
 · rename_i hw
   simp only [hw,if_true] at h
   rcases h with h | ⟨hasks,hlets⟩
   case inr=>exact .inr ⟨by unfold Oper.asks at *;rw [execOp_put oj hsj a oi.dst v h1] at hasks;exact hasks,hlets⟩
   refine .inl ?_
   unfold Oper.wp at *
   rw [execOp_put oj hsj a oi.dst v h1] at h
   generalize (execOp a.eval oj).run P w=r at *
   cases r with
   | ok n w'=>
     cases n <;> simp only [Oper.upon] at h ⊢
     case value u=>exact ⟨hY a hy u,by rw [← Act.put_comm a v u h2];exact h⟩
     case skip=>exact ⟨hY a hy _,by rw [← Act.put_comm a v undef h2];exact h⟩
     case defer d=>
      refine ⟨hY _ (hYd a hy d) _,?_⟩
      rw [← Act.put_comm _ v undef h2,← Act.put_defers]
      exact h
     case enter f args=>
      refine Calls.mono h fun e w'' he => ?_
      cases e with
      | returned u=>exact ⟨hY a hy u,by rw [← Act.put_comm a v u h2];exact he⟩
      | panicked c=>exact hQ _ _ _ he
      | outgrown=>exact he
     case row row args=>exact Rows.mono h fun u w'' he=>⟨hY a hy u,by rw [← Act.put_comm a v u h2];exact he⟩
   | halt x w'=>
     cases x <;> simp only [Oper.upon] at h ⊢
     case panic u=>exact hQ _ _ _ h
 · rename_i hw
   simp only [hw] at h
   exact ⟨hY a hy _,by rw [← Act.put_comm a v undef h2];exact h⟩
theorem qOp_put' {j:Nat} {oi oj:Oper} {v:Value} (hj:ops[j]? = some oj) (hap:oi.apart ops oj=true)
 (hsj:∀ cs b,oj.op≠.select cs b) {Y:Act→Prop} (hY:∀ a,Y a→∀ u,Y (a.put oj.dst u)) {K:Act→Prop} {a:Act}
 (hy:Y a) (h:qOp P ops Cl j K (a.put oi.dst v)):
 qOp P ops Cl j (fun a'=>Y a'∧K (a'.put oi.dst v)) a:=by
 obtain ⟨h1,h2,h3⟩:=Oper.apart_spec hap
 unfold qOp at *
 simp only [hj] at *
 rw [wanted_put oj a oi.dst v h1] at h
 split
 · rename_i hw
   simp only [hw,if_true] at h
   obtain ⟨u,hu,hn⟩:=h
   refine ⟨u,fun w hw' => ?_,hY a hy u,by rw [← Act.put_comm a v u h2];exact hn⟩
   have:=hu w hw'
   unfold Oper.quietAt at *
   rwa [execOp_put oj hsj a oi.dst v h1] at this
 · rename_i hw
   simp only [hw] at h
   exact ⟨hY a hy _,by rw [← Act.put_comm a v undef h2];exact h⟩
theorem ready_no {i:Nat} {oj:Oper} {listed:Array Bool} (hi:listed.getD i true=false) (hall:∀ e∈oj.after,Region.binds .any e=true→listed.getD e.on false=true):∀ e∈oj.after,Region.binds .any e=true→e.on≠i:=by
 intro e he hb heq
 have h1:=hall e he hb
 rw [heq] at h1
 rcases vb i listed.size with h' | h'
 · simp [h'] at hi h1;rw [hi] at h1;cases h1
 · simp [wj h'] at h1
theorem YieldsT.qOp (hCT:∀ w,Cl w→T0 w) {i:Nat} {o:Oper} {v:Value} {a:Act} (hi:ops[i]? = some o) (hy:YieldsT P ops T0 o v a) {K:Act→Prop} (h:K (a.put o.dst v)):qOp P ops Cl i K a:=by
 unfold Go.qOp
 simp only [hi]
 rcases hy with ⟨hw,hv⟩ | ⟨hw,rfl⟩
 · simp only [hw,if_true];exact ⟨v,fun w hw=>by unfold Oper.quietAt;rw [hv w (hCT w hw)];exact ⟨rfl,rfl⟩,h⟩
 · simp only [hw,vf,if_false];exact h
theorem sub_step {i j:Nat} {oj:Oper} {listed Z:Array Bool} (hZ:∀ j oj,ops[j]? = some oj→j≠i→Z.getD j false=false→∃ e∈oj.after,Region.binds .any e=true∧Z.getD e.on false=false)
 (hoj:ops[j]? = some oj) (hji:j≠i) (hall:∀ e∈oj.after,Region.binds .any e=true→listed.getD e.on false=true) (hLZ:∀ j,listed.getD j false=true→Z.getD j false=true):
 ∀ k,(listed.setIfInBounds j true).getD k false=true→Z.getD k false=true:=by
 have hjZ:Z.getD j false=true:=by
  cases hz:Z.getD j false with
  | true=>rfl
  | false=>
    obtain ⟨e,he,hb,hez⟩:=hZ j oj hoj hji hz
    have:=hLZ e.on (hall e he hb)
    rw [hez] at this;cases this
 intro k hk
 by_cases hjk:j=k
 · subst hjk;exact hjZ
 · rw [getD_set_ne false hjk] at hk;exact hLZ k hk
theorem wpAT_first {i:Nat} {oi:Oper} {v:Value} (Z:Array Bool) (hZ:∀ j oj,ops[j]? = some oj→j≠i→Z.getD j false=false→∃ e∈oj.after,Region.binds .any e=true∧Z.getD e.on false=false)
 (hT:∀ l w,(∀ j,l.getD j false=true→Z.getD j false=true)→T l w→T0 w) (hTi:∀ l w,T (l.setIfInBounds i true) w→T l w) (hi:ops[i]? = some oi) (hsel:∀ (j:Nat) (o:Oper) cs b,ops[j]? = some o→o.op≠.select cs b)
 (hQ:∀ c a w,Q (.panic c) (a.put oi.dst v) w→Q (.panic c) a w):
 ∀ (fuel:Nat) (listed:Array Bool) (a:Act) (w:World),
   (∀ j oj,ops[j]? = some oj→j≠i→listed.getD j true=false→(∀ e∈oj.after,Region.binds .any e=true→e.on≠i)→oi.apart ops oj=true)→
   (∀ j,listed.getD j false=true→Z.getD j false=true)→i∈Region.ready .any ops listed→YieldsT P ops T0 oi v a→
   wpAT P ops T Q fuel (listed.setIfInBounds i true) (a.put oi.dst v) w→wpAT P ops T Q (fuel+1) listed a w:=by
 intro fuel
 induction fuel with
 | zero=>
   intro listed a w _ hLZ hr hy H
   refine ⟨hTi _ _ H.1,fun h=>(by rw [h] at hr;cases hr),fun j hj => ?_⟩
   by_cases hji:j=i
   · subst hji;exact hy.wpOp hi (hT _ _ hLZ (hTi _ _ H.1)) H
   · have:=ready_mono hj hji
     rw [H.2.1] at this
     cases this
 | succ fuel ih=>
   intro listed a w hfree hLZ hr hy H
   refine ⟨hTi _ _ H.1,fun h=>(by rw [h] at hr;cases hr),fun j hj => ?_⟩
   by_cases hji:j=i
   · subst hji;exact hy.wpOp hi (hT _ _ hLZ (hTi _ _ H.1)) H
   · have h1:=H.2.2 j (ready_mono hj hji)
     obtain ⟨hjun,oj,hoj,hall⟩:=mem_ready.1 hj
     have hnot:=ready_no (mem_ready.1 hr).1 hall
     have hap:=hfree j oj hoj hji hjun hnot
     have hfree':∀ k ok,ops[k]? = some ok→k≠i→(listed.setIfInBounds j true).getD k true=false→
      (∀ e∈ok.after,Region.binds .any e=true→e.on≠i)→oi.apart ops ok=true:=fun k ok hk hki hun hno=>by
      refine hfree k ok hk hki ?_ hno
      by_cases hjk:j=k
      · subst hjk;exact hjun
      · rw [getD_set_ne true hjk] at hun;exact hun
     have h2:=wpOp_put' hoj hap (fun cs b=>hsel j oj cs b hoj) hQ (Y:=fun a=>YieldsT P ops T0 oi v a)
      (fun a hy u=>hy.of_same (execOp_put oi (fun cs b=>hsel i oi cs b hi) a oj.dst u (Oper.apart_spec hap).2.2) (wanted_put oi a oj.dst u (Oper.apart_spec hap).2.2))
      (fun a hy d=>hy.of_same rfl rfl) hy h1
     refine wpOp_mono (fun a' w' h3=>ih (listed.setIfInBounds j true) a' w' hfree' (sub_step hZ hoj hji hall hLZ) (ready_mono hr (Ne.symm hji)) h3.1 ?_) h2
     rw [tj _ _ hji]
     exact h3.2
theorem Hy_first_P (hCT:∀ w,Cl w→T0 w) (Z:Array Bool) {i:Nat} {oi:Oper} {v:Value} (hZ:∀ j oj,ops[j]? = some oj→j≠i→Z.getD j false=false→∃ e∈oj.after,Region.binds .any e=true∧Z.getD e.on false=false)
 (hT:∀ l w,(∀ j,l.getD j false=true→Z.getD j false=true)→T l w→T0 w) (hTi:∀ l w,T (l.setIfInBounds i true) w→T l w) (hi:ops[i]? = some oi) (hsel:∀ (j:Nat) (o:Oper) cs b,ops[j]? = some o→o.op≠.select cs b) (hEi:E i=false)
 (hQ:∀ c a w,Q (.panic c) (a.put oi.dst v) w→Q (.panic c) a w):
 ∀ (fuel:Nat) (listed:Array Bool) (a:Act),
   (∀ j oj,ops[j]? = some oj→j≠i→listed.getD j true=false→(∀ e∈oj.after,Region.binds .any e=true→e.on≠i)→oi.apart ops oj=true)→
   (∀ j,listed.getD j false=true→Z.getD j false=true)→i∈Region.ready .any ops listed→YieldsT P ops T0 oi v a→
   Hy P ops E T Cl Q fuel (listed.setIfInBounds i true) (a.put oi.dst v)→Hy P ops E T Cl Q (fuel+1) listed a:=by
 intro fuel
 induction fuel with
 | zero=>
   intro listed a _ _ hr hy H
   refine ⟨fun h=>(by rw [h] at hr;cases hr),fun j hj => ?_⟩
   by_cases hji:j=i
   · subst hji;rw [if_neg (by simp [hEi])];exact hy.qOp hCT hi H
   · have:=ready_mono hj hji
     rw [H.1] at this
     cases this
 | succ fuel ih=>
   intro listed a hfree hLZ hr hy H
   refine ⟨fun h=>(by rw [h] at hr;cases hr),fun j hj => ?_⟩
   by_cases hji:j=i
   · subst hji;rw [if_neg (by simp [hEi])];exact hy.qOp hCT hi H
   · have h1:=H.2 j (ready_mono hj hji)
     obtain ⟨hjun,oj,hoj,hall⟩:=mem_ready.1 hj
     have hnot:=ready_no (mem_ready.1 hr).1 hall
     have hap:=hfree j oj hoj hji hjun hnot
     have hfree':∀ k ok,ops[k]? = some ok→k≠i→(listed.setIfInBounds j true).getD k true=false→
      (∀ e∈ok.after,Region.binds .any e=true→e.on≠i)→oi.apart ops ok=true:=fun k ok hk hki hun hno=>by
      refine hfree k ok hk hki ?_ hno
      by_cases hjk:j=k
      · subst hjk;exact hjun
      · rw [getD_set_ne true hjk] at hun;exact hun
     have hr':=ready_mono hr (Ne.symm hji)
     split at h1
     · rename_i hE
       rw [if_pos hE]
       intro w hw
       have h2:=wpOp_put' hoj hap (fun cs b=>hsel j oj cs b hoj) hQ (Y:=fun a=>YieldsT P ops T0 oi v a)
        (fun a hy u=>hy.of_same (execOp_put oi (fun cs b=>hsel i oi cs b hi) a oj.dst u (Oper.apart_spec hap).2.2) (wanted_put oi a oj.dst u (Oper.apart_spec hap).2.2))
        (fun a hy d=>hy.of_same rfl rfl) hy (h1 w hw)
       refine wpOp_mono (fun a' w' h3 => ?_) h2
       refine wpAT_first Z hZ hT hTi hi hsel hQ fuel _ a' w' hfree' (sub_step hZ hoj hji hall hLZ) hr' h3.1 ?_
       rw [tj _ _ hji]
       exact h3.2
     · rename_i hE
       rw [if_neg hE]
       have h2:=qOp_put' hoj hap (fun cs b=>hsel j oj cs b hoj) (Y:=fun a=>YieldsT P ops T0 oi v a)
        (fun a hy u=>hy.of_same (execOp_put oi (fun cs b=>hsel i oi cs b hi) a oj.dst u (Oper.apart_spec hap).2.2) (wanted_put oi a oj.dst u (Oper.apart_spec hap).2.2)) hy h1
       refine qOp_mono (fun a' h3=>ih (listed.setIfInBounds j true) a' hfree' (sub_step hZ hoj hji hall hLZ) hr' h3.1 ?_) h2
       rw [tj _ _ hji]
       exact h3.2
theorem Hy_first_Q {i:Nat} {oi:Oper} {v:Value} (hi:ops[i]? = some oi) (hsel:∀ (j:Nat) (o:Oper) cs b,ops[j]? = some o→o.op≠.select cs b) (hEi:E i=false) (Z:Array Bool)
 (hZ:∀ j oj,ops[j]? = some oj→j≠i→Z.getD j false=false→∃ e∈oj.after,Region.binds .any e=true∧Z.getD e.on false=false):
 ∀ (fuel:Nat) (listed:Array Bool) (a:Act),
   (∀ j oj,ops[j]? = some oj→j≠i→listed.getD j true=false→(∀ e∈oj.after,Region.binds .any e=true→e.on≠i)→oi.apart ops oj=true)→
   (∀ j,listed.getD j false=true→Z.getD j false=true)→(∀ j,listed.getD j true=false→Z.getD j false=true→E j=false)→
   i∈Region.ready .any ops listed→YieldsIn P ops Cl oi v a→
   Hy P ops E T Cl Q fuel (listed.setIfInBounds i true) (a.put oi.dst v)→Hy P ops E T Cl Q (fuel+1) listed a:=by
 intro fuel
 induction fuel with
 | zero=>
   intro listed a _ _ _ hr hy H
   refine ⟨fun h=>(by rw [h] at hr;cases hr),fun j hj => ?_⟩
   by_cases hji:j=i
   · subst hji;rw [if_neg (by simp [hEi])];exact hy.qOp hi H
   · have:=ready_mono hj hji
     rw [H.1] at this
     cases this
 | succ fuel ih=>
   intro listed a hfree hLZ hEZ hr hy H
   refine ⟨fun h=>(by rw [h] at hr;cases hr),fun j hj => ?_⟩
   by_cases hji:j=i
   · subst hji;rw [if_neg (by simp [hEi])];exact hy.qOp hi H
   · have h1:=H.2 j (ready_mono hj hji)
     obtain ⟨hjun,oj,hoj,hall⟩:=mem_ready.1 hj
     have hnot:=ready_no (mem_ready.1 hr).1 hall
     have hap:=hfree j oj hoj hji hjun hnot
     have hjZ:Z.getD j false=true:=by
      cases hz:Z.getD j false with
      | true=>rfl
      | false=>
        obtain ⟨e,he,hb,hez⟩:=hZ j oj hoj hji hz
        have:=hLZ e.on (hall e he hb)
        rw [hez] at this;cases this
     have hEj:=hEZ j hjun hjZ
     rw [if_neg (by simp [hEj])] at h1 ⊢
     have hfree':∀ k ok,ops[k]? = some ok→k≠i→(listed.setIfInBounds j true).getD k true=false→
      (∀ e∈ok.after,Region.binds .any e=true→e.on≠i)→oi.apart ops ok=true:=fun k ok hk hki hun hno=>by
      refine hfree k ok hk hki ?_ hno
      by_cases hjk:j=k
      · subst hjk;exact hjun
      · rw [getD_set_ne true hjk] at hun;exact hun
     have hr':=ready_mono hr (Ne.symm hji)
     have h2:=qOp_put' hoj hap (fun cs b=>hsel j oj cs b hoj) (Y:=fun a=>YieldsIn P ops Cl oi v a)
      (fun a hy u=>hy.of_same (execOp_put oi (fun cs b=>hsel i oi cs b hi) a oj.dst u (Oper.apart_spec hap).2.2) (wanted_put oi a oj.dst u (Oper.apart_spec hap).2.2)) hy h1
     refine qOp_mono (fun a' h3=>ih (listed.setIfInBounds j true) a' hfree' ?_ ?_ hr' h3.1 ?_) h2
     · intro k hk
       by_cases hjk:j=k
       · subst hjk;exact hjZ
       · rw [getD_set_ne false hjk] at hk;exact hLZ k hk
     · intro k hk hkz
       by_cases hjk:j=k
       · subst hjk;exact hEj
       · rw [getD_set_ne true hjk] at hk;exact hEZ k hk hkz
     · rw [tj _ _ hji]
       exact h3.2
end
def reach (ops:Array Oper) (i:Nat):Nat→Array Bool→Array Bool
 | 0,Z=>Z
 | n+1,Z=>reach ops i n (((Region.ready .any ops Z).filter fun j=>!(zi j i)).foldl (fun Z j=>Z.setIfInBounds j true) Z)
def allIx (ops:Array Oper) (f:Nat→Bool):Bool:=(List.range ops.size).all f
def effs:PTree→List Nat
 | .nil=>[]
 | .e i r=>i :: effs r
 | .f i r=>i :: effs r
 | .p _ r=>effs r
 | .q _ r=>effs r
 | .two i a j _=>i :: j :: effs a
def kW (W:List Nat) (i:Nat):Bool:=W.contains i
def reachOK (ops:Array Oper) (W:List Nat) (i:Nat) (listed Z:Array Bool):Bool:=
 allIx ops (fun j=>zi j i || Z.getD j false || (((ops[j]?).map fun o=>o.after.any fun e=>Region.binds .any e && !(Z.getD e.on false)).getD true)) &&
 allIx ops (fun j=>(!(listed.getD j false) || Z.getD j false) && (listed.getD j true || !(Z.getD j false) || !kW W j))
def lates:PTree→List Nat
 | .nil=>[]
 | .f i r=>i :: lates r
 | .p _ r=>lates r
 | .q _ r=>lates r
 | .e _ r=>lates r
 | .two _ a _ b=>lates a ++ lates b
def reachP (ops:Array Oper) (L:List Nat) (late:Bool) (i:Nat) (listed Z:Array Bool):Bool:=
 allIx ops (fun j=>zi j i || Z.getD j false || (((ops[j]?).map fun o=>o.after.any fun e=>Region.binds .any e && !(Z.getD e.on false)).getD true)) &&
 allIx ops (fun j=>!(listed.getD j false) || Z.getD j false) && (late || L.all fun f=>!(Z.getD f false)) && !(L.contains i)
def planOK (ops:Array Oper) (W L:List Nat):Bool→PTree→Array Bool→Bool
 | _,.nil,listed=>(Region.ready .any ops listed).isEmpty
 | late,.p i r,listed=>(Region.ready .any ops listed).contains i && Region.free .any ops listed i && !kW W i &&
    reachP ops L late i listed (if late || L.isEmpty then uu ops.size true else reach ops i ops.size listed) && planOK ops W L late r (listed.setIfInBounds i true)
 | late,.q i r,listed=>(Region.ready .any ops listed).contains i && Region.free .any ops listed i && !kW W i && reachOK ops W i listed (reach ops i ops.size listed) && planOK ops W L late r (listed.setIfInBounds i true)
 | late,.e i r,listed=>(match Region.ready .any ops listed with
    | [j]=>zi j i
    | _=>false) && kW W i && planOK ops W L late r (listed.setIfInBounds i true)
 | _,.f i r,listed=>(match Region.ready .any ops listed with
    | [j]=>zi j i
    | _=>false) && kW W i && L.contains i && planOK ops W L true r (listed.setIfInBounds i true)
 | late,.two i a j b,listed=>(match Region.ready .any ops listed with
    | [x,y]=>zi x i && zi y j
    | _=>false) && kW W i && kW W j && zi a.len b.len && planOK ops W L late a (listed.setIfInBounds i true) && planOK ops W L late b (listed.setIfInBounds j true)
def planned (ops:Array Oper) (l:PTree):Bool:=Region.noSelect ops && planOK ops (effs l) (lates l) false l (uu ops.size false) && zi l.len ops.size
def findPlan (id:Nat):List (Nat×List Nat×List Tk)→Option (List Nat×PTree)
 | []=>none
 | (k,F,l) :: r=>if zi k id then some (F,PTree.of l) else findPlan id r
variable {C:Nat→Codec}
def frozen (tm:Tm):List Nat→List Nat
 | []=>[]
 | x :: r=>match ye x 1000000 with
   | true=>x :: frozen tm r
   | false=>match get tm (x - 1000000) with
     | .ptr c _ _=>c :: frozen tm r
     | _=>frozen tm r
def inL (k:Nat):List Nat→Bool
 | []=>false
 | x :: r=>zi x k || inL k r
def levF (P:Program) (tm:Tm) (m:List (Ck C)) (F:List Nat) (m0:List (Ck C)) (G:List Nat) (al:List (Nat×Bool)) (o:Op):Ans:=
 match o with
 | .load t a=>match ev tm m al a with
   | some (.ptr c i f)=>if inL c F && ye c m0.length then match loadSV P m0 t c i f with
      | some (ps,v)=>if SV.lt m0.length v then some (ps,v) else none
      | none=>none
     else if inL c G then loadSV P m t c i f else none
   | some (.gp g)=>match aggTy P t,(C g).gv with
     | some false,some v=>some ([],v)
     | _,_=>none
   | _=>none
 | _=>none
def stepC {P:Program} (E:Env P C) (ops:Array Oper) (F:List Nat) (m0:List (Ck C)) (G:List Nat) (o:Oper) (tm:Tm) (m:List (Ck C)) (K:Tm→Tr):Tr:=
 match gd ops tm o.guard with
 | .lost=>.no
 | .skip=>match put? E.n tm o.dst [] .undef with
   | some tm'=>K tm'
   | none=>.no
 | .run cs=>match pureP E tm m (alOf cs) o with
   | some (ps,v)=>match put? E.n tm o.dst cs v with
     | some tm'=>asks cs ps (K tm')
     | none=>.no
   | none=>match levF P tm m F m0 G (alOf cs) o.op with
     | some (ps,v)=>match put? E.n tm o.dst cs v with
       | some tm'=>asks cs ps (K tm')
       | none=>.no
     | none=>match cs with
       | []=>.no
       | _ :: _=>match put? E.n tm o.dst [] .undef with
         | some tm'=>asks cs [False] (K tm')
         | none=>.no
def stays (m0 m:List (Ck C)):List Nat→Tr→Tr
 | [],X=>X
 | c :: r,X=>.and (.lf (nth m c=nth m0 c)) (stays m0 m r X)
def inMem (F:List Nat) (m:List (Ck C)):Tr:=
 match memLt m.length m && F.all fun c=>ye c m.length with
 | true=>.yes
 | false=>.no
def stepL {P:Program} (E:Env P C) (ops:Array Oper) (o:Oper) (tm:Tm) (m:List (Ck C)) (K:Tm→List (Ck C)→Tr):Tr:=
 match gd ops tm o.guard with
 | .lost=>.no
 | .skip=>match put? E.n tm o.dst [] .undef with
   | some tm'=>K tm' m
   | none=>.no
 | .run cs=>match famOf P E.fams tm m (alOf cs) o.op with
   | some _=>famQ E ops o 8 tm m K
   | none=>match pureQ E tm m (alOf cs) o.op with
     | some (ps,v)=>match put? E.n tm o.dst cs v with
       | some tm'=>asks cs ps (K tm' m)
       | none=>.no
     | none=>.no
def famP {P:Program} (E:Env P C) (F:List Nat) (m0:List (Ck C)) (tm:Tm) (m:List (Ck C)) (o:Oper):Option (FamHit C):=
 match o.guard with
 | none=>match famOf P E.fams tm m [] o.op with
   | some h=>match inL h.c F && ye h.c m0.length with
     | true=>some h
     | false=>none
   | none=>none
 | some _=>none
def splanG {P:Program} (E:Env P C) (ops:Array Oper) (F:List Nat) (m0:List (Ck C)) (G:List Nat):PTree→Tm→List (Ck C)→(Tm→List (Ck C)→Tr)→Tr
 | .nil,tm,m,K=>K tm m
 | .p i r,tm,m,K=>match ops[i]? with
   | some o=>match famP E F m0 tm m o with
     | some h=>famT h tm m fun v m'=>match put? E.n tm o.dst [] v with
       | some tm'=>fTm1 tm' fun tm'=>splanG E ops F m0 (m.length :: G) r tm' m' K
       | none=>.no
     | none=>stepC E ops F m0 G o tm m fun tm'=>fTm1 tm' fun tm'=>splanG E ops F m0 G r tm' m K
   | none=>.no
 | .q i r,tm,m,K=>match ops[i]? with
   | some o=>stepL E ops o tm m fun tm' m'=>fTm1 tm' fun tm'=>splanG E ops F m0 [] r tm' m' K
   | none=>.no
 | .e i r,tm,m,K=>match ops[i]? with
   | some o=>stepP E ops o tm m fun tm' m'=>fTm1 tm' fun tm'=>fM m' fun m'=>stays m0 m' F (splanG E ops F m0 [] r tm' m' K)
   | none=>.no
 | .f i r,tm,m,K=>match ops[i]? with
   | some o=>stepP E ops o tm m fun tm' m'=>fTm1 tm' fun tm'=>fM m' fun m'=>splanG E ops [] m0 [] r tm' m' K
   | none=>.no
 | .two i a j b,tm,m,K=>match ops[i]?,ops[j]? with
   | some o,some o'=>.and (stepP E ops o tm m fun tm' m'=>fTm1 tm' fun tm'=>fM m' fun m'=>stays m0 m' F (splanG E ops F m0 [] a tm' m' K))
      (stepP E ops o' tm m fun tm' m'=>fTm1 tm' fun tm'=>fM m' fun m'=>stays m0 m' F (splanG E ops F m0 [] b tm' m' K))
   | _,_=>.no
def splan {P:Program} (E:Env P C) (ops:Array Oper) (F:List Nat) (m0:List (Ck C)) (l:PTree) (tm:Tm) (m:List (Ck C)) (K:Tm→List (Ck C)→Tr):Tr:=splanG E ops F m0 [] l tm m K
def Stay (F:List Nat) (m0:List (Ck C)) (w:World):Prop:=(∀ c,inL c F=true→c<m0.length→((nth m0 c).on=true→Ck.ok (ads m0) w (nth m0 c))∧∀ t x,(nth m0 c).cells.Has t x→(C t).good w x)∧∀ g v,(C g).gv=some v→w.cell? ⟨g,0,none⟩=some (v.va noAd)
theorem stays_ok {m0 m:List (Ck C)}:∀ {F:List Nat} {X:Tr},stays m0 m F X→X.holds∧∀ c,inL c F=true→nth m c=nth m0 c
 | [],X,h=>⟨h,fun c hc=>by simp [inL] at hc⟩
 | x :: r,X,h=>by
   obtain ⟨h1,h2⟩:=stays_ok h.2
   refine ⟨h1,fun c hc => ?_⟩
   simp only [inL,yd] at hc
   rcases hc with hc | hc
   · rw [← zp hc];exact h.1
   · exact h2 c hc
theorem Stay.of {S:Sx} {w0 w:World} {F:List Nat} {m0 m:List (Ck C)} (hm:MemOK S w0 w m) (hlt:memLt m0.length m0=true) (hs:∀ c,inL c F=true→nth m c=nth m0 c) (ha:∀ k,k<m0.length→ads m0 k=ads m k):Stay F m0 w:=by
 refine ⟨fun c hc hcl=>⟨fun hon => ?_,fun t x hl => ?_⟩,fun g v hv=>(hm.more.gv g v hv).1⟩
 rotate_left
 · have h1:=hs c hc
   rw [← h1] at hl
   exact (hm.more.deep _ (nth_mem (lt_of_alive (Cells.Has.alive hl))) t x hl).1
 have h1:=hs c hc
 cases hl:(nth m0 c).alive with
 | false=>unfold Ck.alive at hl;unfold Ck.ok;split at hl <;> simp_all
 | true=>
   have h2:=hm.ok _ (nth_mem (lt_of_alive (m:=m) (c:=c) (by rw [h1];exact hl))) (by rw [h1];exact hon)
   rw [h1] at h2
   exact Ck.ok_ads (fun k hk=>(ha k hk).symm) (memLt_mem hlt (nth_mem hcl)) h2
theorem loadSV_ck {P:Program} {w:World} {m:List (Ck C)} {c:Nat} (hc:(nth m c).on=true→Ck.ok (ads m) w (nth m c)) {t i f:Nat} {ps:List Prop} {r:SV} (h:loadSV P m t c i f=some (ps,r)) (hp:allOf ps):
 (loadVar t ((ads m c).at i f)).run P w=.ok (r.va (ads m)) w:=by
 exact loadSV_okc hc h hp
def GsOK (F:List Nat) (m0:List (Ck C)) (G:List Nat) (m:List (Ck C)):Prop:=∀ c,inL c G=true→c<m.length∧∀ w,Stay F m0 w→(nth m c).on=true→Ck.ok (ads m) w (nth m c)
theorem GsOK.nil {F:List Nat} {m0 m:List (Ck C)}:GsOK F m0 [] m:=fun c hc=>by simp [inL] at hc
theorem stepC_ok {P:Program} {E:Env P C} {ops:Array Oper} {F:List Nat} {m0:List (Ck C)} {G:List Nat} {o:Oper} {tm:Tm} {m:List (Ck C)} (hg:GlOK m) (hads:∀ k,k<m0.length→ads m0 k=ads m k) (hG:GsOK F m0 G m) {K:Tm→Tr} (hs:stepC E ops F m0 G o tm m K) {a:Act} (h:ActOK (ads m) E.n tm a):
 ∃ v tm',YieldsT P ops (Stay F m0) o v a∧K tm'∧ActOK (ads m) E.n tm' (a.put o.dst v):=by
 unfold stepC at hs
 split at hs <;> try (first | contradiction | exact False.elim hs)
 · rename_i hgd
   have hw:=gd_skip h hgd
   split at hs <;> try (first | contradiction | exact False.elim hs)
   rename_i tm' hp
   exact ⟨Go.undef,tm',.inr ⟨hw,rfl⟩,hs,put_ok h hp (by simp) _ rfl⟩
 · rename_i cs hgd
   obtain ⟨hw,hcs⟩:=gd_run h hgd
   have fin:∀ (ps:List Prop) (v:SV) (tm':Tm),put? E.n tm o.dst cs v=some tm'→asks cs ps (K tm')→(holds cs=true→allOf ps→∀ w,Stay F m0 w→(execOp a.eval o).run P w=.ok (.value (v.va (ads m))) w)→
    ∃ v tm',YieldsT P ops (Stay F m0) o v a∧K tm'∧ActOK (ads m) E.n tm' (a.put o.dst v):=by
    intro ps v tm' hp hs hr
    obtain ⟨hK,hps⟩:=asks_ok hs
    cases e:holds cs with
    | true=>
      refine ⟨v.va (ads m),tm',.inl ⟨by rw [hw,e],fun w hT=>hr e (hps e) w hT⟩,hK,put_ok h hp hcs _ ?_⟩
      cases cs with
      | nil=>rfl
      | cons c r=>simp [mkc,SV.va,e]
    | false=>
      refine ⟨Go.undef,tm',.inr ⟨by rw [hw,e],rfl⟩,hK,put_ok h hp hcs _ ?_⟩
      cases cs with
      | nil=>cases e
      | cons c r=>simp [mkc,SV.va,e]
   split at hs
   · rename_i ps v hpu
     split at hs <;> try (first | contradiction | exact False.elim hs)
     rename_i tm' hp
     exact fin ps v tm' hp hs fun e hps w _=>pureP_ok h hg (alOf_ok hcs e) hpu hps w
   · split at hs
     rotate_left
     · cases cs with
       | nil=>exact False.elim hs
       | cons c1 c2=>
         dsimp only at hs
         split at hs <;> try (first | contradiction | exact False.elim hs)
         rename_i tm' hp
         obtain ⟨hK,hno⟩:=asks_ok hs
         cases e:holds (c1 :: c2) with
         | true=>exact (hno e).1.elim
         | false=>exact ⟨Go.undef,tm',.inr ⟨by rw [hw,e],rfl⟩,hK,put_ok h hp (by simp) _ rfl⟩
     rename_i ps v hpu
     split at hs <;> try (first | contradiction | exact False.elim hs)
     rename_i tm' hp
     refine fin ps v tm' hp hs fun e hps w hT => ?_
     obtain ⟨dst,op,ty,pos,after,g⟩:=o
     simp only at hpu
     cases op <;> simp only [levF] at hpu <;> try contradiction
     rename_i t x
     split at hpu <;> try (first | contradiction | exact False.elim hpu)
     · rename_i c i f he
       split at hpu <;> try (first | contradiction | exact False.elim hpu)
       · rename_i hcF
         simp only [zq] at hcF
         have hcl:c<m0.length:=by simpa using hcF.2
         split at hpu <;> try (first | contradiction | exact False.elim hpu)
         rename_i ps' v' hld
         split at hpu <;> try (first | contradiction | exact False.elim hpu)
         rename_i hvl
         simp only [Option.some.injEq,Prod.mk.injEq] at hpu
         obtain ⟨rfl,rfl⟩:=hpu
         have h1:=ev_ok h hg (alOf_ok hcs e) _ _ he
         have h2:=loadSV_ck (hT.1 c hcF.1 hcl).1 hld hps
         rw [hads c hcl,SV.va_congr hads _ hvl] at h2
         simp [execOp,Instr.loadAt,h1,SV.va,Instr.sureAddr,h2]
       · split at hpu <;> try (first | contradiction | exact False.elim hpu)
         rename_i hcG
         have h1:=ev_ok h hg (alOf_ok hcs e) _ _ he
         have h2:=loadSV_ck ((hG c hcG).2 w hT) hpu hps
         simp [execOp,Instr.loadAt,h1,SV.va,Instr.sureAddr,h2]
     · rename_i g he
       have h1:=ev_ok h hg (alOf_ok hcs e) _ _ he
       split at hpu <;> try (first | contradiction | exact False.elim hpu)
       rename_i v' hag hv
       simp only [Option.some.injEq,Prod.mk.injEq] at hpu
       obtain ⟨_,rfl⟩:=hpu
       have hc:=hT.2 g v' hv
       rw [(C g).gflat v' hv noAd (ads m)] at hc
       have h2:=run_loadVar (P:=P) (w:=w) (a:=⟨g,0,none⟩) hag (vs:=[v'.va (ads m)]) 0 (fun h=>by cases h) (fun _=>by simp) (fun j u hj _ h2=>by
        have:j=0:=by simp at h2;omega
        subst this
        simp only [List.getElem?_cons_zero,Option.some.injEq] at hj
        subst hj
        simpa [Addr.add] using hc)
       simp [execOp,Instr.loadAt,h1,SV.va,Instr.sureAddr,h2]
theorem famS_ok {P:Program} {S:Sx} {w0:World} {E:Env P C} {ops:Array Oper} {F:List Nat} {m0:List (Ck C)} (hm0:memLt m0.length m0=true) {G:List Nat} {tm:Tm} {m:List (Ck C)} {a:Act} (h:ActOK (ads m) E.n tm a) (hg:GlOK m) (hads:∀ k,k<m0.length→ads m0 k=ads m k) (hst:∀ c,inL c F=true→c<m0.length∧nth m c=nth m0 c) (hG:GsOK F m0 G m) {o:Oper} {ht:FamHit C}
 (hf:famP E F m0 tm m o=some ht) {K:SV→List (Ck C)→Tr} (hK:(famT ht tm m K).holds):
 ∃ v m',YieldsT P ops (Stay F m0) o (v.va (ads m')) a∧(K v m').holds∧(∀ w,MemOK S w0 w m↔MemOK S w0 w m')∧ActOK (ads m') E.n tm a∧GlOK m'∧
   (m.length≤m'.length∧∀ k,k<m.length→ads m k=ads m' k∧nth m' k=nth m k)∧GsOK F m0 (m.length :: G) m':=by
 unfold famP at hf
 split at hf <;> try contradiction
 rename_i hgd
 split at hf <;> try contradiction
 rename_i ht' hf'
 split at hf <;> try contradiction
 rename_i hcF
 simp only [Option.some.injEq] at hf
 subst hf
 simp only [zq] at hcF
 obtain ⟨F0,c0,as0,x0⟩:=ht'
 simp only at hcF
 have hcl0:c0<m0.length:=by simpa using hcF.2
 have hst0:=(hst c0 hcF.1).2
 unfold famT at hK
 split at hK <;> try exact hK.elim
 rename_i hlt
 simp only [zq] at hlt
 obtain ⟨hp,hK⟩:=(conj_iff _ _).1 hK
 have hK:=hK _ rfl
 obtain ⟨hc,hon,hx,hrun⟩:=famOf_run h hg (al:=[]) (by intro p hp;cases hp) hf' hp
 simp only at hc hon hx hrun
 have hx':(∃ c∈m,c.cells.Has F0.te x0)∨x0=(C F0.te).dflt:=hx.imp (fun hx=>⟨_,nth_mem hc,hx⟩) id
 have hgood:∀ w,Stay F m0 w→Rw.ok (C F0.t) w (F0.get x0):=fun w hT=>by
  refine F0.good w _ ?_
  rcases hx with hx | hx
  · rw [hst0] at hx;exact (hT.1 _ hcF.1 hcl0).2 _ _ hx
  · rw [hx];exact (C F0.te).dflt_deep.2 w
 generalize hr:F0.get x0=r at hK hgood
 refine ⟨_,_,.inl ⟨?_,fun w hT => ?_⟩,hK,fun w=>⟨fun hm=>(hm.ghost hlt.1 F0 hx' hr).1,MemOK.dropO hlt.1⟩,h.ads (ads_append m _) hlt.2,trivial,⟨by simp,fun k hk=>⟨ads_append m _ k hk,by rw [nth_append,if_pos hk]⟩⟩,?_⟩
 · unfold Region.wanted;rw [hgd]
 · have hgd':=hgood w hT
   have hok:=(hT.1 _ hcF.1 hcl0).1 (by rw [← hst0];exact hon)
   have hok':Ck.ok (ads m) w (nth m c0):=by
    rw [hst0]
    exact Ck.ok_ads hads (memLt_mem hm0 (nth_mem hcl0)) hok
   rw [hrun w hok',hr,ghost_val r m fun ho=>by
    unfold Rw.ok at hgd'
    simp only [ho] at hgd'
    exact hgd']
 · intro k hk
   simp only [inL,yd] at hk
   rcases hk with hk | hk
   · obtain rfl:=zp hk
     refine ⟨by simp,fun w hT ho => ?_⟩
     have hgd:=hgood w hT
     have e:nth (m ++ [(⟨r.b,r.base,(C F0.t).sz,false,some r.on,.rows F0.t r.l⟩:Ck C)]) m.length=⟨r.b,r.base,(C F0.t).sz,false,some r.on,.rows F0.t r.l⟩:=by
      rw [nth_append,if_neg (Nat.lt_irrefl _),if_pos rfl]
     rw [e] at ho ⊢
     have ho:r.on=true:=ho
     unfold Rw.ok at hgd
     simp only [ho] at hgd
     refine ⟨rfl,fun i' hi' f' hf' => ?_⟩
     rw [enc_flat (C F0.t) _ noAd _ f' hf']
     exact hgd i' hi' f' hf'
   · obtain ⟨g1,g2⟩:=hG k hk
     refine ⟨by simp;omega,fun w hT ho => ?_⟩
     rw [nth_append,if_pos g1] at ho ⊢
     exact Ck.ok_ads (ads_append m _) (memLt_mem hlt.1 (nth_mem g1)) (g2 w hT ho)
theorem stepL_ok {P:Program} {S:Sx} {w0:World} {E:Env P C} {ops:Array Oper} {o:Oper} {tm:Tm} {m:List (Ck C)} (hg:GlOK m) {K:Tm→List (Ck C)→Tr} (hs:stepL E ops o tm m K) {a:Act} (h:ActOK (ads m) E.n tm a):
 ∃ v tm' m',YieldsIn P ops (fun w=>MemOK S w0 w m) o v a∧K tm' m'∧ActOK (ads m') E.n tm' (a.put o.dst v)∧(∀ w,MemOK S w0 w m↔MemOK S w0 w m')∧GlOK m'∧(m.length≤m'.length∧∀ k,k<m.length→ads m k=ads m' k∧nth m' k=nth m k):=by
 have same:(∀ w,MemOK S w0 w m↔MemOK S w0 w m)∧GlOK m∧(m.length≤m.length∧∀ k,k<m.length→ads m k=ads m k∧nth m k=nth m k):=⟨fun _=>Iff.rfl,hg,zw _,fun _ _=>⟨rfl,rfl⟩⟩
 unfold stepL at hs
 split at hs <;> try (first | contradiction | exact False.elim hs)
 · rename_i hgd
   have hw:=gd_skip h hgd
   split at hs <;> try (first | contradiction | exact False.elim hs)
   rename_i tm' hp
   exact ⟨Go.undef,tm',m,.inr ⟨hw,rfl⟩,hs,put_ok h hp (by simp) _ rfl,same⟩
 · rename_i cs hgd
   obtain ⟨hw,hcs⟩:=gd_run h hgd
   split at hs
   · obtain ⟨v,tm',m',hr,hK,h',hiff,hg',hl⟩:=famQ_ok (S:=S) (w0:=w0) hg 8 tm hs h
     refine ⟨v,tm',m',?_,hK,h',hiff,hg',hl⟩
     rcases hr with ⟨hw',hr⟩ | hr
     · refine .inl ⟨hw',fun w hm => ?_⟩
       unfold Oper.quietAt;rw [hr w hm];exact ⟨rfl,rfl⟩
     · exact .inr hr
   split at hs <;> try (first | contradiction | exact False.elim hs)
   rename_i ps v hpu
   split at hs <;> try (first | contradiction | exact False.elim hs)
   rename_i tm' hp
   obtain ⟨hK,hps⟩:=asks_ok hs
   cases e:holds cs with
   | true=>
     refine ⟨v.va (ads m),tm',m,.inl ⟨by rw [hw,e],fun w hm => ?_⟩,hK,put_ok h hp hcs _ ?_,same⟩
     · rcases pureQ_ok (S:=S) (w0:=w0) h (alOf_ok hcs e) hpu (hps e) w hm with hr | ⟨f,vals,hr,hc⟩
       · unfold Oper.quietAt;rw [hr];exact ⟨rfl,rfl⟩
       · unfold Oper.quietAt;rw [hr];exact ⟨rfl,hc⟩
     · cases cs with
       | nil=>rfl
       | cons c r=>simp [mkc,SV.va,e]
   | false=>
     refine ⟨Go.undef,tm',m,.inr ⟨by rw [hw,e],rfl⟩,hK,put_ok h hp hcs _ ?_,same⟩
     cases cs with
     | nil=>cases e
     | cons c r=>simp [mkc,SV.va,e]
theorem allIx_ok {ops:Array Oper} {f:Nat→Bool} (h:allIx ops f=true):∀ j,j<ops.size→f j=true:=by
 intro j hj
 exact List.all_eq_true.1 h j (List.mem_range.2 hj)
def TT (L:List Nat) (F:List Nat) (m0:List (Ck C)) (l:Array Bool) (w:World):Prop:=((∃ f∈L,l.getD f false=true)∨Stay F m0 w)∧Stay [] m0 w
theorem reachP_ok {ops:Array Oper} {L:List Nat} {late:Bool} {i:Nat} {listed Z:Array Bool} (hsz:listed.size=ops.size) (h:reachP ops L late i listed Z=true):
 (∀ j oj,ops[j]? = some oj→j≠i→Z.getD j false=false→∃ e∈oj.after,Region.binds .any e=true∧Z.getD e.on false=false)∧
 (∀ j,listed.getD j false=true→Z.getD j false=true)∧(late=true∨∀ f∈L,Z.getD f false=false)∧i∉L:=by
 unfold reachP at h
 simp only [zq,yd,yi,ux] at h
 obtain ⟨⟨⟨h1,h2⟩,h3⟩,h4⟩:=h
 refine ⟨?_,?_,h3,by simpa using h4⟩
 · intro j oj hoj hji hz
   have hj:j<ops.size:=(Array.getElem?_eq_some_iff.1 hoj).1
   have:=allIx_ok h1 j hj
   simp only [hoj,hz,sr,yr,ym,yd] at this
   rcases this with this | this
   · exact absurd (zp this) hji
   · obtain ⟨e,he,hb⟩:=Array.any_eq_true'.1 this
     simp only [zq,yi] at hb
     exact ⟨e,he,hb.1,hb.2⟩
 · intro j hj
   have hjl:j<ops.size:=by
    rcases vb j ops.size with h' | h'
    · exact h'
    · simp [wj (by omega:listed.size≤j)] at hj
   have:=allIx_ok h2 j hjl
   rw [hj] at this
   simpa using this
theorem TT_set {L F:List Nat} {m0:List (Ck C)} {i:Nat} (hi:i∉L) (l:Array Bool) (w:World) (h:TT L F m0 (l.setIfInBounds i true) w):TT L F m0 l w:=by
 refine ⟨?_,h.2⟩
 rcases h.1 with ⟨f,hf,h⟩ | h
 · refine .inl ⟨f,hf,?_⟩
   rw [getD_set_ne false (fun e=>hi (by rw [e];exact hf))] at h
   exact h
 · exact .inr h
theorem Stay.none {S:Sx} {w0 w:World} {m0 m:List (Ck C)} (hm:MemOK S w0 w m):Stay [] m0 w:=⟨fun c hc=>by simp [inL] at hc,fun g v hv=>(hm.more.gv g v hv).1⟩
theorem splan_ok {P:Program} {S:Sx} {w0:World} {E:Env P C} {ops:Array Oper} {W L F0:List Nat} {m0:List (Ck C)} (hm0:memLt m0.length m0=true) {Q:Exit→Act→World→Prop} (hQ:∀ c a w,¬ Q (.panic c) a w) (hns:Region.noSelect ops=true):
 ∀ (l:PTree) (late:Bool) (F G:List Nat) (listed:Array Bool) (tm:Tm) (m:List (Ck C)) (K:Tm→List (Ck C)→Tr) (a:Act),listed.size=ops.size→planOK ops W L late l listed=true→splanG E ops F m0 G l tm m K→GsOK F m0 G m→ActOK (ads m) E.n tm a→GlOK m→
 (∀ k,k<m0.length→ads m0 k=ads m k)→m0.length≤m.length→(∀ c,inL c F=true→c<m0.length∧nth m c=nth m0 c)→(if late then F=[]∧∃ f∈L,listed.getD f false=true else F=F0)→
 (∀ tm' m' a' w',K tm' m'→ActOK (ads m') E.n tm' a'→MemOK S w0 w' m'→(m0.length≤m'.length∧∀ k,k<m0.length→ads m0 k=ads m' k)→Q .normal a' w')→Hy P ops (kW W) (TT L F0 m0) (fun w=>MemOK S w0 w m) Q l.len listed a
 | .nil,late,F,G,listed,tm,m,K,a,_,hp,hs,_,h,_,hads,hle,_,_,hq=>by
   simp only [planOK,List.isEmpty_iff] at hp
   exact ⟨hp,fun w hm=>hq _ _ _ _ hs h hm ⟨hle,hads⟩⟩
 | .p i r,late,F,G,listed,tm,m,K,a,hsz,hp,hs,hG,h,hg,hads,hle,hst,hlt,hq=>by
   simp only [planOK,zq,yi] at hp
   obtain ⟨⟨⟨⟨h1,h2⟩,h3⟩,h5⟩,h4⟩:=hp
   generalize (if (late || L.isEmpty)=true then uu ops.size true else reach ops i ops.size listed)=Z at h5
   obtain ⟨hZ,hLZ,hLL,hiL⟩:=reachP_ok hsz h5
   simp only [splanG] at hs
   split at hs <;> try (first | contradiction | exact False.elim hs)
   rename_i o ho
   have hlt':if late then F=[]∧∃ f∈L,(listed.setIfInBounds i true).getD f false=true else F=F0:=by
    cases late with
    | false=>exact hlt
    | true=>exact ⟨hlt.1,hlt.2.elim fun f hf=>⟨f,hf.1,getD_set_le hf.2⟩⟩
   have hall:∀ (l:Array Bool) (w:World),(∀ k,l.getD k false=true→Z.getD k false=true)→TT L F0 m0 l w→Stay F m0 w:=by
    intro l w hl hT
    cases late with
    | true=>
      obtain ⟨rfl,_⟩:=hlt
      exact hT.2
    | false=>
      simp only [vf,if_false] at hlt
      subst hlt
      rcases hT.1 with ⟨f,hf,hT⟩ | hT
      · rcases hLL with hLL | hLL
        · cases hLL
        · have:=hl f hT
          rw [hLL f hf] at this;cases this
      · exact hT
   split at hs
   · rename_i ht hfp
     obtain ⟨v,m',hy,hK,hiff,h',hg',hl,hG'⟩:=famS_ok (S:=S) (w0:=w0) (ops:=ops) hm0 h hg hads hst hG hfp hs
     split at hK <;> try (first | contradiction | exact False.elim hK)
     rename_i tm' hpt
     rw [fTm1_eq] at hK
     have hnext:=splan_ok (S:=S) (w0:=w0) (a:=a.put o.dst (v.va (ads m'))) hm0 hQ hns r late F _ _ tm' m' K (by simp [hsz]) h4 hK hG' (put_ok h' hpt (by simp) _ rfl) hg' (fun k hk=>(hads k hk).trans (hl.2 k (by omega)).1) (by omega) (fun c hc=>⟨(hst c hc).1,(hl.2 c (by have:=(hst c hc).1;omega)).2.trans (hst c hc).2⟩) hlt' hq
     rw [← memEq hiff] at hnext
     exact Hy_first_P (fun w hm=>Stay.of hm hm0 (fun c hc=>(hst c hc).2) hads) Z hZ hall (TT_set hiL) ho (Region.noSelect_spec hns) h3 (fun c a w hc=>absurd hc (hQ _ _ _)) r.len listed a (Region.free_spec ho h2) hLZ (by simpa using h1) hy hnext
   obtain ⟨v,tm',hy,hK,h'⟩:=stepC_ok hg hads hG hs h
   rw [fTm1_eq] at hK
   exact Hy_first_P (fun w hm=>Stay.of hm hm0 (fun c hc=>(hst c hc).2) hads) Z hZ hall (TT_set hiL) ho (Region.noSelect_spec hns) h3 (fun c a w hc=>absurd hc (hQ _ _ _)) r.len listed a (Region.free_spec ho h2) hLZ (by simpa using h1) hy
    (splan_ok hm0 hQ hns r late F _ _ tm' m K _ (by simp [hsz]) h4 hK hG h' hg hads hle hst hlt' hq)
 | .q i r,late,F,G,listed,tm,m,K,a,hsz,hp,hs,hG,h,hg,hads,hle,hst,hlt,hq=>by
   simp only [planOK,zq,yi] at hp
   obtain ⟨⟨⟨⟨h1,h2⟩,h3⟩,h56⟩,h4⟩:=hp
   generalize reach ops i ops.size listed=Z at h56
   unfold reachOK at h56
   obtain ⟨h5,h6⟩:=Bool.and_eq_true_iff.1 h56
   simp only [splanG] at hs
   split at hs <;> try (first | contradiction | exact False.elim hs)
   rename_i o ho
   obtain ⟨v,tm',m',hy,hK,h',hiff,hg',hle',hads'⟩:=stepL_ok (S:=S) (w0:=w0) hg hs h
   rw [fTm1_eq] at hK
   have hlt':if late then F=[]∧∃ f∈L,(listed.setIfInBounds i true).getD f false=true else F=F0:=by
    cases late with
    | false=>exact hlt
    | true=>exact ⟨hlt.1,hlt.2.elim fun f hf=>⟨f,hf.1,getD_set_le hf.2⟩⟩
   have hnext:=splan_ok (S:=S) (w0:=w0) hm0 hQ hns r late F _ _ tm' m' K _ (by simp [hsz]) h4 hK GsOK.nil h' hg' (fun k hk=>(hads k hk).trans (hads' k (by omega)).1) (by omega) (fun c hc=>⟨(hst c hc).1,(hads' c (by have:=(hst c hc).1;omega)).2.trans (hst c hc).2⟩) hlt' hq
   rw [← memEq hiff] at hnext
   refine Hy_first_Q ho (Region.noSelect_spec hns) h3 Z ?_ r.len listed a (Region.free_spec ho h2) ?_ ?_ (by simpa using h1) hy hnext
   · intro j oj hoj hji hz
     have hj:j<ops.size:=(Array.getElem?_eq_some_iff.1 hoj).1
     have:=allIx_ok h5 j hj
     simp only [hoj,hz,sr,yr,ym,yd] at this
     rcases this with this | this
     · exact absurd (zp this) hji
     · obtain ⟨e,he,hb⟩:=Array.any_eq_true'.1 this
       simp only [zq,yi] at hb
       exact ⟨e,he,hb.1,hb.2⟩
   · intro j hj
     have hjl:j<ops.size:=by
      rcases vb j ops.size with h' | h'
      · exact h'
      · simp [wj (by omega:listed.size≤j)] at hj
     have:=(Bool.and_eq_true_iff.1 (allIx_ok h6 j hjl)).1
     rw [hj] at this
     simpa using this
   · intro j hj hz
     have hjl:j<ops.size:=by
      rcases vb j ops.size with h' | h'
      · exact h'
      · simp [wj (by omega:listed.size≤j)] at hj
     have:=(Bool.and_eq_true_iff.1 (allIx_ok h6 j hjl)).2
     rw [hj,hz] at this
     simpa using this
 | .e i r,late,F,G,listed,tm,m,K,a,hsz,hp,hs,hG,h,hg,hads,hle,hst,hlt,hq=>by
   simp only [planOK,zq] at hp
   obtain ⟨⟨h1,h2⟩,h4⟩:=hp
   have hr:Region.ready .any ops listed=[i]:=by
    split at h1
    · rename_i j hj;rw [hj,zp h1]
    · cases h1
   simp only [splanG] at hs
   split at hs <;> try (first | contradiction | exact False.elim hs)
   rename_i o ho
   have hlt':if late then F=[]∧∃ f∈L,(listed.setIfInBounds i true).getD f false=true else F=F0:=by
    cases late with
    | false=>exact hlt
    | true=>exact ⟨hlt.1,hlt.2.elim fun f hf=>⟨f,hf.1,getD_set_le hf.2⟩⟩
   refine ⟨fun h0=>(by rw [hr] at h0;cases h0),fun j hj => ?_⟩
   rw [hr] at hj
   have hji:j=i:=by simpa using hj
   subst hji
   rw [if_pos h2]
   intro w hm
   obtain ⟨g1,g2⟩:=stepP_ok (Q:=Q) (next:=wpAT P ops (TT L F0 m0) Q r.len (listed.setIfInBounds j true)) hs h hm
    (fun tm' m' a' w' hk h' hm' hads'=>by
      simp only [fTm1_eq,fM_eq] at hk
      obtain ⟨hk',hst'⟩:=stays_ok hk
      have hads2:∀ k,k<m0.length→ads m0 k=ads m' k:=fun k hkl=>(hads k hkl).trans (hads'.2 k (by omega))
      refine Hy_sound _ _ _ _ ?_ (splan_ok hm0 hQ hns r late F _ _ tm' m' K a' (by simp [hsz]) h4 hk' GsOK.nil h' hm'.glob hads2 (xl hle hads'.1) (fun c hc=>⟨(hst c hc).1,hst' c hc⟩) hlt' hq) hm'
      intro l w hl hm
      cases late with
      | true=>
        obtain ⟨_,f,hf,hff⟩:=hlt'
        exact ⟨.inl ⟨f,hf,hl f hff⟩,Stay.none hm⟩
      | false=>
        simp only [vf,if_false] at hlt
        subst hlt
        exact ⟨.inr (Stay.of hm hm0 hst' hads2),Stay.none hm⟩)
   unfold wpOp
   simp only [ho]
   split
   · rename_i hw;exact .inl (g1 hw)
   · rename_i hw;exact g2 (by simpa using hw)
 | .f i r,late,F,G,listed,tm,m,K,a,hsz,hp,hs,hG,h,hg,hads,hle,hst,hlt,hq=>by
   simp only [planOK,zq] at hp
   obtain ⟨⟨⟨h1,h2⟩,h3⟩,h4⟩:=hp
   have hr:Region.ready .any ops listed=[i]:=by
    split at h1
    · rename_i j hj;rw [hj,zp h1]
    · cases h1
   simp only [splanG] at hs
   split at hs <;> try (first | contradiction | exact False.elim hs)
   rename_i o ho
   have hil:i<listed.size:=by rw [hsz];exact (Array.getElem?_eq_some_iff.1 ho).1
   have hlt':∃ f∈L,(listed.setIfInBounds i true).getD f false=true:=⟨i,by simpa using h3,by simp [hil]⟩
   refine ⟨fun h0=>(by rw [hr] at h0;cases h0),fun j hj => ?_⟩
   rw [hr] at hj
   have hji:j=i:=by simpa using hj
   subst hji
   rw [if_pos h2]
   intro w hm
   obtain ⟨g1,g2⟩:=stepP_ok (Q:=Q) (next:=wpAT P ops (TT L F0 m0) Q r.len (listed.setIfInBounds j true)) hs h hm
    (fun tm' m' a' w' hk h' hm' hads'=>by
      simp only [fTm1_eq,fM_eq] at hk
      have hads2:∀ k,k<m0.length→ads m0 k=ads m' k:=fun k hkl=>(hads k hkl).trans (hads'.2 k (by omega))
      refine Hy_sound _ _ _ _ ?_ (splan_ok hm0 hQ hns r true [] _ _ tm' m' K a' (by simp [hsz]) h4 hk GsOK.nil h' hm'.glob hads2 (xl hle hads'.1) (fun c hc=>by simp [inL] at hc) ⟨rfl,hlt'⟩ hq) hm'
      intro l w hl hm
      obtain ⟨f,hf,hff⟩:=hlt'
      exact ⟨.inl ⟨f,hf,hl f hff⟩,Stay.none hm⟩)
   unfold wpOp
   simp only [ho]
   split
   · rename_i hw;exact .inl (g1 hw)
   · rename_i hw;exact g2 (by simpa using hw)
 | .two i a' j b',late,F,G,listed,tm,m,K,a,hsz,hp,hs,hG,h,hg,hads,hle,hst,hlt,hq=>by
   simp only [planOK,zq] at hp
   obtain ⟨⟨⟨⟨⟨h1,h2⟩,h2'⟩,h5⟩,h4⟩,h4'⟩:=hp
   have h5:=zp h5
   have hr:Region.ready .any ops listed=[i,j]:=by
    split at h1
    · rename_i x y hj
      simp only [zq] at h1
      rw [hj,zp h1.1,zp h1.2]
    · cases h1
   simp only [splanG] at hs
   split at hs <;> try (first | contradiction | exact False.elim hs)
   rename_i o o' ho ho'
   have one:∀ (k:Nat) (ok:Oper) (t:PTree),ops[k]? = some ok→planOK ops W L late t (listed.setIfInBounds k true)=true→
    (stepP E ops ok tm m fun tm' m'=>fTm1 tm' fun tm'=>fM m' fun m'=>stays m0 m' F (splanG E ops F m0 [] t tm' m' K)).holds→
    (∀ (tm':Tm) (m':List (Ck C)) (a2:Act),(splanG E ops F m0 [] t tm' m' K).holds→ActOK (ads m') E.n tm' a2→GlOK m'→(∀ k,k<m0.length→ads m0 k=ads m' k)→m0.length≤m'.length→(∀ c,inL c F=true→c<m0.length∧nth m' c=nth m0 c)→
      (if late then F=[]∧∃ f∈L,(listed.setIfInBounds k true).getD f false=true else F=F0)→Hy P ops (kW W) (TT L F0 m0) (fun w=>MemOK S w0 w m') Q t.len (listed.setIfInBounds k true) a2)→
    ∀ w,MemOK S w0 w m→wpOp P ops Q k (wpAT P ops (TT L F0 m0) Q t.len (listed.setIfInBounds k true)) a w:=by
    intro k ok t ho hp4 hs ih w hm
    have hlt':if late then F=[]∧∃ f∈L,(listed.setIfInBounds k true).getD f false=true else F=F0:=by
     cases late with
     | false=>exact hlt
     | true=>exact ⟨hlt.1,hlt.2.elim fun f hf=>⟨f,hf.1,getD_set_le hf.2⟩⟩
    obtain ⟨g1,g2⟩:=stepP_ok (Q:=Q) (next:=wpAT P ops (TT L F0 m0) Q t.len (listed.setIfInBounds k true)) hs h hm
     (fun tm' m' a' w' hk h' hm' hads'=>by
       simp only [fTm1_eq,fM_eq] at hk
       obtain ⟨hk',hst'⟩:=stays_ok hk
       have hads2:∀ k,k<m0.length→ads m0 k=ads m' k:=fun k hkl=>(hads k hkl).trans (hads'.2 k (by omega))
       refine Hy_sound _ _ _ _ ?_ (ih tm' m' a' hk' h' hm'.glob hads2 (xl hle hads'.1) (fun c hc=>⟨(hst c hc).1,hst' c hc⟩) hlt') hm'
       intro l w hl hm
       cases late with
       | true=>
         obtain ⟨_,f,hf,hff⟩:=hlt'
         exact ⟨.inl ⟨f,hf,hl f hff⟩,Stay.none hm⟩
       | false=>
         simp only [vf,if_false] at hlt
         subst hlt
         exact ⟨.inr (Stay.of hm hm0 hst' hads2),Stay.none hm⟩)
    unfold wpOp
    simp only [ho]
    split
    · rename_i hw;exact .inl (g1 hw)
    · rename_i hw;exact g2 (by simpa using hw)
   refine ⟨fun h0=>(by rw [hr] at h0;cases h0),fun k hk => ?_⟩
   rw [hr] at hk
   simp only [List.mem_cons,List.not_mem_nil,or_false] at hk
   rcases hk with rfl | rfl
   · rw [if_pos h2]
     exact one k o a' ho h4 hs.1 fun tm' m' a2 g1 g2 g3 g4 g5 g6 g7=>splan_ok hm0 hQ hns a' late F _ _ tm' m' K a2 (by simp [hsz]) h4 g1 GsOK.nil g2 g3 g4 g5 g6 g7 hq
   · rw [if_pos h2']
     have e:a'.len=b'.len:=h5
     show ∀ w,MemOK S w0 w m→wpOp P ops Q k (wpAT P ops (TT L F0 m0) Q a'.len (listed.setIfInBounds k true)) a w
     rw [e]
     exact one k o' b' ho' h4' hs.2 fun tm' m' a2 g1 g2 g3 g4 g5 g6 g7=>splan_ok hm0 hQ hns b' late F _ _ tm' m' K a2 (by simp [hsz]) h4' g1 GsOK.nil g2 g3 g4 g5 g6 g7 hq
theorem inMem_ok {F:List Nat} {m:List (Ck C)} (h:inMem F m):memLt m.length m=true∧∀ c,inL c F=true→c<m.length:=by
 unfold inMem at h
 split at h
 · rename_i hc
   obtain ⟨h1,h2⟩:=Bool.and_eq_true_iff.1 hc
   refine ⟨h1,fun c hc => ?_⟩
   rw [ux] at h2
   have inl:∀ (F:List Nat),inL c F=true→c∈F:=by
    intro F
    induction F with
    | nil=>intro h;cases h
    | cons x r ih=>
      intro h
      simp only [inL,yd] at h
      rcases h with h | h
      · rw [zp h];simp
      · exact yw _ (ih h)
   have hmem:=inl F hc
   simpa using h2 c hmem
 · exact h.elim
theorem draw_ok {P:Program} (hmix:P.follows .mixedOrders=true) {S:Sx} {w0 w:World} {E:Env P C} {ops:Array Oper} {id:Nat} {Q:Exit→Act→World→Prop} {tm:Tm} {m:List (Ck C)} {K:Tm→List (Ck C)→Tr} {a:Act}
 {F:List Nat} {pl:PTree} (hp:planned ops pl=true) (hin:inMem F m) (hs:splan E ops F m pl tm m K) (h:ActOK (ads m) E.n tm a) (hm:MemOK S w0 w m)
 (hq:∀ tm' m' a' w',K tm' m'→ActOK (ads m') E.n tm' a'→MemOK S w0 w' m'→Q .normal a' w'):(Code.region id ops true).wp P Q a w:=by
 unfold planned at hp
 simp only [zq] at hp
 obtain ⟨⟨h1,h2⟩,h3⟩:=hp
 have h3:=zp h3
 obtain ⟨hm0,hF⟩:=inMem_ok hin
 have key:(Code.region id ops true).wp P (fun e a w=>match e with | .normal=>Q .normal a w | _=>False) a w:=by
  refine wp_region_any hmix ?_
  have:=splan_ok (S:=S) (w0:=w0) hm0 (Q:=fun e a w=>match e with | .normal=>Q .normal a w | _=>False) (fun c a w hc=>hc) (L:=lates pl) (F0:=F) h1 pl false F [] _ tm m K a (by simp) h2 hs GsOK.nil h hm.glob (fun _ _=>rfl) (zw _) (fun c hc=>⟨hF c hc,rfl⟩) rfl (fun tm' m' a' w' hk h' hm' _=>hq _ _ _ _ hk h' hm')
  rw [h3] at this
  exact wpAT_any _ _ _ _ (Hy_sound _ _ _ _ (fun l w _ hm=>⟨.inr (Stay.of hm hm0 (fun _ _=>rfl) (fun _ _=>rfl)),Stay.none hm⟩) this hm.drew)
 refine wp_mono key fun e a w he => ?_
 cases e <;> first | exact he | exact he.elim
end Go.Vx
namespace Go.Vx
open Go
variable {C:Nat→Codec}
theorem sops_ok {P:Program} {S:Sx} {w0:World} {E:Env P C} {ops:Array Oper} {Q:Exit→Act→World→Prop}:∀ {l:List Oper} {tm:Tm} {m:List (Ck C)} {K:Tm→List (Ck C)→Tr} {a:Act} {w:World},
 sops E ops l tm m K→ActOK (ads m) E.n tm a→MemOK S w0 w m→(∀ tm' m' a' w',K tm' m'→ActOK (ads m') E.n tm' a'→MemOK S w0 w' m'→Q .normal a' w')→wpList P ops Q l a w
 | [],tm,m,K,a,w,hs,h,hm,hq=>hq _ _ _ _ hs h hm
 | o :: r,tm,m,K,a,w,hs,h,hm,hq=>by
   obtain ⟨h1,h2⟩:=stepP_ok (Q:=Q) (next:=wpList P ops Q r) hs h hm (fun tm' m' a' w' hk h' hm' _=>by simp only [fTm1_eq,fM_eq] at hk;exact sops_ok hk h' hm' hq)
   unfold wpList
   split
   · rename_i hw;exact .inl (h1 hw)
   · rename_i hw;exact h2 (by simpa using hw)
def stepQ {P:Program} (E:Env P C) (ops:Array Oper) (o:Oper) (tm:Tm) (m:List (Ck C)) (K:Tm→List (Ck C)→Tr):Tr:=
 match gd ops tm o.guard with
 | .lost=>.no
 | .skip=>match put? E.n tm o.dst [] .undef with
   | some tm'=>K tm' m
   | none=>.no
 | .run cs=>match pureP E tm m (alOf cs) o with
   | some (ps,v)=>match put? E.n tm o.dst cs v with
     | some tm'=>asks cs ps (K tm' m)
     | none=>.no
   | none=>match famOf P E.fams tm m (alOf cs) o.op with
     | some _=>famQ E ops o 8 tm m K
     | none=>match pureQ E tm m (alOf cs) o.op with
       | some (ps,v)=>match put? E.n tm o.dst cs v with
         | some tm'=>asks cs ps (K tm' m)
         | none=>.no
       | none=>match cs with
         | []=>.no
         | _ :: _=>match put? E.n tm o.dst [] .undef with
           | some tm'=>asks cs [False] (K tm' m)
           | none=>.no
def sopsQ {P:Program} (E:Env P C) (ops:Array Oper):List Oper→Tm→List (Ck C)→(Tm→List (Ck C)→Tr)→Tr
 | [],tm,m,K=>K tm m
 | o :: r,tm,m,K=>stepQ E ops o tm m fun tm' m'=>fTm1 tm' fun tm'=>sopsQ E ops r tm' m' K
theorem sopsQ_ok {P:Program} {S:Sx} {w0:World} {E:Env P C} {ops:Array Oper} {Q:Act→Prop}:∀ {l:List Oper} {tm:Tm} {m:List (Ck C)} {K:Tm→List (Ck C)→Tr} {a:Act},GlOK m→
 sopsQ E ops l tm m K→ActOK (ads m) E.n tm a→(∀ tm' m' a',K tm' m'→ActOK (ads m') E.n tm' a'→(∀ w,MemOK S w0 w m↔MemOK S w0 w m')→(m.length≤m'.length∧∀ k,k<m.length→ads m k=ads m' k)→Q a')→wpQuiet P ops (fun w=>MemOK S w0 w m) Q l a
 | [],tm,m,K,a,hg,hs,h,hq=>hq _ _ _ hs h (fun _=>Iff.rfl) ⟨zw _,fun _ _=>rfl⟩
 | o :: r,tm,m,K,a,hg,hs,h,hq=>by
   unfold wpQuiet
   simp only [sopsQ] at hs
   unfold stepQ at hs
   split at hs <;> try (first | contradiction | exact False.elim hs)
   · rename_i hgd
     have hw:=gd_skip h hgd
     split at hs <;> try (first | contradiction | exact False.elim hs)
     rename_i tm' hp
     rw [if_neg (by simp [hw])]
     dsimp only at hs
     rw [fTm1_eq] at hs
     exact sopsQ_ok hg hs (put_ok h hp (by simp) _ rfl) hq
   · rename_i cs hgd
     obtain ⟨hw,hcs⟩:=gd_run h hgd
     have fin:∀ (ps:List Prop) (v:SV) (tm':Tm),put? E.n tm o.dst cs v=some tm'→asks cs ps (fTm1 tm' fun tm'=>sopsQ E ops r tm' m K)→
      (holds cs=true→allOf ps→∀ w,MemOK S w0 w m→o.quietAt P a (fun w=>MemOK S w0 w m) w (v.va (ads m)))→
      (if Region.wanted o (yielded ops a.tmps) then o.quiet P a (fun w=>MemOK S w0 w m) (wpQuiet P ops (fun w=>MemOK S w0 w m) Q r) else wpQuiet P ops (fun w=>MemOK S w0 w m) Q r (a.put o.dst Go.undef)):=by
      intro ps v tm' hp hs hr
      obtain ⟨hK,hps⟩:=asks_ok hs
      rw [fTm1_eq] at hK
      cases e:holds cs with
      | true=>
        rw [if_pos (by rw [hw,e])]
        refine ⟨v.va (ads m),hr e (hps e),sopsQ_ok hg hK (put_ok h hp hcs _ ?_) hq⟩
        cases cs with
        | nil=>rfl
        | cons c r=>simp [mkc,SV.va,e]
      | false=>
        rw [if_neg (by rw [hw,e];simp)]
        refine sopsQ_ok hg hK (put_ok h hp hcs _ ?_) hq
        cases cs with
        | nil=>cases e
        | cons c r=>simp [mkc,SV.va,e]
     split at hs
     · rename_i ps v hpu
       split at hs <;> try (first | contradiction | exact False.elim hs)
       rename_i tm' hp
       refine fin ps v tm' hp hs fun e hps w hm => ?_
       have hr:=pureP_ok h hg (alOf_ok hcs e) hpu hps w
       unfold Oper.quietAt;rw [hr];exact ⟨rfl,rfl⟩
     split at hs
     · obtain ⟨v,tm',m',hr,hK,h',hiff,hg',hle,hads⟩:=famQ_ok (S:=S) (w0:=w0) hg 8 tm hs h
       rw [fTm1_eq] at hK
       have hnext:=sopsQ_ok (S:=S) (w0:=w0) (Q:=Q) hg' hK h' (fun tm2 m2 a2 k1 k2 k3 k4=>hq tm2 m2 a2 k1 k2 (fun w=>(hiff w).trans (k3 w)) ⟨xl hle k4.1,fun k hk=>(hads k hk).1.trans (k4.2 k (by omega))⟩)
       rw [← memEq hiff] at hnext
       rcases hr with ⟨hw',hr⟩ | ⟨hw',rfl⟩
       · rw [if_pos hw']
         refine ⟨v,fun w hm => ?_,hnext⟩
         unfold Oper.quietAt;rw [hr w hm];exact ⟨rfl,rfl⟩
       · rw [if_neg (by simp [hw'])]
         exact hnext
     · split at hs
       rotate_left
       · cases cs with
         | nil=>exact False.elim hs
         | cons c1 c2=>
           dsimp only at hs
           split at hs <;> try (first | contradiction | exact False.elim hs)
           rename_i tm' hp
           obtain ⟨hK,hno⟩:=asks_ok hs
           rw [fTm1_eq] at hK
           cases e:holds (c1 :: c2) with
           | true=>exact (hno e).1.elim
           | false=>
             rw [if_neg (by rw [hw,e];simp)]
             exact sopsQ_ok hg hK (put_ok h hp (by simp) _ rfl) hq
       rename_i ps v hpu
       split at hs <;> try (first | contradiction | exact False.elim hs)
       rename_i tm' hp
       refine fin ps v tm' hp hs fun e hps w hm => ?_
       rcases pureQ_ok (S:=S) (w0:=w0) h (alOf_ok hcs e) hpu hps w hm with hr | ⟨f,vals,hr,hc⟩
       · unfold Oper.quietAt;rw [hr];exact ⟨rfl,rfl⟩
       · unfold Oper.quietAt;rw [hr];exact ⟨rfl,hc⟩
inductive Ex where
 | nor
 | exit (id:Nat)
 | ret
def Ex.of:Ex→Exit
 | .nor=>.normal
 | .exit i=>.exit i
 | .ret=>.ret
def firstId:Code→Nat
 | .region id _ _=>id
 | .seq a b=>match firstId a with
   | 0=>firstId b
   | n=>n
 | .block _ c=>firstId c
 | .loop c=>firstId c
 | .scope c=>firstId c
 | _=>0
def writes:Code→List Nat
 | .region _ ops _=>ops.toList.filterMap (·.dst)
 | .seq a b=>writes a ++ writes b
 | .cond _ a b=>writes a ++ writes b
 | .block _ c=>writes c
 | .loop c=>writes c
 | .scope c=>writes c
 | _=>[]
def inList (k:Nat):List Nat→Bool
 | []=>false
 | x :: r=>zi x k || inList k r
def keepTm (ws:List Nat):Tm→Tm
 | []=>[]
 | (k,v) :: r=>match inList k ws with
   | true=>keepTm ws r
   | false=>match v with
     | .cnd _ _=>keepTm (k :: ws) r
     | v=>(k,v) :: keepTm (k :: ws) r
structure Inv' (C:Nat→Codec) where
 id:Nat
 X:Type
 tm:X→Tm
 mem:X→List (Ck C)→List (Ck C)
 inv:X→Prop
 meas:X→Nat
def findInvs (id:Nat):List (Inv' C)→List (Inv' C)
 | []=>[]
 | x :: r=>if zi x.id id then x :: findInvs id r else findInvs id r
def allI:List (Inv' C)→(Inv' C→Tr)→Tr
 | [],_=>.yes
 | I :: r,f=>.and (f I) (allI r f)
theorem allI_ok:∀ {l:List (Inv' C)} {f:Inv' C→Tr},(allI l f).holds→∀ I∈l,(f I).holds
 | [],_,_,I,hI=>by cases hI
 | J :: r,f,h,I,hI=>by
   rcases List.mem_cons.1 hI with rfl | hI
   · exact h.1
   · exact allI_ok h.2 I hI
def Stands (l:List (Inv' C)) (f:(I:Inv' C)→I.X→Prop):Prop:=∃ I∈l,∃ x,f I x
theorem Stands.one {I:Inv' C} {r:List (Inv' C)} {f:(I:Inv' C)→I.X→Prop} (x:I.X) (h:f I x):Stands (I :: r) f:=⟨I,xp ..,x,h⟩
theorem Stands.next {I:Inv' C} {r:List (Inv' C)} {f:(I:Inv' C)→I.X→Prop} (h:Stands r f):Stands (I :: r) f:=by
 obtain ⟨J,hJ,x,h⟩:=h
 exact ⟨J,yw _ hJ,x,h⟩
mutual
def unif:SV→SV→List (Nat×Nat)
 | .ptr c _ _,.ptr c' _ _=>[(c,c')]
 | .sl c _ _ _,.sl c' _ _ _=>[(c,c')]
 | .sl c _ _ _,.nils=>[(c,200)]
 | .mp c,.mp c'=>[(c,c')]
 | .agg a,.agg b=>unifs a b
 | .tup a,.tup b=>unifs a b
 | .ifc _ v,.ifc _ v'=>unif v v'
 | .fn _ a b,.fn _ a' b'=>unifs a a' ++ unifs b b'
 | _,_=>[]
def unifs:List SV→List SV→List (Nat×Nat)
 | a :: r,b :: s=>unif a b ++ unifs r s
 | _,_=>[]
end
def look:List (Nat×Nat)→Nat→Nat
 | [],k=>k
 | (a,b) :: r,k=>if zi a k then b else look r k
def unifTm (tm:Tm):Tm→List (Nat×Nat)
 | []=>[]
 | (k,v) :: r=>unif v (get tm k) ++ unifTm tm r
def unifMem (m:List (Ck C)):Nat→List (Ck C)→List (Nat×Nat)→List (Nat×Nat)
 | _,[],acc=>acc
 | k,a :: r,acc=>unifMem m (k+1) r (match a.cells,(nth m (look acc k)).cells with
   | .one vs,.one vs'=>acc ++ unifs vs vs'
   | .it c _ _,.it c' _ _=>acc ++ [(c,c')]
   | _,_=>acc)
def namesOf (acc:List (Nat×Nat)):Nat→List (Ck C)→List Nat
 | _,[]=>[]
 | k,_ :: r=>look acc k :: namesOf acc (k+1) r
def tmSub (N:Nat) (ρ:List Nat) (tm:Tm):Tm→Option (List Prop)
 | []=>some []
 | (k,v) :: r=>match isJunk v with
   | true=>tmSub N ρ tm r
   | false=>match eqv N (get tm k) (v.ren ρ),tmSub N ρ tm r with
     | some p,some q=>some (p ++ q)
     | _,_=>none
def once:List Nat→Tm→Bool
 | _,[]=>true
 | ks,(k,_) :: r=>!(inList k ks) && once (k :: ks) r
def fP:List (Nat×Nat)→(List (Nat×Nat)→Tr)→Tr
 | [],K=>K []
 | (a,b) :: r,K=>fP r fun r=>K ((a,b) :: r)
theorem fP_eq:∀ (l:List (Nat×Nat)) (K:List (Nat×Nat)→Tr),fP l K=K l
 | [],_=>rfl
 | (a,b) :: r,K=>by simp only [fP,fP_eq r]
def fNat (n:Nat):(Nat→Tr)→Tr:=
 Nat.rec (motive:=fun _=>(Nat→Tr)→Tr) (fun K=>K 0) (fun _ ih K=>ih fun n=>K (n+1)) n
theorem fNat_eq:∀ (n:Nat) (K:Nat→Tr),fNat n K=K n
 | 0,_=>rfl
 | n+1,K=>by
   show fNat n (fun n=>K (n+1))=K (n+1)
   rw [fNat_eq n]
def fNames:List Nat→(List Nat→Tr)→Tr
 | [],K=>K []
 | x :: r,K=>fNat x fun x=>fNames r fun r=>K (x :: r)
theorem fNames_eq:∀ (l:List Nat) (K:List Nat→Tr),fNames l K=K l
 | [],_=>rfl
 | x :: r,K=>by simp only [fNames,fNat_eq,fNames_eq r]
def unifMemK (m:List (Ck C)):Nat→List (Ck C)→List (Nat×Nat)→(List (Nat×Nat)→Tr)→Tr
 | _,[],acc,K=>K acc
 | k,a :: r,acc,K=>fP (match a.cells,(nth m (look acc k)).cells with
   | .one vs,.one vs'=>acc ++ unifs vs vs'
   | .it c _ _,.it c' _ _=>acc ++ [(c,c')]
   | _,_=>acc) fun acc'=>unifMemK m (k+1) r acc' K
theorem unifMemK_eq (m:List (Ck C)):∀ (r:List (Ck C)) (k:Nat) (acc:List (Nat×Nat)) (K:List (Nat×Nat)→Tr),unifMemK m k r acc K=K (unifMem m k r acc)
 | [],_,_,_=>rfl
 | a :: r,k,acc,K=>by simp only [unifMemK,unifMem,fP_eq,unifMemK_eq m r]
def subR (tm:Tm) (m:List (Ck C)) (tm':Tm) (m':List (Ck C)) (ρ:List Nat):Tr:=
 match memLt m.length m && tmLt m.length tm && memLt m'.length m' && tmLt m'.length tm' && once [] tm' with
 | false=>.no
 | true=>withOffs m ρ m' fun ρ M=>match apartB ρ m' with
   | false=>.no
   | true=>match cksEq m.length ρ M ρ m',tmSub m.length ρ tm tm' with
     | some ps,some qs=>allLf (ps ++ qs)
     | _,_=>.no
def subP (tm:Tm) (m:List (Ck C)) (tm':Tm) (m':List (Ck C)) (acc:List (Nat×Nat)):Tr:=
 fP acc fun acc=>unifMemK m 0 m' acc fun A=>fNames (namesOf A 0 m') fun ρ=>subR tm m tm' m' ρ
theorem subP_eq (tm:Tm) (m:List (Ck C)) (tm':Tm) (m':List (Ck C)) (acc:List (Nat×Nat)):subP tm m tm' m' acc=subR tm m tm' m' (namesOf (unifMem m 0 m' acc) 0 m'):=by
 simp only [subP,fP_eq,unifMemK_eq,fNames_eq]
theorem MemOK.sub {S:Sx} {w0 w:World} {M:List (Ck C)} (h:MemOK S w0 w M) {N:Nat} (hN:∀ c,N≤c→(ads M c).on=false) {ρ:List Nat} {m:List (Ck C)} (hlt:memLt m.length m=true)
 (hk:∀ k,k<m.length→rn ρ k<M.length∧CkEq N ρ (nth m k) (nth M (rn ρ k))) (hap:∀ i j,i<m.length→j<m.length→i≠j→(nth m i).wr=true→rn ρ i≠rn ρ j):
 MemOK S w0 w m∧∀ c,c<m.length→ads m c=ads M (rn ρ c):=by
 obtain ⟨⟨p1,p2,p3,p4⟩,hads⟩:=h.enterP hN hlt hk hap
 have hmore:More S w0 w m:=by
  refine h.more.mono h.inS (fun _ _ _=>rfl) (fun x hx hxl => ?_) h.size (zw _) (fun x hx t y hy => ?_)
  · obtain ⟨j,hjl,rfl⟩:=mem_nth hx
    obtain ⟨h1,h2⟩:=hk j hjl
    exact .inl ⟨_,nth_mem h1,h2.live hxl,h2.block.symm,h2.wr⟩
  · obtain ⟨j,hjl,rfl⟩:=mem_nth hx
    obtain ⟨h1,h2⟩:=hk j hjl
    exact .inl ⟨_,nth_mem h1,h2.has hy,fun _=>h2.wr⟩
 refine ⟨⟨h.os,h.tape,h.output,h.size,h.keep,?_,p1,p2,p3,p4,hmore⟩,hads⟩
 intro c hc hw ho hb
 obtain ⟨k,hkl,rfl⟩:=mem_nth hc
 obtain ⟨h1,h2⟩:=hk k hkl
 rw [h2.block] at hb ⊢
 exact h.inS _ (nth_mem h1) (h2.wr hw) (by rw [← h2.on];exact ho) hb
theorem get_mem:∀ (tm:Tm) (k:Nat),get tm k=.junk∨(k,get tm k)∈tm
 | [],k=>.inl rfl
 | (j,u) :: r,k=>by
   rw [get_put]
   split
   · rename_i e;subst e;exact .inr (by simp)
   · rcases get_mem r k with h | h
     · exact .inl h
     · exact .inr (by simp [h])
theorem tmSub_ok {N:Nat} {ρ:List Nat} {tm:Tm}:∀ {tm':Tm} {ps:List Prop},tmSub N ρ tm tm'=some ps→allOf ps→∀ k v,(k,v)∈tm'→v≠.junk→∃ qs,eqv N (get tm k) (v.ren ρ)=some qs∧allOf qs
 | [],_,_,_,k,v,hk,_=>by cases hk
 | (j,u) :: r,ps,h,hp,k,v,hk,hv=>by
   simp only [tmSub] at h
   split at h
   · rename_i hj
     rcases List.mem_cons.1 hk with e | hk
     · simp only [Prod.mk.injEq] at e
       obtain ⟨rfl,rfl⟩:=e
       cases v <;> simp [isJunk] at hj;exact absurd rfl hv
     · exact tmSub_ok h hp k v hk hv
   · split at h <;> try (first | contradiction | exact False.elim h)
     rename_i p q hp' hq'
     simp only [Option.some.injEq] at h;subst h
     have hpq:=(allOf_append p q).1 hp
     rcases List.mem_cons.1 hk with e | hk
     · simp only [Prod.mk.injEq] at e
       obtain ⟨rfl,rfl⟩:=e
       exact ⟨p,hp',hpq.1⟩
     · exact tmSub_ok hq' hpq.2 k v hk hv
theorem subR_ok {S:Sx} {w0 w:World} {n:Nat} {tm tm':Tm} {m m':List (Ck C)} {ρ0:List Nat} (h:subR tm m tm' m' ρ0) {a:Act} (ha:ActOK (ads m) n tm a) (hm:MemOK S w0 w m):
 (ActOK (ads m') n tm' a∧MemOK S w0 w m')∧(allLt m.length ρ0=true→∀ c,c<m'.length→ads m' c=ads m (rn ρ0 c)):=by
 unfold subR at h
 split at h <;> try (first | contradiction | exact False.elim h)
 rename_i hc
 simp only [zq] at hc
 obtain ⟨⟨⟨⟨c0,c0'⟩,c1⟩,c2⟩,c4⟩:=hc
 obtain ⟨ρ,o,h,ho,hlM,hsame⟩:=withOffs_ok h c0
 obtain ⟨M,hMe⟩:∃ M,M=m ++ o:=⟨_,rfl⟩
 have hmM:=hm.withO c0 ho
 obtain ⟨hadsP,hN⟩:=ads_offs (m:=m) (o:=o) (fun x hx=>(ho x hx).1)
 rw [← hMe] at h hlM hmM hadsP hN
 have haM:ActOK (ads M) n tm a:=ha.ads hadsP c0'
 split at h <;> try (first | contradiction | exact False.elim h)
 rename_i c3
 split at h <;> try (first | contradiction | exact False.elim h)
 rename_i ps qs hps hqs
 obtain ⟨hps',hqs'⟩:=(allOf_append _ _).1 (allLf_ok h)
 obtain ⟨hlen,hk⟩:=cksEq_ok hps hps'
 have hk':∀ k,k<m'.length→rn ρ k<M.length∧CkEq m.length ρ (nth m' k) (nth M (rn ρ k)):=fun k hkl=>by
  obtain ⟨h1,qs,h2,h3⟩:=hk k hkl
  exact ⟨h1,ckEq_ok h2 h3⟩
 obtain ⟨hm',hads⟩:=hmM.sub hN c1 hk' (apartB_ok c3 hlen)
 refine ⟨⟨⟨ha.defers,ha.size,fun t => ?_,?_⟩,hm'⟩,fun hall c hc => ?_⟩
 · by_cases hj:get tm' t=.junk
   · exact .inl hj
   · right
     rcases get_mem tm' t with h1 | h1
     · exact absurd h1 hj
     · obtain ⟨rs,hr1,hr2⟩:=tmSub_ok hqs hqs' t _ h1 hj
       have e:=eqv_ok hN _ _ rs hr1 hr2
       rcases haM.tmps t with h2 | h2
       · rw [h2] at hr1
         simp [eqv] at hr1
       · rw [h2,e,SV.va_ren hads _ (tmLt_get c2 t)]
 · intro t cs v hg c hc b hb
   exfalso
   have hj:get tm' t≠.junk:=by rw [hg];simp
   rcases get_mem tm' t with h1 | h1
   · exact hj h1
   · obtain ⟨rs,hr1,_⟩:=tmSub_ok hqs hqs' t _ h1 hj
     rw [hg] at hr1
     simp only [SV.ren] at hr1
     unfold eqv at hr1
     split at hr1 <;> simp_all
 · obtain ⟨e1,e2⟩:=hsame hall
   subst e1 e2
   rw [hads c hc,hMe,List.append_nil]
theorem subP_ok {S:Sx} {w0 w:World} {n:Nat} {tm tm':Tm} {m m':List (Ck C)} {acc:List (Nat×Nat)} (h:subP tm m tm' m' acc) {a:Act} (ha:ActOK (ads m) n tm a) (hm:MemOK S w0 w m):
 ActOK (ads m') n tm' a∧MemOK S w0 w m':=by
 rw [subP_eq] at h
 obtain ⟨ρ,hρ⟩:∃ ρ,ρ=namesOf (unifMem m 0 m' acc) 0 m':=⟨_,rfl⟩
 rw [← hρ] at h
 exact (subR_ok h ha hm).1
theorem wp_loop' {P:Program} {Q:Exit→Act→World→Prop} {a:Act} {w:World} {c:Code} (I:Nat→Act→World→Prop) (n:Nat) (h₀:I n a w)
 (round:∀ n a w,I n a w→c.wp P (Exit.then (fun a' w'=>∃ n',n'<n∧I n' a' w') Q) a w):(Code.loop c).wp P Q a w:=by
 intro b k cs
 have key:∀ n a w,I n a w→∃ e a' w',Q e a' w'∧Arrives P (lone (b.at a (.code c :: .inLoop c :: k)) cs w) b k cs e a' w':=by
  intro n
  induction n using Nat.strongRecOn with
  | _ n ih=>
    intro a w hI
    obtain ⟨e,a₁,w₁,hq,harr⟩:=round n a w hI b (.inLoop c :: k) cs
    cases e with
    | normal=>
      obtain ⟨n',hlt,hI₁⟩:=hq
      obtain ⟨e₂,a₂,w₂,hq₂,harr₂⟩:=ih n' hlt a₁ w₁ hI₁
      exact ⟨e₂,a₂,w₂,hq₂,.of_steps (Steps.trans harr (.one step_inLoop)) harr₂⟩
    | exit id=>exact ⟨_,a₁,w₁,hq,.pass (x:=.inLoop c) rfl (fun _ _=>.inl (by simp)) harr⟩
    | goto l=>exact ⟨_,a₁,w₁,hq,.pass (x:=.inLoop c) rfl (fun _ _=>.inl (by simp)) harr⟩
    | ret=>exact ⟨_,a₁,w₁,hq,.pass (x:=.inLoop c) rfl (fun _ _=>.inl (by simp)) harr⟩
    | panic ch=>exact ⟨_,a₁,w₁,hq,.pass (x:=.inLoop c) rfl (fun _ _=>.inl (by simp)) harr⟩
    | outgrown=>exact ⟨_,a₁,w₁,hq,.pass (x:=.inLoop c) rfl (fun _ _=>.inl (by simp)) harr⟩
 obtain ⟨e,a',w',hq,harr⟩:=key n a w h₀
 exact ⟨e,a',w',hq,.of_steps (.one step_loop) harr⟩
def keysOf:Tm→List Nat
 | []=>[]
 | (k,_) :: r=>k :: keysOf r
def sreg {P:Program} (E:Env P C) (id:Nat) (ops:Array Oper) (draw:Bool) (tm:Tm) (m:List (Ck C)) (K:Tm→List (Ck C)→Tr):Tr:=
 match draw with
 | false=>sops E ops ops.toList tm m K
 | true=>match findPlan id E.plans with
   | none=>.and (.lf (Region.lexB .any ops=true)) (sopsQ E ops ops.toList tm m K)
   | some (F,pl)=>.and (.lf (planned ops pl=true)) (.and (inMem (frozen tm F) m) (splan E ops (frozen tm F) m pl tm m K))
def unlike:SV→SV→Bool
 | .nils,.sl _ _ _ _=>true
 | .sl _ _ _ _,.nils=>true
 | .nilp,.ptr _ _ _=>true
 | .ptr _ _ _,.nilp=>true
 | .nili,.ifc _ _=>true
 | .ifc _ _,.nili=>true
 | _,_=>false
def linkP (ws:List Nat) (tm:Tm):Tm→List Prop
 | []=>[]
 | (k,v) :: r=>match inList k ws with
   | true=>linkP ws tm r
   | false=>match unlike (get tm k) v with
     | true=>False :: linkP ws tm r
     | false=>match get tm k with
       | .int _ a=>match v with
         | .int _ b=>(a=b) :: linkP ws tm r
         | _=>linkP ws tm r
       | _=>linkP ws tm r
def linkNo (ws:List Nat) (tm:Tm):Tm→Bool
 | []=>false
 | (k,v) :: r=>match inList k ws with
   | true=>linkNo ws tm r
   | false=>match unlike (get tm k) v with
     | true=>true
     | false=>linkNo ws tm r
theorem linkNo_ok {ws:List Nat} {tm:Tm}:∀ {l:Tm},linkNo ws tm l=true→¬ allOf (linkP ws tm l)
 | [],h,_=>by cases h
 | (k,v) :: r,h,ha=>by
   simp only [linkNo] at h
   simp only [linkP] at ha
   cases hk:inList k ws with
   | true=>rw [hk] at h ha;exact linkNo_ok h ha
   | false=>
     rw [hk] at h ha
     simp only at h ha
     cases hu:unlike (get tm k) v with
     | true=>rw [hu] at ha;exact ha.1
     | false=>
       rw [hu] at h ha
       simp only at h ha
       split at ha
       · split at ha
         · exact linkNo_ok h ha.2
         · exact linkNo_ok h ha
       · exact linkNo_ok h ha
def ifNo (b:Bool) (X:Tr):Tr:=match b with
 | true=>.yes
 | false=>X
theorem ifNo_h {b:Bool} {X:Tr} (h:(ifNo b X).holds):b=true∨X.holds:=by
 cases b with
 | true=>exact .inl rfl
 | false=>exact .inr h
def notApp:List (Ck C)→List (Ck C)→Bool
 | _ :: _,_=>false
 | [],[]=>false
 | [],_ :: _=>true
def noP (a m:List (Ck C)):List Prop:=match notApp a m with
 | true=>[False]
 | false=>[]
theorem noP_ok {a m:List (Ck C)} {l:List Prop} (h:allOf (noP a m ++ l)):notApp a m=false∧allOf l:=by
 unfold noP at h
 split at h
 · exact h.1.elim
 · rename_i e;exact ⟨e,h⟩
def linked:List Prop→Tr→Tr
 | [],X=>X
 | p :: r,X=>.and (.lf p) (linked r X)
def linkT:List Prop→Tr→Tr
 | [],X=>X
 | p :: r,X=>.imp p (linkT r X)
theorem linked_ok:∀ {l:List Prop} {X:Tr},(linked l X).holds→allOf l∧X.holds
 | [],_,h=>⟨trivial,h⟩
 | _ :: _,_,h=>⟨⟨h.1,(linked_ok h.2).1⟩,(linked_ok h.2).2⟩
theorem linkT_ok:∀ {l:List Prop} {X:Tr},(linkT l X).holds→allOf l→X.holds
 | [],_,h,_=>h
 | _ :: _,_,h,hl=>linkT_ok (h hl.1) hl.2
def hasJ:List (Inv' C)→Bool
 | []=>false
 | x :: r=>match ye 999999 x.id with
   | true=>true
   | false=>hasJ r
def findJ (b:Code) (L:List (Inv' C)):List (Inv' C):=match hasJ L with
 | false=>[]
 | true=>findInvs (1000000+firstId b) L
def sexec {P:Program} (E:Env P C) (L:List (Inv' C)):Code→Tm→List (Ck C)→(Ex→Tm→List (Ck C)→Tr)→Tr
 | .skip,tm,m,K=>K .nor tm m
 | .region id ops draw,tm,m,K=>sreg E id ops draw tm m fun tm' m'=>K .nor tm' m'
 | .seq a b,tm,m,K=>match findJ b L with
   | []=>sexec E L a tm m fun e tm' m'=>match e with
     | .nor=>sexec E L b tm' m' K
     | e=>K e tm' m'
   | I0 :: Ir=>fL (I0 :: Ir) fun Is=>fLN (writes a) fun ws=>
     .and (sexec E L a tm m fun e tm' m'=>match e with
      | .nor=>Tr.lf (Stands Is fun I' x'=>I'.inv x'∧(linked (noP (I'.mem x' m) m ++ linkP ws tm (I'.tm x')) (subP tm' m' (I'.tm x' ++ keepTm (keysOf (I'.tm x') ++ ws) tm) (I'.mem x' m) (unifTm tm' (I'.tm x')))).holds)
      | e=>K e tm' m')
      (allI Is fun I=>.all fun x=>ifNo (linkNo ws tm (I.tm x)) (ifNo (notApp (I.mem x m) m) (.imp (I.inv x) (linkT (linkP ws tm (I.tm x)) (fTm (I.tm x ++ keepTm (keysOf (I.tm x) ++ ws) tm) fun tmL=>fM (I.mem x m) fun mL=>sexec E L b tmL mL K)))))
 | .cond c x y,tm,m,K=>match ev tm m [] c with
   | some (.bool .t)=>sexec E L x tm m K
   | some (.bool .f)=>sexec E L y tm m K
   | some (.bool (.tm b))=>.and (.imp (b=true) (sexec E L x tm m K)) (.imp (b=false) (sexec E L y tm m K))
   | _=>.no
 | .block id c,tm,m,K=>sexec E L c tm m fun e tm' m'=>match e with
   | .exit i=>match zi i id with
     | true=>K .nor tm' m'
     | false=>K (.exit i) tm' m'
   | e=>K e tm' m'
 | .loop c,tm,m,K=>fL (findInvs (firstId c) L) fun Is=>fLN (writes c) fun ws=>
    .and (.lf (Stands Is fun I x0=>I.inv x0∧(linked (noP (I.mem x0 m) m ++ linkP ws tm (I.tm x0)) (subP tm m (I.tm x0 ++ keepTm (keysOf (I.tm x0) ++ ws) tm) (I.mem x0 m) (unifTm tm (I.tm x0)))).holds))
     (allI Is fun I=>.all fun x=>ifNo (linkNo ws tm (I.tm x)) (ifNo (notApp (I.mem x m) m) (.imp (I.inv x) (linkT (linkP ws tm (I.tm x)) (fTm (I.tm x ++ keepTm (keysOf (I.tm x) ++ ws) tm) fun tmL=>fM (I.mem x m) fun mL=>sexec E L c tmL mL fun e tm' m'=>match e with
       | .nor=>Tr.lf (Stands Is fun I' x'=>I'.inv x'∧I'.meas x'<I.meas x∧(linked (noP (I'.mem x' m) m ++ linkP ws tm (I'.tm x')) (subP tm' m' (I'.tm x' ++ keepTm (keysOf (I'.tm x') ++ ws) tm) (I'.mem x' m) (unifTm tm' (I'.tm x')))).holds)
       | e=>K e tm' m')))))
 | .exit id,tm,m,K=>K (.exit id) tm m
 | .ret,tm,m,K=>K .ret tm m
 | _,_,_,_=>.no
theorem sexec_ok {P:Program} (hmix:P.follows .mixedOrders=true) {S:Sx} {w0:World} {E:Env P C} {L:List (Inv' C)}:∀ {c:Code} {tm:Tm} {m:List (Ck C)} {K:Ex→Tm→List (Ck C)→Tr} {a:Act} {w:World} {Q:Exit→Act→World→Prop},
 sexec E L c tm m K→ActOK (ads m) E.n tm a→MemOK S w0 w m→(∀ e tm' m' a' w',K e tm' m'→ActOK (ads m') E.n tm' a'→MemOK S w0 w' m'→Q e.of a' w')→c.wp P Q a w:=by
 intro c
 induction c with
 | skip=>intro tm m K a w Q hs h hm hq;exact wp_skip (hq _ _ _ _ _ hs h hm)
 | region id ops draw=>
   intro tm m K a w Q hs h hm hq
   simp only [sexec,sreg] at hs
   cases draw with
   | false=>exact wp_region_list (sops_ok hs h hm (fun tm' m' a' w' hk h' hm'=>hq _ _ _ _ _ hk h' hm'))
   | true=>
     simp only at hs
     split at hs
     rotate_left
     · exact draw_ok hmix hs.1 hs.2.1 hs.2.2 h hm (fun tm' m' a' w' hk h' hm'=>hq _ _ _ _ _ hk h' hm')
     obtain ⟨hB,hs⟩:=hs
     exact wp_region_quiet (C:=fun w=>MemOK S w0 w m) hmix hB hm.drew (sopsQ_ok hm.glob hs h (fun tm' m' a' hk h' hiff _ w' hm'=>hq _ _ _ _ _ hk h' ((hiff w').1 hm')))
 | seq x y ihx ihy=>
   intro tm m K a w Q hs h hm hq
   simp only [sexec] at hs
   split at hs
   · refine wp_seq (ihx hs h hm fun e tm' m' a' w' hk h' hm' => ?_)
     cases e with
     | nor=>exact ihy hk h' hm' hq
     | exit i=>exact hq _ _ _ _ _ hk h' hm'
     | ret=>exact hq _ _ _ _ _ hk h' hm'
   · rename_i I0 Ir _
     simp only [fL_eq,fLN_eq] at hs
     obtain ⟨hs,hround⟩:=hs
     have hround:=allI_ok hround
     refine wp_seq (ihx hs h hm fun e tm' m' a' w' hk h' hm' => ?_)
     cases e with
     | nor=>
       obtain ⟨I,hI,x,hix,hs'⟩:=hk
       obtain ⟨hlx,hs'⟩:=linked_ok hs'
       obtain ⟨hna,hlx⟩:=noP_ok hlx
       obtain ⟨ha',hm''⟩:=subP_ok hs' h' hm'
       have hro:=(ifNo_h (hround I hI x)).resolve_left (fun hno=>linkNo_ok hno hlx)
       have hro:=(ifNo_h hro).resolve_left (fun hno=>by rw [hna] at hno;cases hno)
       have hro:=linkT_ok (hro hix) hlx
       simp only [fTm_eq,fM_eq] at hro
       exact ihy hro ha' hm'' hq
     | exit i=>exact hq _ _ _ _ _ hk h' hm'
     | ret=>exact hq _ _ _ _ _ hk h' hm'
 | cond c x y ihx ihy=>
   intro tm m K a w Q hs h hm hq
   have hnil:AlOK tm []:=by intro p hp;cases hp
   simp only [sexec] at hs
   split at hs <;> try (first | contradiction | exact False.elim hs)
   · rename_i hc
     exact wp_cond (t:=true) (ev_ok h hm.glob hnil _ _ hc) (ihx hs h hm hq)
   · rename_i hc
     exact wp_cond (t:=false) (ev_ok h hm.glob hnil _ _ hc) (ihy hs h hm hq)
   · rename_i b hc
     cases b with
     | true=>exact wp_cond (t:=true) (ev_ok h hm.glob hnil _ _ hc) (ihx (hs.1 rfl) h hm hq)
     | false=>exact wp_cond (t:=false) (ev_ok h hm.glob hnil _ _ hc) (ihy (hs.2 rfl) h hm hq)
 | block id c ih=>
   intro tm m K a w Q hs h hm hq
   refine wp_block (ih hs h hm fun e tm' m' a' w' hk h' hm' => ?_)
   cases e with
   | nor=>exact hq _ _ _ _ _ hk h' hm'
   | exit i=>
     simp only [Ex.of,Exit.inBlock]
     simp only at hk
     split at hk
     · rename_i hb
       rw [if_pos (zp hb)]
       exact hq _ _ _ _ _ hk h' hm'
     · rename_i hb
       rw [if_neg (xc hb)]
       exact hq _ _ _ _ _ hk h' hm'
   | ret=>exact hq _ _ _ _ _ hk h' hm'
 | loop c ih=>
   intro tm m K a w Q hs h hm hq
   simp only [sexec,fL_eq,fLN_eq] at hs
   obtain ⟨⟨I0,hI0,x0,hi0,hs0⟩,hround⟩:=hs
   have hround:=allI_ok hround
   obtain ⟨hl0,hs0⟩:=linked_ok hs0
   obtain ⟨hn0,hl0⟩:=noP_ok hl0
   obtain ⟨ha0,hm0⟩:=subP_ok hs0 h hm
   refine wp_loop' (fun n a w=>∃ I∈findInvs (firstId c) L,∃ x,(I.inv x∧notApp (I.mem x m) m=false∧allOf (linkP (writes c) tm (I.tm x)))∧I.meas x=n∧ActOK (ads (I.mem x m)) E.n (I.tm x ++ keepTm (keysOf (I.tm x) ++ writes c) tm) a∧MemOK S w0 w (I.mem x m)) (I0.meas x0) ⟨I0,hI0,x0,⟨hi0,hn0,hl0⟩,rfl,ha0,hm0⟩ ?_
   rintro n a1 w1 ⟨I,hI,x,⟨hix,hna,hlx⟩,rfl,hax,hmx⟩
   have hro:=(ifNo_h (hround I hI x)).resolve_left (fun hno=>linkNo_ok hno hlx)
   have hro:=(ifNo_h hro).resolve_left (fun hno=>by rw [hna] at hno;cases hno)
   have hro:=linkT_ok (hro hix) hlx
   simp only [fTm_eq,fM_eq] at hro
   refine ih hro hax hmx fun e tm' m' a' w' hk h' hm' => ?_
   cases e with
   | nor=>
     obtain ⟨I',hI',x',hi',hlt,hs'⟩:=hk
     obtain ⟨hl',hs'⟩:=linked_ok hs'
     obtain ⟨hn',hl'⟩:=noP_ok hl'
     obtain ⟨ha',hm''⟩:=subP_ok hs' h' hm'
     exact ⟨I'.meas x',hlt,I',hI',x',⟨hi',hn',hl'⟩,rfl,ha',hm''⟩
   | exit i=>exact hq _ _ _ _ _ hk h' hm'
   | ret=>exact hq _ _ _ _ _ hk h' hm'
 | exit id=>intro tm m K a w Q hs h hm hq;exact wp_exit (hq _ _ _ _ _ hs h hm)
 | ret=>intro tm m K a w Q hs h hm hq;exact wp_ret (hq _ _ _ _ _ hs h hm)
 | rangeFunc _ _ _ _=>intro tm m K a w Q hs;exact False.elim hs
 | scope _ _=>intro tm m K a w Q hs;exact False.elim hs
 | label _=>intro tm m K a w Q hs;exact False.elim hs
 | goto _=>intro tm m K a w Q hs;exact False.elim hs
 | refuse _=>intro tm m K a w Q hs;exact False.elim hs
end Go.Vx
namespace Go.Vx
open Go
variable {C:Nat→Codec}
def initTm:Nat→List SV→Tm
 | _,[]=>[]
 | k,v :: r=>(k,v) :: initTm (k+1) r
def retOne (P:Program) (tm:Tm) (m:List (Ck C)):ResultVar→Ans
 | .tmp t=>match get tm t with
   | .junk=>none
   | .cnd _ _=>none
   | v=>some ([],v)
 | .cell a t=>match get tm a with
   | .ptr c i f=>loadSV P m t c i f
   | _=>none
def retAll (P:Program) (tm:Tm) (m:List (Ck C)):List ResultVar→Option (List Prop×List SV)
 | []=>some ([],[])
 | x :: r=>match retOne P tm m x,retAll P tm m r with
   | some (p,v),some (q,vs)=>some (p ++ q,v :: vs)
   | _,_=>none
def retSV (P:Program) (fn:Func) (tm:Tm) (m:List (Ck C)):Ans:=
 match fn.results.toList with
 | [x]=>retOne P tm m x
 | l=>(retAll P tm m l).map fun (p,vs)=>(p,.tup vs)
def readRes (tmps:Array Value):ResultVar→Sem Value
 | .tmp t=>pure (tmps.getD t Go.undef)
 | .cell b t=>do loadVar t (← asAddr (tmps.getD b Go.undef))
theorem retOne_ok {P:Program} {S:Sx} {w0 w:World} {n:Nat} {tm:Tm} {m:List (Ck C)} {a:Act} (h:ActOK (ads m) n tm a) (hm:MemOK S w0 w m) {x:ResultVar} {ps:List Prop} {r:SV}
 (hr:retOne P tm m x=some (ps,r)) (hp:allOf ps):
 (readRes a.tmps x).run P w=.ok (r.va (ads m)) w:=by
 cases x with
 | tmp t=>
   simp only [retOne] at hr
   have key:∀ v,get tm t=v→v≠.junk→(a.tmps.getD t Go.undef)=v.va (ads m):=by
    intro v hv hj
    rcases h.tmps t with h1 | h1
    · exact absurd (hv.symm.trans h1) hj
    · simp [h1,hv]
   split at hr <;> try (first | contradiction | exact False.elim hr)
   rename_i h1 h2
   simp only [Option.some.injEq,Prod.mk.injEq] at hr
   obtain ⟨rfl,rfl⟩:=hr
   simp only [readRes,Sem.run_pure]
   rw [key _ rfl h1]
 | cell b t=>
   simp only [retOne] at hr
   split at hr <;> try (first | contradiction | exact False.elim hr)
   rename_i c i f hg
   have hl:=loadSV_ok hm hr hp
   rcases h.tmps b with h1 | h1
   · rw [hg] at h1;cases h1
   · rw [hg] at h1
     simp [readRes,h1,SV.va,asAddr,hl]
theorem retSV_ok {P:Program} {S:Sx} {w0 w:World} {n:Nat} {tm:Tm} {m:List (Ck C)} {a:Act} (h:ActOK (ads m) n tm a) (hm:MemOK S w0 w m) {fn:Func} {ps:List Prop} {r:SV}
 (hr:retSV P fn tm m=some (ps,r)) (hp:allOf ps):(results fn a.tmps).run P w=.ok (r.va (ads m)) w:=by
 have hall:∀ (l:List ResultVar) (ps:List Prop) (vs:List SV),retAll P tm m l=some (ps,vs)→allOf ps→
  (l.mapM (readRes a.tmps)).run P w=.ok (SV.vas (ads m) vs) w:=by
  intro l
  induction l with
  | nil=>intro ps vs hr _;simp [retAll] at hr;obtain ⟨rfl,rfl⟩:=hr;rfl
  | cons x l ih=>
    intro ps vs hr hp
    simp only [retAll] at hr
    split at hr <;> try (first | contradiction | exact False.elim hr)
    rename_i p v q vs' h1 h2
    simp only [Option.some.injEq,Prod.mk.injEq] at hr
    obtain ⟨rfl,rfl⟩:=hr
    have hpq:=(allOf_append p q).1 hp
    have e1:=retOne_ok h hm h1 hpq.1
    have e2:=ih _ _ h2 hpq.2
    simp only [ov,Sem.run_bind,e1,Result.andThen_ok,e2,Sem.run_pure,SV.vas]
 have hres:results fn a.tmps=(do
  let vs ← fn.results.mapM (readRes a.tmps)
  pure (if h:vs.size=1 then vs[0] else .tuple vs)):=by
  unfold results
  congr 1
 have hmap:∀ vs,(fn.results.toList.mapM (readRes a.tmps)).run P w=.ok vs w→
  (fn.results.mapM (readRes a.tmps)).run P w=.ok vs.toArray w:=by
  intro vs hvs
  rw [← Array.toArray_toList (xs:=fn.results),List.mapM_toArray]
  simp only [Sem.run_map,hvs,Result.andThen_ok]
 rw [hres]
 unfold retSV at hr
 split at hr
 · rename_i x hx
   have e1:=retOne_ok h hm hr hp
   have:=hmap [r.va (ads m)] (by rw [hx];simp only [ov,List.mapM_nil,Sem.run_bind,e1,Result.andThen_ok,Sem.run_pure])
   simp only [Sem.run_bind,this,Result.andThen_ok,Sem.run_pure]
   simp
 · rename_i hne
   cases hra:retAll P tm m fn.results.toList with
   | none=>simp [hra] at hr
   | some q=>
     obtain ⟨p,vs⟩:=q
     simp only [hra,yr,Option.some.injEq,Prod.mk.injEq] at hr
     obtain ⟨rfl,rfl⟩:=hr
     have:=hmap _ (hall _ _ _ hra hp)
     have hlen:∀ (l:List ResultVar) (ps:List Prop) (vs:List SV),retAll P tm m l=some (ps,vs)→vs.length=l.length:=by
      intro l
      induction l with
      | nil=>intro ps vs hr;simp [retAll] at hr;obtain ⟨rfl,rfl⟩:=hr;rfl
      | cons x l ih=>
        intro ps vs hr
        simp only [retAll] at hr
        split at hr <;> try (first | contradiction | exact False.elim hr)
        rename_i p v q vs' h1 h2
        simp only [Option.some.injEq,Prod.mk.injEq] at hr
        obtain ⟨rfl,rfl⟩:=hr
        simp [ih _ _ h2]
     have hl:=hlen _ _ _ hra
     have h1:vs.length≠1:=by
      intro e
      rw [hl] at e
      obtain ⟨x,hx⟩:=List.length_eq_one_iff.1 e
      exact hne x hx
     simp only [Sem.run_bind,this,Result.andThen_ok,Sem.run_pure,SV.va]
     rw [dif_neg (by simp [SV.vas_eq,h1])]
def fexec {P:Program} (E:Env P C) (L:List (Inv' C)) (fn:Func) (c:Code) (args:List SV) (mem:List (Ck C)) (G:SV→List (Ck C)→Tr):Tr:=
 fTm (initTm 0 args) fun tm0=>fM mem fun mem0=>sexec E L c tm0 mem0 fun e tm m=>match e with
  | .exit _=>.no
  | _=>match retSV P fn tm m with
    | some (ps,r)=>conj ps (fSV r fun r=>fM m fun m=>G r m)
    | none=>.no
theorem get_init:∀ (args:List SV) (k t:Nat),get (initTm k args) t=.junk∨(k≤t∧∃ v,args[t - k]? = some v∧get (initTm k args) t=v)
 | [],_,_=>.inl rfl
 | v :: r,k,t=>by
   simp only [initTm]
   rw [get_put]
   split
   · rename_i e;subst e;exact .inr ⟨zw _,v,by simp,rfl⟩
   · rename_i e
     rcases get_init r (k+1) t with h | ⟨h1,u,h2,h3⟩
     · exact .inl h
     · exact .inr ⟨by omega,u,by rw [show t - k=(t - (k+1))+1 by omega];simpa using h2,h3⟩
def noCnds:List SV→Bool
 | []=>true
 | v :: r=>notCnd v && noCnds r
theorem noCnds_ok:∀ {l:List SV},noCnds l=true→∀ v∈l,notCnd v=true
 | [],_,v,h=>by cases h
 | x :: r,h,v,hv=>by
   simp only [noCnds,zq] at h
   rcases List.mem_cons.1 hv with rfl | hv
   · exact h.1
   · exact noCnds_ok h.2 v hv
theorem fexec_ok {P:Program} (hmix:P.follows .mixedOrders=true) {E:Env P C} {L:List (Inv' C)} {f:FuncId} {fn:Func} {c:Code} {args:List SV} {mem:List (Ck C)} {G:SV→List (Ck C)→Tr}
 (hf:P.funcs[f]? = some fn) (hb:fn.body=some c) (hn:fn.ntmps=E.n) (hlen:wc args.length E.n=true) (hnc:noCnds args=true) (h:fexec E L fn c args mem G) (w:World) (hm:MemOK (wrS mem) w w mem):
 Calls P f (SV.vas (ads mem) args).toArray w fun e w'=>∃ r m',e=.returned (r.va (ads m'))∧MemOK (wrS mem) w w' m'∧G r m':=by
 have hlen:args.length≤E.n:=xk hlen
 refine calls_of_wp hf hb ?_
 have hsz:(SV.vas (ads mem) args).toArray.size=args.length:=by simp [SV.vas_eq]
 have hact:ActOK (ads mem) E.n (initTm 0 args) { tmps:=(SV.vas (ads mem) args).toArray ++ uu (fn.ntmps - (SV.vas (ads mem) args).toArray.size) Go.undef,defers:=[] }:=by
  refine ⟨rfl,by simp [hn,SV.vas_eq];omega,fun t => ?_,?_⟩
  · rcases get_init args 0 t with h1 | ⟨_,v,h2,h3⟩
    · exact .inl h1
    · right
      simp only [Nat.sub_zero] at h2
      have hlt:t<args.length:=(List.getElem?_eq_some_iff.1 h2).1
      rw [h3,Array.getElem?_append_left (by rw [hsz];exact hlt)]
      simp [SV.vas_eq,h2]
  · intro t cs v hg
    exfalso
    rcases get_init args 0 t with h1 | ⟨_,u,h2,h3⟩
    · rw [h1] at hg;cases hg
    · rw [h3] at hg
      exact notCnd_ok (noCnds_ok hnc u (List.mem_of_getElem? h2)) cs v hg
 unfold fexec at h
 simp only [fTm_eq,fM_eq,fSV_eq] at h
 refine sexec_ok hmix (w0:=w) (S:=wrS mem) h hact hm fun e tm m a w' hk ha hm' => ?_
 have fin:(match retSV P fn tm m with | some (ps,r)=>conj ps (G r m) | none=>.no:Tr).holds→a.defers=[]∧∃ v,(results fn a.tmps).run P w'=.ok v w'∧∃ r m',Ending.returned v=.returned (r.va (ads m'))∧MemOK (wrS mem) w w' m'∧G r m':=by
  intro hk
  split at hk <;> try (first | contradiction | exact False.elim hk)
  rename_i ps r hr
  obtain ⟨hp,hG⟩:=(conj_iff _ _).1 hk
  exact ⟨ha.defers,_,retSV_ok ha hm' hr hp,r,m,rfl,hm',hG⟩
 cases e with
 | nor=>exact fin hk
 | exit i=>exact False.elim hk
 | ret=>exact fin hk
def idNames:Nat→List (Ck C)→List (Nat×Nat)
 | _,[]=>[]
 | k,_ :: r=>(k,k) :: idNames (k+1) r
def placeEq:List (Ck C)→List (Ck C)→Option (List Prop)
 | [],out=>if extB [] out then some [] else none
 | a :: s,o :: out=>if zi o.sz a.sz && beqB o.wr a.wr then (placeEq s out).map fun ps=>onEq o.gl a.gl ++ (o.block=a.block) :: (o.base=a.base) :: ps else none
 | _ :: _,[]=>none
def finR (mem:List (Ck C)) (r:SV) (m:List (Ck C)) (res:SV) (out:List (Ck C)) (ρ:List Nat):Tr:=
 match memLt m.length m && SV.lt m.length r && memLt out.length out && SV.lt out.length res with
 | false=>.no
 | true=>withOffs m ρ out fun ρ M=>match apartB ρ out with
   | false=>.no
   | true=>match cksEq m.length ρ M ρ out,eqv m.length r (res.ren ρ),placeEq mem out with
     | some ps,some qs,some rs=>allLf (ps ++ qs ++ rs)
     | _,_,_=>.no
def deads:List (Ck C)→List (Ck C)
 | []=>[]
 | ⟨b,ba,sz,w,g,_⟩ :: r=>⟨b,ba,sz,w,g,.dead⟩ :: deads r
def someDead:List (Ck C)→List (Ck C)→Bool
 | _ :: s,o :: out=>!o.alive || someDead s out
 | _,_=>false
def idNamesD (n:Nat):Nat→List (Ck C)→List (Ck C)→List (Nat×Nat)
 | k,_ :: s,o :: out=>(match o.alive with
   | true=>(k,k)
   | false=>(k,n+k)) :: idNamesD n (k+1) s out
 | _,_,_=>[]
def finP (mem:List (Ck C)) (r:SV) (m:List (Ck C)) (res:SV) (out:List (Ck C)):Tr:=
 match memLt m.length m && SV.lt m.length r with
 | false=>.no
 | true=>match someDead mem out with
 | false=>fP (idNames 0 mem ++ unif res r) fun acc=>unifMemK m 0 out acc fun A=>fNames (namesOf A 0 out) fun ρ=>finR mem r m res out ρ
 | true=>fM (m ++ deads mem) fun M=>fP (idNamesD m.length 0 mem out ++ unif res r) fun acc=>unifMemK M 0 out acc fun A=>fNames (namesOf A 0 out) fun ρ=>finR mem r M res out ρ
theorem placeEq_ok:∀ {mem out:List (Ck C)} {ps:List Prop},placeEq mem out=some ps→allOf ps→Ext mem out
 | [],out,ps,h,_=>by
   simp only [placeEq] at h
   split at h <;> try (first | contradiction | exact False.elim h)
   rename_i he
   refine ⟨by simp,fun k hk=>by simp at hk,fun k _ hk hl => ?_⟩
   have:=List.all_eq_true.1 he _ (nth_mem hk)
   simpa [hl] using this
 | a :: s,[],ps,h,_=>by simp [placeEq] at h
 | a :: s,o :: out,ps,h,hp=>by
   simp only [placeEq] at h
   split at h <;> try (first | contradiction | exact False.elim h)
   rename_i hc
   simp only [zq] at hc
   cases hs:placeEq s out with
   | none=>simp [hs] at h
   | some qs=>
     simp only [hs,yr,Option.some.injEq] at h;subst h
     obtain ⟨h0,h1,h2,h3⟩:=(allOf_append _ _).1 hp
     have ih:=placeEq_ok hs h3
     refine ⟨by simpa using ih.len,fun k hk => ?_,fun k hk hk' hl => ?_⟩
     · cases k with
       | zero=>
         refine ⟨h1,h2,zp hc.1,?_,onEq_ok h0⟩
         have:=hc.2
         show o.wr=a.wr
         revert this
         cases o.wr <;> cases a.wr <;> simp [beqB]
       | succ k=>exact ih.same k (by simpa using hk)
     · cases k with
       | zero=>simp at hk
       | succ k=>exact ih.new k (by simpa using hk) (by simpa using hk') hl
theorem finR_ok {S:Sx} {w0 w:World} {mem m out:List (Ck C)} {r res:SV} {ρ0:List Nat} (h0:finR mem r m res out ρ0) (hm:MemOK S w0 w m):MemOK S w0 w out∧r.va (ads m)=res.va (ads out)∧Ext mem out∧SV.lt m.length r=true:=by
 have h:=h0
 unfold finR at h
 split at h <;> try (first | contradiction | exact False.elim h)
 rename_i hc
 simp only [zq] at hc
 obtain ⟨⟨⟨c0,c0'⟩,c1⟩,c2⟩:=hc
 obtain ⟨ρ',o,h,ho,hlM,_⟩:=withOffs_ok h c0
 clear h0
 revert h
 generalize ρ'=ρ
 intro h
 obtain ⟨M,hMe⟩:∃ M,M=m ++ o:=⟨_,rfl⟩
 have hmM:=hm.withO c0 ho
 obtain ⟨hadsP,hN⟩:=ads_offs (m:=m) (o:=o) (fun x hx=>(ho x hx).1)
 rw [← hMe] at h hlM hmM hadsP hN
 split at h <;> try (first | contradiction | exact False.elim h)
 rename_i c3
 split at h <;> try (first | contradiction | exact False.elim h)
 rename_i ps qs rs hps hqs hrs
 obtain ⟨hpq,hrs'⟩:=(allOf_append _ _).1 (allLf_ok h)
 obtain ⟨hps',hqs'⟩:=(allOf_append _ _).1 hpq
 obtain ⟨hlen,hk⟩:=cksEq_ok hps hps'
 have hk':∀ k,k<out.length→rn ρ k<M.length∧CkEq m.length ρ (nth out k) (nth M (rn ρ k)):=fun k hkl=>by
  obtain ⟨h1,qs,h2,h3⟩:=hk k hkl
  exact ⟨h1,ckEq_ok h2 h3⟩
 obtain ⟨hm',hads⟩:=hmM.sub hN c1 hk' (apartB_ok c3 hlen)
 exact ⟨hm',by rw [SV.va_congr hadsP _ c0',eqv_ok hN _ _ qs hqs hqs',SV.va_ren hads _ c2],placeEq_ok hrs hrs',c0'⟩
theorem MemOK.dead1 {S:Sx} {w0 w:World} {m:List (Ck C)} (h:MemOK S w0 w m) (hl:memLt m.length m=true) {x:Ck C} (hx:x.cells=.dead) (hS:x.wr=true→x.on=true→x.block<w0.heap.size→S.set x.block) (hb:x.on=true→x.block<w.heap.size):MemOK S w0 w (m ++ [x]):=by
 have hm:∀ y,y∈m ++ [x]→y∈m∨y=x:=by intro y hy;simpa using hy
 have no:∀ {p:Prop},x.live=true→p:=fun h=>by simp [Ck.live,Ck.alive,hx] at h
 refine ⟨h.os,h.tape,h.output,h.size,h.keep,?_,?_,?_,?_,?_,?_⟩
 · intro y hy hw ho hb0
   rcases hm y hy with hy | rfl
   · exact h.inS y hy hw ho hb0
   · exact hS hw ho hb0
 · intro y hy ho
   rcases hm y hy with hy | rfl
   · exact Ck.ok_ads (ads_append m _) (memLt_mem hl hy) (h.ok y hy ho)
   · unfold Ck.ok;rw [hx];trivial
 · intro y hy hw hlv a ha
   rcases hm y hy with hy | rfl
   · exact h.wrok y hy hw hlv a ha
   · exact no hlv
 · intro i j hi hj hij hiw hil hjl
   simp only [zx,vu] at hi hj
   rw [nth_append] at hiw hil ⊢
   rw [nth_append] at hjl ⊢
   by_cases h1:i<m.length
   · by_cases h2:j<m.length
     · rw [if_pos h1] at hiw hil ⊢
       rw [if_pos h2] at hjl ⊢
       exact h.apart i j h1 h2 hij hiw hil hjl
     · rw [if_neg h2,if_pos (by omega)] at hjl
       exact no hjl
   · rw [if_neg h1,if_pos (by omega)] at hil
     exact no hil
 · intro y hy ho
   rcases hm y hy with hy | rfl
   · exact h.lt y hy ho
   · exact hb ho
 · refine h.more.mono h.inS (fun _ _ _=>rfl) (fun y hy hyl => ?_) h.size (zw _) (fun y hy => ?_)
   · rcases hm y hy with hy | rfl
     · exact .inl ⟨y,hy,hyl,rfl,id⟩
     · exact no hyl
   · rcases hm y hy with hy | rfl
     · exact CsIn.self hy
     · rw [hx];exact CsIn.other (fun _ _ e=>by cases e) (fun _ _ _ _ e=>by cases e)
theorem MemOK.withD {S:Sx} {w0 w:World}:∀ {mem m:List (Ck C)},MemOK S w0 w m→memLt m.length m=true→(∀ a∈mem,(a.wr=true→a.on=true→a.block<w0.heap.size→S.set a.block)∧(a.on=true→a.block<w.heap.size))→
 MemOK S w0 w (m ++ deads mem)∧memLt (m ++ deads mem).length (m ++ deads mem)=true
 | [],m,h,hl,_=>by simpa [deads] using ⟨h,hl⟩
 | ⟨b,ba,sz,wr,g,cs⟩ :: r,m,h,hl,hS=>by
   obtain ⟨h1,h2⟩:=hS _ (xp ..)
   have hm:=h.dead1 hl (x:=⟨b,ba,sz,wr,g,.dead⟩) rfl h1 h2
   have hl':memLt (m ++ [(⟨b,ba,sz,wr,g,.dead⟩:Ck C)]).length (m ++ [⟨b,ba,sz,wr,g,.dead⟩])=true:=memLt_app (memLt_mono (by simp) hl) (by simp [memLt,Ck.lt])
   have:=MemOK.withD hm hl' (fun a ha=>hS a (yw _ ha))
   simpa [deads] using this
theorem finP_ok {w w':World} {mem m out:List (Ck C)} {r res:SV} (h:finP mem r m res out) (hm:MemOK (wrS mem) w w' m) (hmem:MemOK (wrS mem) w w mem):
 MemOK (wrS mem) w w' out∧r.va (ads m)=res.va (ads out)∧Ext mem out:=by
 unfold finP at h
 split at h
 · exact h.elim
 rename_i hc
 obtain ⟨hml,hrl⟩:=Bool.and_eq_true_iff.1 hc
 split at h
 · rw [fP_eq,unifMemK_eq,fNames_eq] at h
   obtain ⟨h1,h2,h3,_⟩:=finR_ok h hm
   exact ⟨h1,h2,h3⟩
 · rw [fM_eq,fP_eq,unifMemK_eq,fNames_eq] at h
   have hD:=hm.withD (mem:=mem) hml (fun a ha=>⟨fun hw ho _=>⟨a,ha,hw,ho,rfl⟩,fun ho=>Nat.lt_of_lt_of_le (hmem.lt a ha ho) hm.size⟩)
   obtain ⟨h1,h2,h3,_⟩:=finR_ok h hD.1
   refine ⟨h1,?_,h3⟩
   rw [← h2]
   refine SV.va_congr (fun c hc => ?_) r hrl
   simp [ads,nth_app,hc]
theorem run_callFunc {P : Program} {f : FuncId} {fn : Func} {c : Code} (hf : P.funcs[f]? = some fn) (hb : fn.body = some c) (hname : (fn.name == "runtime.NumGoroutine") = false) (vals : Array Value) (w : World) :
 (callFunc f vals).run P w=.ok (.enter f vals) w:=by
 have hname : ¬ fn.name = "runtime.NumGoroutine" := by simpa using hname
 simp [callFunc,hf,hname,hb]
theorem loc_fn {P:Program} (hmix:P.follows .mixedOrders=true) {E:Env P C} {L:List (Inv' C)} {f:FuncId} {fn:Func} {c:Code} {args:List SV} {mem:List (Ck C)} {alts:List (Alt C)}
 (hf : P.funcs[f]? = some fn) (hb : fn.body = some c) (hname : (fn.name == "runtime.NumGoroutine") = false) (hn : fn.ntmps = E.n) (hlen : wc args.length E.n = true) (hnc : noCnds args = true)
 (h:fexec E L fn c args mem fun r m=>.lf (Ends alts fun A y=>(finP mem r m (A.res y) (A.out y)).holds)):
 LocG P (.fn f) mem args fun r m'=>Ends alts fun A y=>r=A.res y∧m'=A.out y:=by
 intro w hm
 refine ⟨f,_,run_callFunc hf hb hname _ w,(fexec_ok hmix hf hb hn hlen hnc h w hm).mono ?_⟩
 rintro e w' ⟨r,m',rfl,hm',A,hA,y,hy,hfin⟩
 obtain ⟨hm'',hv,hx⟩:=finP_ok hfin hm' hm
 exact ⟨A.res y,A.out y,by rw [hv],hm'',hx,A,hA,y,hy,rfl,rfl⟩
theorem loc_pc {P:Program} (hmix:P.follows .mixedOrders=true) {E:Env P C} {L:List (Inv' C)} {f:FuncId} {fn:Func} {c:Code} {args:List SV} {mem:List (Ck C)} {res:SV}
 (hf : P.funcs[f]? = some fn) (hb : fn.body = some c) (hname : (fn.name == "runtime.NumGoroutine") = false) (hn : fn.ntmps = E.n) (hlen : wc args.length E.n = true) (hnc : noCnds args = true)
 (h:fexec E L fn c args mem fun r m=>finP mem r m res mem):
 LocG P (.fn f) mem args fun r m'=>r=res∧m'=mem:=by
 intro w hm
 refine ⟨f,_,run_callFunc hf hb hname _ w,(fexec_ok hmix hf hb hn hlen hnc h w hm).mono ?_⟩
 rintro e w' ⟨r,m',rfl,hm',hfin⟩
 obtain ⟨hm'',hv,hx⟩:=finP_ok hfin hm' hm
 exact ⟨res,mem,by rw [hv],hm'',hx,rfl,rfl⟩
end Go.Vx
namespace Go.Vx
open Go
variable {C:Nat→Codec}
end Go.Vx
namespace Go.Vx
open Go Go.RowKit
variable {C:Nat→Codec}
theorem memRo {w:World} {mem:List (Ck C)} (hnw:noWr mem=true) (hok:∀ c∈mem,c.on=true→Ck.ok (ads mem) w c) (hlt:∀ c∈mem,c.on=true→c.block<w.heap.size) (hmore:More (wrS mem) w w mem):MemOK (wrS mem) w w mem where
 more:=hmore
 os:=rfl
 tape:=⟨rfl,zw _⟩
 output:=rfl
 size:=zw _
 keep _ _ _:=rfl
 inS c hc hw ho _:=⟨c,hc,hw,ho,rfl⟩
 ok:=hok
 wrok c hc hw:=by rw [noWr_ok hnw c hc] at hw;cases hw
 apart i j hi _ _ hw:=by rw [noWr_ok hnw _ (nth_mem hi)] at hw;cases hw
 lt:=hlt
theorem Tells.calls {P : Program} {f : FuncId} {fn : Func} {c : Code} (hf : P.funcs[f]? = some fn) (hb : fn.body = some c) (hname : (fn.name == "runtime.NumGoroutine") = false) {mem : List (Ck C)} {args : List SV} {res : SV}
 (h:Tells P (.fn f) mem args res) (hnw:noWr mem=true) {w:World} (hm:MemOK (wrS mem) w w mem):
 Calls P f (SV.vas (ads mem) args).toArray w fun e w'=>e=.returned (res.va (ads mem))∧Below w.heap.size w w':=by
 obtain ⟨f',vals,hr,hc⟩:=h w hm
 rw [show tgSem (.fn f) (SV.vas (ads mem) args).toArray=callFunc f (SV.vas (ads mem) args).toArray from rfl,run_callFunc hf hb hname] at hr
 simp only [Result.ok.injEq,Next.enter.injEq,and_true] at hr
 obtain ⟨rfl,rfl⟩:=hr
 refine hc.mono ?_
 rintro e w' ⟨r,m',rfl,hm',_,rfl,rfl⟩
 refine ⟨rfl,hm'.os,hm'.tape.1,hm'.output,hm'.size,fun k hk=>hm'.keep k hk ?_⟩
 rintro ⟨c,hc,hw,_⟩
 rw [noWr_ok hnw c hc] at hw;cases hw
theorem okWide_at {P:Program} {w:World} {r:Reach} {base:Nat} {t e:TypeId} {a:Addr} {len cap:Nat} (ht:P.underlying t=some (.slice e)) (h:Value.okWide P w r base t (.slice (some a) len cap)):a.spot=none∧a.block<w.heap.size:=by
 simp only [Value.okWide,ht,Cell.okWide,Cell.ok,World.has] at h
 obtain ⟨_,_,_,h1,row,cells,h2,_⟩:=h
 refine ⟨h1,?_⟩
 unfold World.shape? at h2
 cases hb:w.heap[a.block]? with
 | none=>simp [hb] at h2
 | some o=>exact (Array.getElem?_eq_some_iff.1 hb).1
end Go.Vx
