/-
  Round 10: codes that can be worked out: their leaders, generators, roots.
  Round 10: minimal.leaders, Least.
  Round 10: the product of polynomials over the field.
  Round 10: minimal.fold: factors are put together.
  Round 10: minimal.Of.
  Round 10: minimal.product.
  Round 10: minimal.Generator.
  Round 10: encode's shift: a bit comes to the register.
  Round 10: encode's bitwise.
  Round 10: encode's bytewise.
  Round 10: encode's divide, Serial, Fast.
  Round 10: lists that are compared: SameBytes, SameInts, encode's Right.
  Round 10: encode's Flip.
  Round 10: encode.New: the walk.
  Round 10: a code that was made: its table read where it lies in the code's cells.
  Round 10: the document's leaders, az numbers that can be worked out: plain facts.
  Conditions: none.
-/
import Derived.Test.YtfjogcklhibboaaGreatDoorM2
import Derived.Test.YtfjogcklhibboaaGreatDoorM4
import Derived.Test.YtfjogcklhibboaaGreatDoorM6
open Array renaming length_toList → qj
open Bool renaming and_eq_true → zq, and_false → tn, false_and → yf, false_ne_true → ve, not_eq_true' → yi, or_eq_true → yd, or_false → sr, toNat_le → ul, true_and → zd
open Int renaming eq_ofNat_of_zero_le → yh, ofNat_tdiv → yj, ofNat_tmod → zb, toNat_natCast → zu
open List renaming all_eq_true → ux, any_eq_true → pk, append_assoc → vx, drop_zero → zm, filter_cons_of_neg → rm, filter_cons_of_pos → rl, foldl_append → uo, getD_eq_getElem?_getD → zy, getElem?_append_left → yx, getElem?_append_right → xr, getElem?_eq_getElem → zt, getElem?_replicate → sw, getElem?_take_of_lt → yn, length → wi, length_append → zx, length_cons → xy, length_map → zn, length_nil → ur, length_replicate → xz, length_set → zh, length_take → ze, map_cons → vw, mem_cons_of_mem → yw, mem_cons_self → xp, mem_replicate → qa, mem_singleton → wq, range → xq, replicate → zo, set_append_left → tu, take_length → xb, take_of_length_le → zc
open Nat renaming add_zero → za, beq → zi, ble → wc, blt → ye, blt_eq → ui, eq_of_beq_eq_true → zp, le_of_ble_eq_true → xk, le_refl → zw, le_trans → xl, lt_of_le_of_lt → wh, lt_of_lt_of_le → zk, min_eq_left → xa, mod_eq_of_lt → tb, mod_lt → yv, not_lt_zero → xi, one_mul → qh, pow_le_pow_right → zj, sub_self → qo, succ_mul → nv, testBit_shiftLeft → vr, testBit_two_pow → vy, two_pow_pos → yg, zero_le → zg, zero_testBit → xj
set_option linter.unusedVariables false
set_option linter.unusedSimpArgs false
set_option linter.unusedSectionVars false
namespace Go.Vx
open Go.Vx.Fd
noncomputable section
def mpNn (m p:Nat) (l:List Int):Nat:=bn (l.length+1) fun k=>zi ((fdN m p l).getD k 0) 1
def genN (m p:Nat) (ld:List Int):Nat:=ld.foldl (fun g i=>clm g (mpNn m p (cosV m i.toNat))) 1
def dupB:List Nat→Bool
 | []=>false
 | x :: l=>l.any (zi x) || dupB l
theorem dupB_ok:∀ {l:List Nat},dupB l=false→l.Nodup
 | [],_=>List.nodup_nil
 | x :: l,h=>by
   simp only [dupB,Bool.or_eq_false_iff,List.any_eq_false] at h
   refine List.nodup_cons.2 ⟨fun hm => ?_,dupB_ok h.2⟩
   exact h.1 x hm (Nat.beq_refl x)
def minOK (m p t:Nat) (i:Int):Bool:=
 (fdN m p (cosV m i.toNat)).all (fun x=>wc x 1) && wc (cosV m i.toNat).length 14 && zi (hoN m p (pwB m p m i.toNat) 15 (mpNn m p (cosV m i.toNat))) 0
   && (cosV m i.toNat).all (fun u=>(xq m).any fun j=>zi (i.toNat*2 ^ j % (2 ^ m - 1)) u.toNat) && decide (1≤i) && wc i.toNat (2*t) && ye i.toNat (2 ^ m)
def kdU (m:Nat) (ld:List Int):List Nat:=ld.flatMap fun i=>(cosV m i.toNat).map Int.toNat
def kdOK (m p t:Nat):Bool:=
 wc 1 t && wc t 40 && ye (ldR m t).2 (2 ^ m - 1) && wc 1 (ldR m t).2 && (ldR m t).1.all (minOK m p t) && zi (bl (genN m p (ldR m t).1)) ((ldR m t).2+1)
  && !(dupB (kdU m (ldR m t).1)) && zi (kdU m (ldR m t).1).length (ldR m t).2 && (xq (2*t)).all fun i=>(kdU m (ldR m t).1).any (zi ((i+1) % (2 ^ m - 1)))
structure Kd (F:Gf) where
 t:Nat
 ld:List Int
 D:Nat
 G:Nat
 t1:1≤t
 t40:t≤40
 hl:ldR F.m t=(ld,D)
 hD:D<2 ^ F.m - 1
 D1:1≤D
 ln:∀ i∈ld,(cosV F.m i.toNat).length≤14∧1≤i∧i.toNat<2 ^ F.m
 bin:∀ i∈ld,∀ x∈fdE F (cosV F.m i.toNat),x=zr∨x=un
 gen:ld.foldl (fun g i=>clm g (mpN F (cosV F.m i.toNat))) 1=G
 tp:bl G=D+1
 Q:Cdx F
 Qt:Q.t=t
 QD:Q.D=D
 Qg:∀ k,k<D→Q.g k=G.testBit k
section
variable {F:Gf}
theorem mpN_Nn {l:List Int} (h:∀ x∈l,x.toNat<2 ^ F.m):mpN F l=mpNn F.m F.p l:=by
 unfold mpN mpNn
 refine bn_congr fun k _ => ?_
 rw [← fdE_N h,← cf_v]
 by_cases e:cf (fdE F l) k=un
 · rw [decide_eq_true e,e];rfl
 · rw [decide_eq_false e]
   refine (Bool.eq_false_iff.2 fun h=>e (El.ext ?_)).symm
   exact zp h
theorem minOK_facts {t:Nat} {i:Int} (h:minOK F.m F.p t i=true):(∀ x∈fdE F (cosV F.m i.toNat),x=zr∨x=un)∧(cosV F.m i.toNat).length≤14∧
 vn (mpN F (cosV F.m i.toNat)) (ex F i.toNat)=zr∧(∀ u∈cosV F.m i.toNat,∃ j,i.toNat*2 ^ j % F.N=u.toNat)∧1≤i∧i.toNat≤2*t∧i.toNat<2 ^ F.m:=by
 simp only [minOK,zq,ux,pk,decide_eq_true_eq,ui] at h
 obtain ⟨⟨⟨⟨⟨⟨h1,h2⟩,h3⟩,h4⟩,h5⟩,h6⟩,h7⟩:=h
 have h2:=xk h2
 have hm:=F.m3
 have hc:∀ x∈cosV F.m i.toNat,x.toNat<2 ^ F.m:=fun x hx=>by
  have:=cosV_lt (m:=F.m) (i:=i.toNat) (by omega) x hx
  have:=yg F.m
  omega
 refine ⟨fun x hx => ?_,h2,?_,fun u hu => ?_,h5,xk h6,h7⟩
 · have h9:x.v≤1:=by
    refine xk (h1 x.v ?_)
    rw [← fdE_N hc]
    exact List.mem_map_of_mem hx
   by_cases h0:x.v=0
   · exact .inl (El.ext h0)
   · exact .inr (El.ext (show x.v=1 by omega))
 · refine hoN_vn (f:=15) (by rw [mpN_bl];omega) ?_
   rw [← pwB_ok F.m i.toNat h7,mpN_Nn hc]
   exact zp h3
 · obtain ⟨j,_,h9⟩:=h4 u hu
   exact ⟨j,zp h9⟩
theorem vn_pow {N i:Nat} (h:vn N (ex F i)=zr):∀ j,vn N (ex F (i*2 ^ j))=zr:=pow_zero' h
theorem vn_gen {x:El F} (ld:List Int) {f:Int→Nat} {i:Int} (hi:i∈ld) (h:vn (f i) x=zr):vn (ld.foldl (fun g i=>clm g (f i)) 1) x=zr:=by
 revert hi
 refine snoc_ind (P:=fun ld=>i∈ld→vn (ld.foldl (fun g i=>clm g (f i)) 1) x=zr) (fun h=>by cases h) (fun l k ih hi => ?_) ld
 rw [uo]
 show vn (clm _ _) x=zr
 rw [vn_clm]
 rcases List.mem_append.1 hi with hi | hi
 · rw [ih hi,zmul]
 · rw [wq] at hi
   rw [← hi,h,mul0]
theorem kdU_mem {m u:Nat} {ld:List Int} (h:u∈kdU m ld):∃ i∈ld,∃ c∈cosV m i.toNat,c.toNat=u:=by
 obtain ⟨i,hi,h⟩:=List.mem_flatMap.1 h
 exact ⟨i,hi,List.mem_map.1 h⟩
def Kd.of (F:Gf) (t:Nat) (h:kdOK F.m F.p t=true):Kd F:=
 have H:(1≤t∧t≤40∧(ldR F.m t).2<2 ^ F.m - 1∧1≤(ldR F.m t).2)∧(∀ i∈(ldR F.m t).1,minOK F.m F.p t i=true)∧bl (genN F.m F.p (ldR F.m t).1)=(ldR F.m t).2+1∧
  (kdU F.m (ldR F.m t).1).Nodup∧(kdU F.m (ldR F.m t).1).length=(ldR F.m t).2∧∀ i,i<2*t→(i+1) % F.N∈kdU F.m (ldR F.m t).1:=by
  simp only [kdOK,zq,ux,pk,ui,yi] at h
  obtain ⟨⟨⟨⟨⟨⟨⟨⟨h1,h2⟩,h3⟩,h4⟩,h5⟩,h6⟩,h7⟩,h8⟩,h9⟩:=h
  refine ⟨⟨xk h1,xk h2,h3,xk h4⟩,h5,zp h6,dupB_ok h7,zp h8,fun i hi => ?_⟩
  obtain ⟨u,hu,he⟩:=h9 i (List.mem_range.2 hi)
  have he:(i+1) % F.N=u:=zp he
  rw [he];exact hu
 have hg:(ldR F.m t).1.foldl (fun g i=>clm g (mpN F (cosV F.m i.toNat))) 1=genN F.m F.p (ldR F.m t).1:=by
  unfold genN
  have key:∀ (l:List Int) (a:Nat),l.foldl (fun g i=>clm g (mpN F (cosV F.m i.toNat))) a=l.foldl (fun g i=>clm g (mpNn F.m F.p (cosV F.m i.toNat))) a:=by
   intro l
   induction l with
   | nil=>exact fun _=>rfl
   | cons i l ih=>
     intro a
     show List.foldl _ (clm a _) l=List.foldl _ (clm a _) l
     rw [ih,mpN_Nn]
     intro x hx
     have:=F.m3
     have:=cosV_lt (m:=F.m) (i:=i.toNat) (by omega) x hx
     have:=yg F.m
     omega
  exact key _ _
 have hz:∀ u∈kdU F.m (ldR F.m t).1,vn (genN F.m F.p (ldR F.m t).1) (ex F u)=zr:=fun u hu=>by
  obtain ⟨i,hi,c,hc,rfl⟩:=kdU_mem hu
  obtain ⟨_,_,h3,h4,_⟩:=minOK_facts (H.2.1 i hi)
  obtain ⟨j,hj⟩:=h4 c hc
  rw [← hg]
  refine vn_gen (f:=fun i=>mpN F (cosV F.m i.toNat)) _ hi ?_
  rw [← hj,ex_mod]
  exact vn_pow h3 j
 { t:=t,ld:=(ldR F.m t).1,D:=(ldR F.m t).2,G:=genN F.m F.p (ldR F.m t).1
   t1:=H.1.1,t40:=H.1.2.1,hl:=rfl,hD:=H.1.2.2.1,D1:=H.1.2.2.2
   ln:=fun i hi=>have:=minOK_facts (H.2.1 i hi);⟨this.2.1,this.2.2.2.2.1,this.2.2.2.2.2.2⟩
   bin:=fun i hi=>(minOK_facts (H.2.1 i hi)).1
   gen:=hg
   tp:=H.2.2.1
   Q:={
         t:=t,D:=(ldR F.m t).2,g:=(genN F.m F.p (ldR F.m t).1).testBit,U:=kdU F.m (ldR F.m t).1,D1:=H.1.2.2.2,nod:=H.2.2.2.1,len:=H.2.2.2.2.1
         lt:=fun u hu=>by
          obtain ⟨i,hi,c,hc,rfl⟩:=kdU_mem hu
          have:=F.m3
          have:=cosV_lt (m:=F.m) (i:=i.toNat) (by omega) c hc
          show _<2 ^ F.m - 1
          omega
         from':=fun u hu=>by
          obtain ⟨i,hi,c,hc,rfl⟩:=kdU_mem hu
          obtain ⟨_,_,_,h4,h5,h6,_⟩:=minOK_facts (H.2.1 i hi)
          obtain ⟨j,hj⟩:=h4 c hc
          exact ⟨i.toNat,j,by omega,h6,by rw [← hj,ex_mod]⟩
         zero:=fun u hu=>by
          have h0:=hz u hu
          have hb:=H.2.2.1
          have ht:(genN F.m F.p (ldR F.m t).1).testBit (ldR F.m t).2=true:=by
           have:=bl_top (N:=genN F.m F.p (ldR F.m t).1) fun e=>by rw [e,bl_zero] at hb;omega
           rwa [hb,Nat.add_sub_cancel] at this
          unfold vn at h0
          rw [hb] at h0
          have h1:vl (genN F.m F.p (ldR F.m t).1).testBit (ldR F.m t).2 (ex F u)+bk ((genN F.m F.p (ldR F.m t).1).testBit (ldR F.m t).2)*pw (ex F u) (ldR F.m t).2=zr:=h0
          rw [ht] at h1
          have h2:=eq_of_add h1
          rw [h2]
          exact umul _
         has:=fun i h1 h2=>⟨i % F.N,by
          have:=H.2.2.2.2.2 (i - 1) (by omega)
          rwa [show i - 1+1=i by omega] at this,ex_mod i⟩ }
   Qt:=rfl,QD:=rfl,Qg:=fun _ _=>rfl }
end
end
end Go.Vx
set_option maxRecDepth 100000
namespace Go.Vx
open Go Go.Proofs
noncomputable section
theorem cosR_le (n:Nat):∀ (f i:Nat) (l:List Int),l.length≤(cosR n f i l).length
 | 0,_,_=>zw _
 | f+1,i,l=>by
   unfold cosR
   split
   · exact zw _
   · have:=cosR_le n f (2*i % n) (l ++ [(i:Int)])
     rw [zx] at this
     omega
theorem cosV_pos {m i:Nat}:1≤(cosV m i).length:=by
 obtain ⟨f,hf⟩:∃ f,2 ^ m=f+1:=⟨2 ^ m - 1,by have:=yg m;omega⟩
 have e:(cosV m i).length=(cosR (2 ^ m - 1) (2 ^ m) (i % (2 ^ m - 1)) []).length:=by unfold cosV;exact (isr_perm _).length_eq
 rw [e,hf]
 exact cosR_le _ f _ ([] ++ [_])
theorem ldR_bd {m:Nat} (h1:1≤m) (h2:m≤14):∀ j,(ldR m j).1.length≤j∧(ldR m j).2≤j*16384
 | 0=>⟨zw 0,zg _⟩
 | j+1=>by
   have ih:=ldR_bd h1 h2 j
   have hc:=cosV_len (m:=m) (i:=2*j+1) h1
   have hp:2 ^ m≤2 ^ 14:=zj (by omega) h2
   unfold ldR
   split
   · omega
   · simp only [zx,xy,ur]
     omega
variable [Gl]
section
variable {F:Gf} (K:Kd F)
def Ld8:Inv' C0:=⟨8,Nat×Oq,fun x=>[(9,.int .i64 (2*(x.1:Int)+1)),(8,.int .i64 ((ldR F.m x.1).2:Int)),(7,.sl 0 0 (ldR F.m x.1).1.length x.2.2.2.2.2)],fun x _=>[oqC true x.2],
 fun x=>x.1≤K.t∧Oqw (ldR F.m x.1).1 x.2,fun x=>K.t - x.1⟩
set_option maxHeartbeats 4000000 in
theorem leaders_ok:
 Does (C:=C0) Tryz.prog (.fn 75) [] [.int .i64 (F.m:Int),.int .i64 (K.t:Int)]
  [⟨Oq,fun y=>Oqw K.ld y,fun y=>.tup [.sl 0 0 K.ld.length y.2.2.2.2,.int .i64 (K.D:Int),.nili],fun y=>[oqC true y]⟩]:=by
 obtain ⟨hs,h7,hh⟩:=nF_sz F
 have es:=shl_sz F
 have e1:(szF F:Int) - 1=(nF F:Int):=by omega
 have hN:2 ^ F.m - 1=nF F:=by rw [nF_eq]
 have hby:Tryz.prog.types[3].bytes=8:=by kernel_rfl
 have t1:=K.t1
 have t40:=K.t40
 have hl:=K.hl
 have hD:=K.hD
 rw [hN] at hD
 have bd:=fun j=>ldR_bd (m:=F.m) (by have:=F.m3;omega) F.m14 j
 have cl:=fun i=>cosV_len (m:=F.m) (i:=i) (by have:=F.m3;omega)
 rw [hN] at cl
 have hp0:(F.p:Int)≠0:=fun h=>by
  have:F.p=0:=by omega
  have h2:=F.top
  rw [this,xj] at h2
  cases h2
 refine loc_fn (P:=Tryz.prog) (E:=⟨[fcCoset F],[pcPolyF F,pcContains],64,[],[],[],none⟩) (L:=[Ld8 K]) mix Tryz.func75 rfl (by kernel_rfl) (by kernel_rfl) rfl rfl ?_
 ((conv=>arg 1;reduce);with_reducible repeat' first | exact ty | refine ta ?_ ?_ | refine ti fun _ => ?_ | refine tf fun _ => ?_ | refine tl ?_)
 all_goals try exact absurd (ng ‹_›) hp0
 all_goals try exact vlf
 · exfalso
   rename_i d0 d1
   simp only [yd,decide_eq_true_eq,SB.val] at d1
   omega
 · refine Stands.one ((0,(false,0,0,[],0)):Nat×Oq) ⟨⟨zg _,Oqw.none⟩,?_⟩
   exact vgo
 · rename_i d0 d1 x hx d2
   change Nat×Oq at x
   obtain ⟨j,y⟩:=x
   obtain ⟨k1,k2⟩:j≤K.t∧Oqw (ldR F.m j).1 y:=hx
   have eL:y.2.2.2.1.take (ldR F.m j).1.length=(ldR F.m j).1:=k2.eq
   have c1:(ldR F.m j).1.length≤y.2.2.2.2:=k2.cap
   have c2:y.2.2.2.2≤y.2.2.2.1.length:=k2.len
   have b1:=bd j
   have e2:(2*(j:Int)+1).toNat=2*j+1:=by omega
   have d2:2*(j:Int)+1<2*(K.t:Int):=ng d2
   exact ⟨by omega,by omega⟩
 iterate 5 (focus
  rename_i d0 d1 x hx d2 c hc
  change Nat×Oq at x
  obtain ⟨j,y⟩:=x
  obtain ⟨k1,k2⟩:j≤K.t∧Oqw (ldR F.m j).1 y:=hx
  have eL:y.2.2.2.1.take (ldR F.m j).1.length=(ldR F.m j).1:=k2.eq
  have c1:(ldR F.m j).1.length≤y.2.2.2.2:=k2.cap
  have c2:y.2.2.2.2≤y.2.2.2.1.length:=k2.len
  have b1:=bd j
  have e2:(2*(j:Int)+1).toNat=2*j+1:=by omega
  have d2:2*(j:Int)+1<2*(K.t:Int):=ng d2
  have hc:Oqw (cosV F.m (2*(j:Int)+1).toNat) c:=hc
  rw [e2] at hc
  have v1:=hc.cap
  have v2:=hc.len
  have v3:=cl (2*j+1)
  have v4:=cosV_pos (m:=F.m) (i:=2*j+1)
  have eC:c.2.2.2.1.getD ((0:Int).toNat+0) 0=(cosV F.m (2*j+1)).getD 0 0:=hc.at (by omega)
  first
  | exact on_of hc.nil (by omega)
  | (show 0<((cosV F.m (2*(j:Int)+1).toNat).length:Int);rw [e2];omega)
  | (show (0:Int).toNat+0<c.2.2.2.1.length;show 0<_;omega)
  | exact ⟨by show (ldR F.m j).1.length≤y.2.2.2.1.length;omega,by show (ldR F.m j).1.length<4611686018427387904;omega,k2.nil⟩)
 iterate 4 (focus
  rename_i d0 d1 x hx d2 c hc d3
  change Nat×Oq at x
  obtain ⟨j,y⟩:=x
  obtain ⟨k1,k2⟩:j≤K.t∧Oqw (ldR F.m j).1 y:=hx
  have eL:y.2.2.2.1.take (ldR F.m j).1.length=(ldR F.m j).1:=k2.eq
  have c1:(ldR F.m j).1.length≤y.2.2.2.2:=k2.cap
  have c2:y.2.2.2.2≤y.2.2.2.1.length:=k2.len
  have b1:=bd j
  have e2:(2*(j:Int)+1).toNat=2*j+1:=by omega
  have d2:2*(j:Int)+1<2*(K.t:Int):=ng d2
  have hc:Oqw (cosV F.m (2*(j:Int)+1).toNat) c:=hc
  rw [e2] at hc
  have v1:=hc.cap
  have v2:=hc.len
  have v3:=cl (2*j+1)
  have v4:=cosV_pos (m:=F.m) (i:=2*j+1)
  have eC:c.2.2.2.1.getD ((0:Int).toNat+0) 0=(cosV F.m (2*j+1)).getD 0 0:=hc.at (by omega)
  first
  | exact on_of hc.nil (by omega)
  | (show 0<((cosV F.m (2*(j:Int)+1).toNat).length:Int);rw [e2];omega)
  | (show (0:Int).toNat+0<c.2.2.2.1.length;show 0<_;omega))
 iterate 2 (focus
  rename_i d0 d1 x hx d2 c hc d3 g1
  change Nat×Oq at x
  obtain ⟨j,y⟩:=x
  obtain ⟨k1,k2⟩:j≤K.t∧Oqw (ldR F.m j).1 y:=hx
  have eL:y.2.2.2.1.take (ldR F.m j).1.length=(ldR F.m j).1:=k2.eq
  have c1:(ldR F.m j).1.length≤y.2.2.2.2:=k2.cap
  have c2:y.2.2.2.2≤y.2.2.2.1.length:=k2.len
  have b1:=bd j
  have e2:(2*(j:Int)+1).toNat=2*j+1:=by omega
  have d2:2*(j:Int)+1<2*(K.t:Int):=ng d2
  have hc:Oqw (cosV F.m (2*(j:Int)+1).toNat) c:=hc
  rw [e2] at hc
  have v1:=hc.cap
  have v2:=hc.len
  have v3:=cl (2*j+1)
  have v4:=cosV_pos (m:=F.m) (i:=2*j+1)
  have eC:c.2.2.2.1.getD ((0:Int).toNat+0) 0=(cosV F.m (2*j+1)).getD 0 0:=hc.at (by omega)
  first
  | exact k2.nil
  | (rw [hby];exact ⟨c1,by show 0+y.2.2.2.2≤y.2.2.2.1.length;omega,zw _,by show ((ldR F.m j).1.length+1)*8≤_;omega⟩))
 iterate 3 (focus
  rename_i d0 d1 x hx d2 c hc d3 g1 g2 g3 sp k h1 h2
  change Nat×Oq at x
  obtain ⟨j,y⟩:=x
  obtain ⟨k1,k2⟩:j≤K.t∧Oqw (ldR F.m j).1 y:=hx
  have eL:y.2.2.2.1.take (ldR F.m j).1.length=(ldR F.m j).1:=k2.eq
  have c1:(ldR F.m j).1.length≤y.2.2.2.2:=k2.cap
  have c2:y.2.2.2.2≤y.2.2.2.1.length:=k2.len
  have b1:=bd j
  have e2:(2*(j:Int)+1).toNat=2*j+1:=by omega
  have d2:2*(j:Int)+1<2*(K.t:Int):=ng d2
  have hc:Oqw (cosV F.m (2*(j:Int)+1).toNat) c:=hc
  rw [e2] at hc
  have v1:=hc.cap
  have v2:=hc.len
  have v3:=cl (2*j+1)
  have v4:=cosV_pos (m:=F.m) (i:=2*j+1)
  have eC:c.2.2.2.1.getD ((0:Int).toNat+0) 0=(cosV F.m (2*j+1)).getD 0 0:=hc.at (by omega)
  have d3:(!anyF (eqI (c.2.2.2.1.getD ((0:Int).toNat+0) 0)) (y.2.2.2.1.take (ldR F.m j).1.length))=true:=d3
  rw [eC,eL,any_has,yi] at d3
  have eR:ldR F.m (j+1)=((ldR F.m j).1 ++ [(cosV F.m (2*j+1)).getD 0 0],(ldR F.m j).2+(cosV F.m (2*j+1)).length):=by
   show (if (ldR F.m j).1.contains _ then _ else _)=_
   rw [d3];rfl
  have h1:(ldR F.m j).1.length+1≤k:=h1
  change List Int at sp
  have h2:k≤(ldR F.m j).1.length+1+sp.length:=h2
  first
  | (refine Stands.one ((j+1,(true,g2,g3,y.2.2.2.1.take (ldR F.m j).1.length ++ [c.2.2.2.1.getD ((0:Int).toNat+0) 0] ++ sp,k)):Nat×Oq) ⟨⟨by show j+1≤K.t;omega,?_⟩,by show K.t - (j+1)<K.t - j;omega,?_⟩
     · show Oqw (ldR F.m (j+1)).1 _
       rw [eR]
       refine k2.snoc _ _ _ _ _ sp _ ?_ h1 h2 rfl
       rw [eC]
     ((conv=>arg 1;reduce);with_reducible repeat' first | exact ty | refine ta ?_ ?_ | refine ti fun _ => ?_ | refine tf fun _ => ?_ | refine tl ?_)
     all_goals first
      | exact vlf
      | (show (ldR F.m (j+1)).1.length=(ldR F.m j).1.length+1;rw [eR,zx];rfl)
      | (show (ldR F.m j).1.length+1=(ldR F.m (j+1)).1.length;rw [eR,zx];rfl)
      | (show ((ldR F.m j).2:Int)+((cosV F.m (2*(j:Int)+1).toNat).length:Int)=((ldR F.m (j+1)).2:Int);rw [eR,e2];exact (Int.natCast_add _ _).symm)
      | (show 2*(j:Int)+1+2=2*((j+1:Nat):Int)+1;omega))
  | (show inR .i64 (((ldR F.m j).2:Int)+((cosV F.m (2*(j:Int)+1).toNat).length:Int));rw [e2];exact inR64 (by omega) (by omega))
  | exact inR64 (n:=2*(j:Int)+1+2) (by omega) (by omega))
 iterate 2 (focus
  rename_i d0 d1 x hx d2 c hc d3
  change Nat×Oq at x
  obtain ⟨j,y⟩:=x
  obtain ⟨k1,k2⟩:j≤K.t∧Oqw (ldR F.m j).1 y:=hx
  have eL:y.2.2.2.1.take (ldR F.m j).1.length=(ldR F.m j).1:=k2.eq
  have c1:(ldR F.m j).1.length≤y.2.2.2.2:=k2.cap
  have c2:y.2.2.2.2≤y.2.2.2.1.length:=k2.len
  have b1:=bd j
  have e2:(2*(j:Int)+1).toNat=2*j+1:=by omega
  have d2:2*(j:Int)+1<2*(K.t:Int):=ng d2
  have hc:Oqw (cosV F.m (2*(j:Int)+1).toNat) c:=hc
  rw [e2] at hc
  have v1:=hc.cap
  have v2:=hc.len
  have v3:=cl (2*j+1)
  have v4:=cosV_pos (m:=F.m) (i:=2*j+1)
  have eC:c.2.2.2.1.getD ((0:Int).toNat+0) 0=(cosV F.m (2*j+1)).getD 0 0:=hc.at (by omega)
  have d3:(!anyF (eqI (c.2.2.2.1.getD ((0:Int).toNat+0) 0)) (y.2.2.2.1.take (ldR F.m j).1.length))=false:=d3
  rw [eC,eL,any_has,Bool.not_eq_false'] at d3
  have eR:ldR F.m (j+1)=ldR F.m j:=by
   show (if (ldR F.m j).1.contains _ then _ else _)=_
   rw [d3];rfl
  first
  | (refine Stands.one ((j+1,y):Nat×Oq) ⟨⟨by show j+1≤K.t;omega,by show Oqw (ldR F.m (j+1)).1 _;rw [eR];exact k2⟩,by show K.t - (j+1)<K.t - j;omega,?_⟩
     ((conv=>arg 1;reduce);with_reducible repeat' first | exact ty | refine ta ?_ ?_ | refine ti fun _ => ?_ | refine tf fun _ => ?_ | refine tl ?_)
     all_goals first
      | exact vlf
      | (show (ldR F.m (j+1)).1.length=(ldR F.m j).1.length;rw [eR])
      | (show (ldR F.m j).1.length=(ldR F.m (j+1)).1.length;rw [eR])
      | (show ((ldR F.m j).2:Int)=((ldR F.m (j+1)).2:Int);rw [eR])
      | (show 2*(j:Int)+1+2=2*((j+1:Nat):Int)+1;omega))
  | exact inR64 (n:=2*(j:Int)+1+2) (by omega) (by omega))
 · exfalso
   rename_i d0 d1 x hx d2 d3
   change Nat×Oq at x
   obtain ⟨j,y⟩:=x
   obtain ⟨k1,k2⟩:j≤K.t∧Oqw (ldR F.m j).1 y:=hx
   have d2:¬ 2*(j:Int)+1<2*(K.t:Int):=nf d2
   obtain rfl:j=K.t:=by omega
   simp only [hl] at k2
   have d3:ishl .i64 1 (F.m:Int) - 1≤((ldR F.m K.t).2:Int):=ng d3
   rw [es,e1,hl] at d3
   have d3:(nF F:Int)≤(K.D:Int):=d3
   omega
 · rename_i d0 d1 x hx d2 d3
   change Nat×Oq at x
   obtain ⟨j,y⟩:=x
   obtain ⟨k1,k2⟩:j≤K.t∧Oqw (ldR F.m j).1 y:=hx
   have d2:¬ 2*(j:Int)+1<2*(K.t:Int):=nf d2
   obtain rfl:j=K.t:=by omega
   simp only [hl] at k2
   refine Ends.one y k2 ?_
   ((conv=>arg 1;reduce);with_reducible repeat' first | exact ty | refine ta ?_ ?_ | refine ti fun _ => ?_ | refine tf fun _ => ?_ | refine tl ?_)
   all_goals first
    | exact vlf
    | (show (ldR F.m K.t).1.length=K.ld.length;rw [hl])
    | (show K.ld.length=(ldR F.m K.t).1.length;rw [hl])
    | (show ((ldR F.m K.t).2:Int)=(K.D:Int);rw [hl])
    | (show (K.D:Int)=((ldR F.m K.t).2:Int);rw [hl])
def fcLeaders:Fc Tryz.prog C0 where
 tg:=.fn 75
 X:=Unit
 args _:=[.int .i64 (F.m:Int),.int .i64 (K.t:Int)]
 mem _:=[]
 pre _:=True
 alts _:=[⟨Oq,fun y=>Oqw K.ld y,fun y=>.tup [.sl 0 0 K.ld.length y.2.2.2.2,.int .i64 (K.D:Int),.nili],fun y=>[oqC true y]⟩]
 mat vs m:=match vs with
  | [.int _ _,.int _ _]=>some ((),[])
  | _=>none
 ok:=fun _ _=>leaders_ok K
theorem least_ok:
 Does (C:=C0) Tryz.prog (.fn 50) [] [.int .i64 (F.m:Int),.int .i64 (K.t:Int)]
  [⟨Unit,fun _=>True,fun _=>.tup [.int .i64 (K.D:Int),.nili],fun _=>[]⟩]:=by
 refine loc_fn (P:=Tryz.prog) (E:=⟨[fcLeaders K],[],18,[],[],[],none⟩) (L:=[]) mix Tryz.func50 rfl (by kernel_rfl) (by kernel_rfl) rfl rfl ?_
 ((conv=>arg 1;reduce);with_reducible repeat' first | exact ty | refine ta ?_ ?_ | refine ti fun _ => ?_ | refine tf fun _ => ?_ | refine tl ?_)
 all_goals try exact vlf
 refine Ends.one () trivial ?_
 exact vgo
def fcLeast:Fc Tryz.prog C0 where
 tg:=.fn 50
 X:=Unit
 args _:=[.int .i64 (F.m:Int),.int .i64 (K.t:Int)]
 mem _:=[]
 pre _:=True
 alts _:=[⟨Unit,fun _=>True,fun _=>.tup [.int .i64 (K.D:Int),.nili],fun _=>[]⟩]
 mat vs m:=match vs with
  | [.int _ _,.int _ _]=>some ((),[])
  | _=>none
 ok:=fun _ _=>least_ok K
end
end
end Go.Vx
namespace Go.Vx
open Go Go.Proofs
noncomputable section
variable {F:Gf}
@[irreducible] def mcI (P Q:List (El F)) (i:Nat):List Int:=vis (mlC P Q i)
@[irreducible] def mrI (P Q:List (El F)) (i k:Nat):List Int:=vis (mlR (cf P i) Q i k (mlC P Q i))
theorem mcI_len {P Q:List (El F)} {i:Nat}:(mcI P Q i).length=P.length+Q.length - 1:=by unfold mcI;rw [zn,mlC_len]
theorem mrI_len {P Q:List (El F)} {i k:Nat}:(mrI P Q i k).length=P.length+Q.length - 1:=by unfold mrI;rw [zn,mlR_len,mlC_len]
theorem mcI_zero {P Q:List (El F)}:mcI P Q 0=zo (P.length+Q.length - 1) 0:=by
 unfold mcI
 show (zo _ _).map vi=_
 rw [List.map_replicate];rfl
theorem mrI_zero {P Q:List (El F)} {i:Nat}:mrI P Q i 0=mcI P Q i:=by unfold mrI mcI;rfl
theorem mrI_all {P Q:List (El F)} {i:Nat}:mrI P Q i Q.length=mcI P Q (i+1):=by unfold mrI mcI;rfl
theorem mrI_set [Gl] {P Q:List (El F)} {i k:Nat}:(mrI P Q i k).set (i+k) (ibit .xor .i64 ((mrI P Q i k).getD (i+k) 0) (muI F (vi (cf P i)) (vi (cf Q k))))=mrI P Q i (k+1):=by
 unfold mrI
 rw [vis_getD,muI_eq,el_vi,el_vi,xor_vi]
 show (List.map vi _).set _ _=List.map vi ((mlR _ _ _ _ _).set _ _)
 rw [List.map_set]
variable [Gl]
theorem trL_vis' (P:List Int):trL F P=vis (trim (els F P)):=by unfold trL;rfl
theorem trL_els {P:List (El F)}:trL F (vis P)=vis (trim P):=by rw [trL_vis',els_vis]
def Rm8 (P Q:List (El F)):Inv' C0:=⟨8,Nat,fun i=>[(45,.int .i64 (i:Int))],fun i m=>match m with
 | [a0,a1,a2,a3,a4,a5,a6,a7,t]=>[a0,a1,a2,a3,a4,a5,a6,a7,⟨t.block,t.base,1,true,none,.rows 3 (mcI P Q i)⟩]
 | m=>m,fun i=>i≤P.length,fun i=>P.length - i⟩
def Rm11 (P Q:List (El F)):Inv' C0:=⟨11,Nat×Nat,fun x=>[(45,.int .i64 (x.1:Int)),(9,.int .i64 (x.1:Int)),(10,.int .i64 (vi (cf P x.1))),(52,.int .i64 (x.2:Int))],fun x m=>match m with
 | [a0,a1,a2,a3,a4,a5,a6,a7,t]=>[a0,a1,a2,a3,a4,a5,a6,a7,⟨t.block,t.base,1,true,none,.rows 3 (mrI P Q x.1 x.2)⟩]
 | m=>m,fun x=>x.1<P.length∧x.2≤Q.length,fun x=>Q.length - x.2⟩
section
variable (F)
set_option maxHeartbeats 4000000 in
theorem rmul_ok (bR qR bF qF be qe bl ql:Nat) (o:Bool) (b q:Nat) (l:List Int) (i n c:Nat) (o2:Bool) (b2 q2:Nat) (l2:List Int) (i2 n2 c2:Nat) (h:i+n≤l.length) (hn:n<1000000000) (ho:o=false→n=0∧c=0)
 (h2:i2+n2≤l2.length) (hn2:n2<1000000000) (ho2:o2=false→n2=0∧c2=0) (P Q:List (El F)) (hP:trim (els F ((l.drop i).take n))=P) (hQ:trim (els F ((l2.drop i2).take n2))=Q) (p1:1≤P.length) (q1:1≤Q.length) (pq:P.length+Q.length≤2048):
 Does (C:=C0) Tryz.prog (.fn 102) (ringC F bR qR bF qF be qe bl ql ++ [⟨b,q,1,false,some o,.rows 3 l⟩,⟨b2,q2,1,false,some o2,.rows 3 l2⟩]) [.ptr 0 0 0,.sl 4 i n c,.sl 5 i2 n2 c2]
  [⟨Os,fun y=>Ow (vis (trim (mlC P Q P.length))) y,fun y=>.tup [.sl 6 0 (vis (trim (mlC P Q P.length))).length y.2.2.2,.nili],fun y=>ringC F bR qR bF qF be qe bl ql ++ [⟨b,q,1,false,some o,.rows 3 l⟩,⟨b2,q2,1,false,some o2,.rows 3 l2⟩,osC true y]⟩]:=by
 have hby:(Tryz.prog.types[3].bytes:Int)=8:=by kernel_rfl
 have t1:trL F ((l.drop i).take n)=vis P:=by rw [trL_vis',hP]
 have t2:trL F ((l2.drop i2).take n2)=vis Q:=by rw [trL_vis',hQ]
 have lC:=fun i=>mcI_len (P:=P) (Q:=Q) (i:=i)
 have lR:=fun i k=>mrI_len (P:=P) (Q:=Q) (i:=i) (k:=k)
 refine loc_fn (P:=Tryz.prog) (E:=⟨[fcTrim F],[pcMul F],77,[(13,[0,8],[.p 0,.p 1,.p 2,.p 3,.p 4,.p 5,.p 6,.p 7,.p 8,.p 9,.p 10,.p 11,.e 12,.p 13,.p 14,.f 15])],[],[],none⟩) (L:=[Rm8 P Q,Rm11 P Q]) mix Tryz.func102 rfl (by kernel_rfl) (by kernel_rfl) rfl rfl ?_
 ((conv=>arg 1;reduce);with_reducible repeat' first | exact ty | refine ta ?_ ?_ | refine ti fun _ => ?_ | refine tf fun _ => ?_ | refine tl ?_)
 all_goals try exact vlf
 · exact ⟨h,hn,ho⟩
 · exact ⟨h2,hn2,ho2⟩
 · simp only [t1,t2,zn]
   exact inR64 (n:=(P.length:Int)+(Q.length:Int)) (by omega) (by omega)
 · exfalso
   rename_i y1 hy1 y2 hy2 d0
   simp only [t1,t2,zn,decide_eq_true_eq] at d0
   omega
 · exfalso
   rename_i y1 hy1 y2 hy2 d0 d1
   simp only [t1,t2,zn,yd,decide_eq_true_eq,SB.val] at d1
   omega
 · simp only [t1,t2,zn]
   exact inR64 (n:=(P.length:Int)+(Q.length:Int)) (by omega) (by omega)
 · simp only [t1,t2,zn]
   exact inR64 (n:=(P.length:Int)+(Q.length:Int) - 1) (by omega) (by omega)
 · simp only [t1,t2,zn]
   rw [hby]
   omega
 · refine Stands.one (0:Nat) ⟨zg _,?_⟩
   have ek:((P.length:Int)+(Q.length:Int) - 1).toNat=P.length+Q.length - 1:=by omega
   ((conv=>arg 1;reduce);with_reducible repeat' first | exact ty | refine ta ?_ ?_ | refine ti fun _ => ?_ | refine tf fun _ => ?_ | refine tl ?_)
   all_goals first
    | exact vlf
    | (simp only [t1,t2,zn];rw [mcI_zero,ek];rfl)
 all_goals try (
  rename_i y1 hy1 y2 hy2 d0 d1 b a ha d
  have hy1:Ow (vis P) y1:=t1 ▸ hy1
  have hy2:Ow (vis Q) y2:=t2 ▸ hy2
  have v1:=hy1.cap
  have v2:=hy1.len
  have w1:=hy2.cap
  have w2:=hy2.len
  simp only [zn] at v1 w1
  change Nat at a
  have ha:a≤P.length:=ha
  simp only [t1,zn] at d
  have d:(a:Int)<(P.length:Int):=ng d
  first
  | exact on_of (n:=(vis P).length) (c:=y1.2.2.2) hy1.nil (by rw [zn];omega)
  | (show (a:Int)<((trL F ((l.drop i).take n)).length:Int);rw [t1,zn];exact d)
  | (show (a:Int).toNat+0<y1.2.2.1.length;omega)
  | (refine Stands.one ((a,0):Nat×Nat) ⟨⟨by show a<P.length;omega,zg _⟩,?_⟩
     ((conv=>arg 1;reduce);with_reducible repeat' first | exact ty | refine ta ?_ ?_ | refine ti fun _ => ?_ | refine tf fun _ => ?_ | refine tl ?_)
     all_goals first
      | exact vlf
      | (show y1.2.2.1.getD ((a:Int).toNat+0) 0=vi (cf P a);rw [zu,za a,hy1.at (by rw [zn];omega),vis_getD])
      | (show mrI P Q a 0=mcI P Q a;exact mrI_zero)))
 all_goals try (
  rename_i y1 hy1 y2 hy2 d0 d1 b a ha d z hz e1 e1' e2 d2
  have hy1:Ow (vis P) y1:=t1 ▸ hy1
  have hy2:Ow (vis Q) y2:=t2 ▸ hy2
  have v1:=hy1.cap
  have v2:=hy1.len
  have w1:=hy2.cap
  have w2:=hy2.len
  simp only [zn] at v1 w1
  change Nat at a
  have ha:a≤P.length:=ha
  simp only [t1,zn] at d
  have d:(a:Int)<(P.length:Int):=ng d
  change Nat×Nat at z
  obtain ⟨a',k⟩:=z
  obtain ⟨z1,z2⟩:a'<P.length∧k≤Q.length:=hz
  have e1:(a:Int)=(a':Int):=e1
  obtain rfl:a=a':=by omega
  simp only [t2,zn] at d2
  first
  | exact inR64 (n:=(a:Int)+(k:Int)) (by omega) (by omega)
  | (show (0:Int)≤(a:Int)+(k:Int);omega)
  | (have d2:(k:Int)<(Q.length:Int):=ng d2
     have ek:((P.length:Int)+(Q.length:Int) - 1).toNat=P.length+Q.length - 1:=by omega
     first
     | exact on_of (n:=(vis Q).length) (c:=y2.2.2.2) hy2.nil (by rw [zn];omega)
     | (show (k:Int)<((trL F ((l2.drop i2).take n2)).length:Int);rw [t2,zn];exact d2)
     | (show (k:Int).toNat+0<y2.2.2.1.length;omega)
     | (show ((a:Int)+(k:Int)).toNat+0<(mrI P Q a k).length;rw [lR];omega)
     | (simp only [t1,t2,zn];rw [ek];show (a:Int)+(k:Int)<((P.length+Q.length - 1:Nat):Int);omega)
     | (rw [zh,lR];show ((a:Int)+(k:Int)).toNat+0<_;omega)
     | exact inR64 (n:=(k:Int)+1) (by omega) (by omega)
     | (refine Stands.one ((a,k+1):Nat×Nat) ⟨⟨z1,by show k+1≤Q.length;omega⟩,by show Q.length - (k+1)<Q.length - k;omega,?_⟩
        ((conv=>arg 1;reduce);with_reducible repeat' first | exact ty | refine ta ?_ ?_ | refine ti fun _ => ?_ | refine tf fun _ => ?_ | refine tl ?_)
        all_goals first
         | exact vlf
         | exact e2
         | (have eq2:y2.2.2.1.getD ((k:Int).toNat+0) 0=vi (cf Q k):=by rw [zu,za k,hy2.at (by rw [zn];omega),vis_getD]
            have es:((a:Int)+(k:Int)).toNat+0=a+k:=by omega
            show mrI P Q a (k+1)=(mrI P Q a k).set (((a:Int)+(k:Int)).toNat+0) (ibit .xor .i64 ((mrI P Q a k).getD (((a:Int)+(k:Int)).toNat+0) 0) (muI F (y1.2.2.1.getD ((a:Int).toNat+0) 0) (y2.2.2.1.getD ((k:Int).toNat+0) 0)))
            have e2:y1.2.2.1.getD ((a:Int).toNat+0) 0=vi (cf P a):=e2
            rw [e2,eq2,es,mrI_set])
         | (have eq2:y2.2.2.1.getD ((k:Int).toNat+0) 0=vi (cf Q k):=by rw [zu,za k,hy2.at (by rw [zn];omega),vis_getD]
            have es:((a:Int)+(k:Int)).toNat+0=a+k:=by omega
            show mrI P Q a (k+1)=(mrI P Q a k).set (((a:Int)+(k:Int)).toNat+0) (ibit .xor .i64 ((mrI P Q a k).getD (((a:Int)+(k:Int)).toNat+0) 0) (muI F (vi (cf P a)) (y2.2.2.1.getD ((k:Int).toNat+0) 0)))
            rw [eq2,es,mrI_set])))
  | (have d2:¬ (k:Int)<(Q.length:Int):=nf d2
     obtain rfl:k=Q.length:=by omega
     first
     | exact inR64 (n:=(a:Int)+1) (by omega) (by omega)
     | (refine Stands.one (a+1:Nat) ⟨by show a+1≤P.length;omega,by show P.length - (a+1)<P.length - a;omega,?_⟩
        ((conv=>arg 1;reduce);with_reducible repeat' first | exact ty | refine ta ?_ ?_ | refine ti fun _ => ?_ | refine tf fun _ => ?_ | refine tl ?_)
        all_goals first | exact vlf | (show mcI P Q (a+1)=mrI P Q a Q.length;exact mrI_all.symm) | (show mrI P Q a Q.length=mcI P Q (a+1);exact mrI_all))))
 · rename_i y1 hy1 y2 hy2 d0 d1 b a ha d
   have hy1:Ow (vis P) y1:=t1 ▸ hy1
   have hy2:Ow (vis Q) y2:=t2 ▸ hy2
   change Nat at a
   have ha:a≤P.length:=ha
   simp only [t1,zn] at d
   have d:¬ (a:Int)<(P.length:Int):=nf d
   obtain rfl:a=P.length:=by omega
   have ek:((P.length:Int)+(Q.length:Int) - 1).toNat=P.length+Q.length - 1:=by omega
   have lC':=lC P.length
   have e9:((mcI P Q P.length).drop 0).take (P.length+Q.length - 1)=vis (mlC P Q P.length):=by
    rw [zm,zc (by rw [lC'];exact zw _)]
    unfold mcI;rfl
   simp only [t1,t2,zn]
   rw [ek]
   exact ⟨by show 0+(P.length+Q.length - 1)≤(mcI P Q P.length).length;omega,by show P.length+Q.length - 1<1000000000;omega,(fun h=>nomatch h)⟩
 · rename_i y1 hy1 y2 hy2 d0 d1 b a ha d y3 hy3
   have hy1:Ow (vis P) y1:=t1 ▸ hy1
   have hy2:Ow (vis Q) y2:=t2 ▸ hy2
   change Nat at a
   have ha:a≤P.length:=ha
   simp only [t1,zn] at d
   have d:¬ (a:Int)<(P.length:Int):=nf d
   obtain rfl:a=P.length:=by omega
   have ek:((P.length:Int)+(Q.length:Int) - 1).toNat=P.length+Q.length - 1:=by omega
   have lC':=lC P.length
   have e9:((mcI P Q P.length).drop 0).take (P.length+Q.length - 1)=vis (mlC P Q P.length):=by
    rw [zm,zc (by rw [lC'];exact zw _)]
    unfold mcI;rfl
   simp only [t1,t2,zn] at hy3
   rw [ek] at hy3
   have hy3:Ow (trL F (((mcI P Q P.length).drop 0).take (P.length+Q.length - 1))) y3:=hy3
   rw [e9,trL_els] at hy3
   refine Ends.one y3 hy3 ?_
   ((conv=>arg 1;reduce);with_reducible repeat' first | exact ty | refine ta ?_ ?_ | refine ti fun _ => ?_ | refine tf fun _ => ?_ | refine tl ?_)
   all_goals first
    | exact vlf
    | (simp only [t1,t2,zn];rw [ek,e9,trL_els,zn])
    | (simp only [t1,t2,zn];rw [ek,e9,trL_els])
end
end
end Go.Vx
namespace Go.Vx
open Go Go.Proofs
noncomputable section
variable [Gl]
section
variable (F:Gf)
def fcRMul:Fc Tryz.prog C0 where
 tg:=.fn 102
 X:=Rf'×Sl3
 args:=fun ((bR,qR,bF,qF,be,qe,bl,ql,o,b,q,l,i,n,c),(o2,b2,q2,l2,i2,n2,c2))=>[.ptr 0 0 0,.sl 4 i n c,.sl 5 i2 n2 c2]
 mem:=fun ((bR,qR,bF,qF,be,qe,bl,ql,o,b,q,l,i,n,c),(o2,b2,q2,l2,i2,n2,c2))=>ringC F bR qR bF qF be qe bl ql ++ [⟨b,q,1,false,some o,.rows 3 l⟩,⟨b2,q2,1,false,some o2,.rows 3 l2⟩]
 pre:=fun ((bR,qR,bF,qF,be,qe,bl,ql,o,b,q,l,i,n,c),(o2,b2,q2,l2,i2,n2,c2))=>(i+n≤l.length∧n<1000000000∧(o=false→n=0∧c=0))∧(i2+n2≤l2.length∧n2<1000000000∧(o2=false→n2=0∧c2=0))∧
  1≤(trim (els F ((l.drop i).take n))).length∧1≤(trim (els F ((l2.drop i2).take n2))).length∧(trim (els F ((l.drop i).take n))).length+(trim (els F ((l2.drop i2).take n2))).length≤2048
 alts:=fun ((bR,qR,bF,qF,be,qe,bl,ql,o,b,q,l,i,n,c),(o2,b2,q2,l2,i2,n2,c2))=>
  [⟨Os,fun y=>Ow (vis (trim (mlC (trim (els F ((l.drop i).take n))) (trim (els F ((l2.drop i2).take n2))) (trim (els F ((l.drop i).take n))).length))) y,fun y=>.tup [.sl 6 0 (vis (trim (mlC (trim (els F ((l.drop i).take n))) (trim (els F ((l2.drop i2).take n2))) (trim (els F ((l.drop i).take n))).length))).length y.2.2.2,.nili],
    fun y=>ringC F bR qR bF qF be qe bl ql ++ [⟨b,q,1,false,some o,.rows 3 l⟩,⟨b2,q2,1,false,some o2,.rows 3 l2⟩,osC true y]⟩]
 mat vs m:=match vs with
  | [.ptr r _ _,.sl s i n c,.sl s2 i2 n2 c2]=>match nth m r with
    | ⟨bR,qR,_,_,_,.one (.ptr f _ _ :: _)⟩=>match nth m f with
      | ⟨bF,qF,_,_,_,.one (_ :: _ :: .sl e _ _ _ :: .sl g _ _ _ :: _)⟩=>match nth m e,nth m g,nth m s,nth m s2 with
        | ⟨be,qe,_,_,_,_⟩,⟨bl,ql,_,_,_,_⟩,⟨b,q,_,_,z,.rows 3 l⟩,⟨b2,q2,_,_,z2,.rows 3 l2⟩=>some (((bR,qR,bF,qF,be,qe,bl,ql,onOf z,b,q,l,i,n,c),(onOf z2,b2,q2,l2,i2,n2,c2)),[r,f,e,g,s,s2])
        | _,_,_,_=>none
      | _=>none
    | _=>none
  | _=>none
 ok:=fun ((bR,qR,bF,qF,be,qe,bl,ql,o,b,q,l,i,n,c),(o2,b2,q2,l2,i2,n2,c2)) h=>
  rmul_ok F bR qR bF qF be qe bl ql o b q l i n c o2 b2 q2 l2 i2 n2 c2 h.1.1 h.1.2.1 h.1.2.2 h.2.1.1 h.2.1.2.1 h.2.1.2.2 _ _ rfl rfl h.2.2.1 h.2.2.2.1 h.2.2.2.2
theorem el_one:el F 1=Fd.un:=El.ext (by
 show lw F.m ((1:Nat):Int)=1
 exact lw_nat (Nat.one_lt_two_pow (by have:=F.m3;omega)))
theorem els_row (k:Nat):trim (els F [vi (ex F k),1])=[ex F k,Fd.un]:=by
 show trim [el F (vi (ex F k)),el F 1]=_
 rw [el_vi,el_one]
 exact trim_id (n:=1) rfl (by show (Fd.un:El F)≠Fd.zr;exact Fd.ne)
def rwX (ks:List Int) (R:List (Rw Int)):Prop:=∀ j,j<ks.length→(R.getD j Rw.nil).on=true∧(R.getD j Rw.nil).l=[vi (ex F (ks.getD j 0).toNat),1]
def Fd3 (ks:List Int):Inv' C0:=⟨3,Nat×Os,fun x=>[(11,.int .i64 (x.1:Int)),(5,.sl 5 0 (x.1+1) x.2.2.2.2),(8,.junk)],fun x m=>match m with
 | [a0,a1,a2,a3,a4,a5]=>[a0,a1,a2,a3,a4,osC true x.2]
 | m=>m,fun x=>x.1≤ks.length∧Ow (vis (fdE F (ks.take x.1))) x.2,fun x=>ks.length - x.1⟩
set_option maxHeartbeats 4000000 in
theorem fold_ok (bR qR bF qF be qe bl ql:Nat) (o:Bool) (b q:Nat) (R:List (Rw Int)) (n c:Nat) (h:n≤R.length) (ho:o=false→n=0∧c=0) (ks:List Int) (hk:ks.length=n) (hn:n≤1000) (hR:rwX F ks R):
 Does (C:=C0) Tryz.prog (.fn 101) (ringC F bR qR bF qF be qe bl ql ++ [⟨b,q,1,false,some o,.rows 33 R⟩]) [.sl 4 0 n c,.fn (.func 102) [.ptr 0 0 0] []]
  [⟨Os,fun y=>Ow (vis (fdE F ks)) y,fun y=>.sl 5 0 (n+1) y.2.2.2,fun y=>ringC F bR qR bF qF be qe bl ql ++ [⟨b,q,1,false,some o,.rows 33 R⟩,osC true y]⟩]:=by
 refine loc_fn (P:=Tryz.prog) (E:=⟨[fcRMul F],[],24,[],[rdI],[],none⟩) (L:=[Fd3 F ks]) mix Tryz.func101 rfl (by kernel_rfl) (by kernel_rfl) rfl rfl ?_
 ((conv=>arg 1;reduce);with_reducible repeat' first | exact ty | refine ta ?_ ?_ | refine ti fun _ => ?_ | refine tf fun _ => ?_ | refine tl ?_)
 all_goals try exact vlf
 · rename_i g1
   refine Stands.one ((0,(true,g1,[1],1)):Nat×Os) ⟨⟨zg _,⟨rfl,zw _,zw _,(fun h=>nomatch h)⟩⟩,?_⟩
   exact vgo
 iterate 4 (focus
  rename_i g1 x hx d
  change Nat×Os at x
  obtain ⟨j,y⟩:=x
  obtain ⟨k1,k2⟩:j≤ks.length∧Ow (vis (fdE F (ks.take j))) y:=hx
  have lE:(vis (fdE F (ks.take j))).length=j+1:=by rw [zn,(fdE_facts _).1,ze,xa k1]
  have v1:=k2.cap
  have v2:=k2.len
  have eL:y.2.2.1.take (j+1)=vis (fdE F (ks.take j)):=by rw [← lE];exact k2.eq
  have d:(j:Int)<(n:Int):=ng d
  first
  | exact on_of ho (by omega)
  | exact d
  | (show (j:Int).toNat+0<R.length;omega))
 · rename_i g1 x hx d r hr
   change Nat×Os at x
   obtain ⟨j,y⟩:=x
   obtain ⟨k1,k2⟩:j≤ks.length∧Ow (vis (fdE F (ks.take j))) y:=hx
   have lE:(vis (fdE F (ks.take j))).length=j+1:=by rw [zn,(fdE_facts _).1,ze,xa k1]
   have v1:=k2.cap
   have v2:=k2.len
   have eL:y.2.2.1.take (j+1)=vis (fdE F (ks.take j)):=by rw [← lE];exact k2.eq
   have d:(j:Int)<(n:Int):=ng d
   change Rw Int at r
   have hr:R.getD ((j:Int).toNat+0) Rw.nil=r:=hr
   rw [zu,za j] at hr
   obtain ⟨r1,r2⟩:=hR j (by omega)
   rw [hr] at r1 r2
   have w1:trim (els F ((y.2.2.1.drop 0).take (j+1)))=fdE F (ks.take j):=by rw [zm,eL,els_vis,fdE_trim]
   have w2:trim (els F ((r.l.drop 0).take r.l.length))=[ex F (ks.getD j 0).toNat,Fd.un]:=by rw [zm,xb,r2,els_row]
   have w3:(fdE F (ks.take j)).length=j+1:=by rw [(fdE_facts _).1,ze,xa k1]
   refine ⟨⟨by show 0+(j+1)≤y.2.2.1.length;omega,by show j+1<1000000000;omega,?_⟩,⟨by show 0+r.l.length≤r.l.length;omega,by show r.l.length<1000000000;rw [r2];show 2<_;omega,?_⟩,?_,?_,?_⟩
   · intro h0;have:=k2.nil h0;omega
   · intro h0
     have h0:r.on=false:=h0
     rw [r1] at h0
     cases h0
   · show 1≤(trim (els F ((y.2.2.1.drop 0).take (j+1)))).length;rw [w1,w3];omega
   · show 1≤(trim (els F ((r.l.drop 0).take r.l.length))).length;rw [w2];show 1≤2;omega
   · show (trim (els F ((y.2.2.1.drop 0).take (j+1)))).length+(trim (els F ((r.l.drop 0).take r.l.length))).length≤2048
     rw [w1,w2,w3];show j+1+2≤2048;omega
 iterate 2 (focus
  rename_i g1 x hx d r hr y3 hy3
  change Nat×Os at x
  obtain ⟨j,y⟩:=x
  obtain ⟨k1,k2⟩:j≤ks.length∧Ow (vis (fdE F (ks.take j))) y:=hx
  have lE:(vis (fdE F (ks.take j))).length=j+1:=by rw [zn,(fdE_facts _).1,ze,xa k1]
  have v1:=k2.cap
  have v2:=k2.len
  have eL:y.2.2.1.take (j+1)=vis (fdE F (ks.take j)):=by rw [← lE];exact k2.eq
  have d:(j:Int)<(n:Int):=ng d
  change Rw Int at r
  have hr:R.getD ((j:Int).toNat+0) Rw.nil=r:=hr
  rw [zu,za j] at hr
  obtain ⟨r1,r2⟩:=hR j (by omega)
  rw [hr] at r1 r2
  have w1:trim (els F ((y.2.2.1.drop 0).take (j+1)))=fdE F (ks.take j):=by rw [zm,eL,els_vis,fdE_trim]
  have w2:trim (els F ((r.l.drop 0).take r.l.length))=[ex F (ks.getD j 0).toNat,Fd.un]:=by rw [zm,xb,r2,els_row]
  have w3:(fdE F (ks.take j)).length=j+1:=by rw [(fdE_facts _).1,ze,xa k1]
  have w4:trim (mlC (fdE F (ks.take j)) [ex F (ks.getD j 0).toNat,Fd.un] (fdE F (ks.take j)).length)=fdE F (ks.take (j+1)):=by
   rw [← fdE_snoc,take_snoc (d:=0) (by omega),fdE_trim]
  have hy3:Ow (vis (trim (mlC (trim (els F ((y.2.2.1.drop 0).take (j+1)))) (trim (els F ((r.l.drop 0).take r.l.length))) (trim (els F ((y.2.2.1.drop 0).take (j+1)))).length))) y3:=hy3
  rw [w1,w2,w4] at hy3
  have lE':(vis (fdE F (ks.take (j+1)))).length=j+1+1:=by rw [zn,(fdE_facts _).1,ze,xa (by omega)]
  first
  | exact inR64 (n:=(j:Int)+1) (by omega) (by omega)
  | (refine Stands.one ((j+1,y3):Nat×Os) ⟨⟨by show j+1≤ks.length;omega,hy3⟩,by show ks.length - (j+1)<ks.length - j;omega,?_⟩
     ((conv=>arg 1;reduce);with_reducible repeat' first | exact ty | refine ta ?_ ?_ | refine ti fun _ => ?_ | refine tf fun _ => ?_ | refine tl ?_)
     all_goals first
      | exact vlf
      | (show (vis (trim (mlC (trim (els F ((y.2.2.1.drop 0).take (j+1)))) (trim (els F ((r.l.drop 0).take r.l.length))) (trim (els F ((y.2.2.1.drop 0).take (j+1)))).length))).length=j+1+1;rw [w1,w2,w4,lE'])
      | (show j+1+1=(vis (trim (mlC (trim (els F ((y.2.2.1.drop 0).take (j+1)))) (trim (els F ((r.l.drop 0).take r.l.length))) (trim (els F ((y.2.2.1.drop 0).take (j+1)))).length))).length;rw [w1,w2,w4,lE'])))
 · rename_i g1 x hx d
   change Nat×Os at x
   obtain ⟨j,y⟩:=x
   obtain ⟨k1,k2⟩:j≤ks.length∧Ow (vis (fdE F (ks.take j))) y:=hx
   have lE:(vis (fdE F (ks.take j))).length=j+1:=by rw [zn,(fdE_facts _).1,ze,xa k1]
   have v1:=k2.cap
   have v2:=k2.len
   have eL:y.2.2.1.take (j+1)=vis (fdE F (ks.take j)):=by rw [← lE];exact k2.eq
   have d:¬ (j:Int)<(n:Int):=nf d
   obtain rfl:j=ks.length:=by omega
   rw [xb] at k2
   refine Ends.one y k2 ?_
   ((conv=>arg 1;reduce);with_reducible repeat' first | exact ty | refine ta ?_ ?_ | refine ti fun _ => ?_ | refine tf fun _ => ?_ | refine tl ?_)
   all_goals first | exact vlf | (rw [hk]) | exact congrArg (· + 1) hk
def fcFold (ks:List Int):Fc Tryz.prog C0 where
 tg:=.fn 101
 X:=Nat×Nat×Nat×Nat×Nat×Nat×Nat×Nat×Bool×Nat×Nat×List (Rw Int)×Nat×Nat
 args:=fun (bR,qR,bF,qF,be,qe,bl,ql,o,b,q,R,n,c)=>[.sl 4 0 n c,.fn (.func 102) [.ptr 0 0 0] []]
 mem:=fun (bR,qR,bF,qF,be,qe,bl,ql,o,b,q,R,n,c)=>ringC F bR qR bF qF be qe bl ql ++ [⟨b,q,1,false,some o,.rows 33 R⟩]
 pre:=fun (bR,qR,bF,qF,be,qe,bl,ql,o,b,q,R,n,c)=>n≤R.length∧(o=false→n=0∧c=0)∧ks.length=n∧n≤1000∧rwX F ks R
 alts:=fun (bR,qR,bF,qF,be,qe,bl,ql,o,b,q,R,n,c)=>[⟨Os,fun y=>Ow (vis (fdE F ks)) y,fun y=>.sl 5 0 (n+1) y.2.2.2,fun y=>ringC F bR qR bF qF be qe bl ql ++ [⟨b,q,1,false,some o,.rows 33 R⟩,osC true y]⟩]
 mat vs m:=match vs with
  | [.sl s _ n c,.fn _ [.ptr r _ _] _]=>match nth m r with
    | ⟨bR,qR,_,_,_,.one (.ptr f _ _ :: _)⟩=>match nth m f with
      | ⟨bF,qF,_,_,_,.one (_ :: _ :: .sl e _ _ _ :: .sl g _ _ _ :: _)⟩=>match nth m e,nth m g,nth m s with
        | ⟨be,qe,_,_,_,_⟩,⟨bl,ql,_,_,_,_⟩,⟨b,q,_,_,z,.rows 33 R⟩=>some ((bR,qR,bF,qF,be,qe,bl,ql,onOf z,b,q,R,n,c),[r,f,e,g,s])
        | _,_,_=>none
      | _=>none
    | _=>none
  | _=>none
 ok:=fun (bR,qR,bF,qF,be,qe,bl,ql,o,b,q,R,n,c) h=>fold_ok F bR qR bF qF be qe bl ql o b q R n c h.1 h.2.1 ks h.2.2.1 h.2.2.2.1 h.2.2.2.2
end
end
end Go.Vx
namespace Go.Vx
open Go Go.Proofs
noncomputable section
theorem byT_or {K N j y:Nat} (hj:j<K) (hy:y<256):(byT K N).set j (ibit .or .u8 ((byT K N).getD j 0) (y:Int))=byT K (N ||| (y <<< (8*j))):=by
 rw [byT_eq,byT_eq]
 obtain ⟨x,hx,x1,x2⟩:=by_at (b:=N.testBit) hj
 rw [hx,or8 x1 hy]
 refine by_set hj (Nat.or_lt_two_pow (n:=8) x1 hy) fun k hk => ?_
 rw [tb_or,vr]
 by_cases h:k / 8=j
 · rw [if_pos h,tb_or,x2 _ (yv _ (by omega)),show 8*j+k % 8=k by omega,show decide (8*j≤k)=true from decide_eq_true (by omega),zd,show k - 8*j=k % 8 by omega]
 · rw [if_neg h]
   by_cases h2:8*j≤k
   · have:y.testBit (k - 8*j)=false:=Nat.testBit_lt_two_pow (zk hy (show 2 ^ 8≤_ from zj (by omega) (by omega)))
     rw [this,tn,sr]
   · rw [decide_eq_false (by omega),yf,sr]
theorem bn_snoc (f:Nat→Bool) (j:Nat):bn (j+1) f=bn j f ||| ((f j).toNat <<< j):=by
 refine Nat.eq_of_testBit_eq fun k => ?_
 rw [tb_or,bn_bit,bn_bit,vr]
 have ht:∀ (b:Bool) (n:Nat),b.toNat.testBit n=(decide (n=0) && b):=fun b n=>by
  cases b
  · simp
  · cases n with
    | zero=>rfl
    | succ n=>rw [Nat.testBit_succ];simp
 rw [ht]
 by_cases h:k<j
 · rw [decide_eq_true h,decide_eq_true (show k<j+1 by omega),decide_eq_false (show ¬ j≤k by omega)];simp
 · by_cases h2:k=j
   · subst h2;simp
   · rw [decide_eq_false h,decide_eq_false (show ¬ k<j+1 by omega),decide_eq_false (show ¬ k - j=0 by omega)];simp
section
variable {F:Gf}
@[irreducible] def mpJ (F:Gf) (l:List Int) (j:Nat):Nat:=bn j fun k=>decide (cf (fdE F l) k=Fd.un)
theorem mpJ_all (l:List Int):mpJ F l (l.length+1)=mpN F l:=by unfold mpJ mpN;rfl
theorem mpJ_zero (l:List Int):mpJ F l 0=0:=by unfold mpJ;rfl
theorem mpJ_step {l:List Int} {K j:Nat} (hj:j / 8<K) (h:cf (fdE F l) j=Fd.zr∨cf (fdE F l) j=Fd.un):(byT K (mpJ F l j)).set (j / 8) (ibit .or .u8 ((byT K (mpJ F l j)).getD (j / 8) 0) (ishl .u8 (vi (cf (fdE F l) j)) ((j % 8:Nat):Int)))=byT K (mpJ F l (j+1)):=by
 have e:∃ b:Bool,vi (cf (fdE F l) j)=((b.toNat:Nat):Int)∧decide (cf (fdE F l) j=Fd.un)=b:=by
  rcases h with h | h
  · exact ⟨false,by rw [h];rfl,by rw [h];exact decide_eq_false fun e=>Fd.ne e.symm⟩
  · exact ⟨true,by rw [h];rfl,by rw [h];exact decide_eq_true rfl⟩
 obtain ⟨b,e1,e2⟩:=e
 have hb:=ul b
 have hp:2 ^ (j % 8)≤2 ^ 7:=zj (by omega) (by omega)
 have h8:b.toNat*2 ^ (j % 8)<256:=wh (Nat.mul_le_mul hb hp) (by decide)
 rw [e1,shl8 _ _ (by omega),tb h8,byT_or hj h8]
 unfold mpJ
 rw [bn_snoc,e2,← Nat.shiftLeft_eq,← Nat.shiftLeft_add,show j % 8+8*(j / 8)=j by omega]
end
variable [Gl]
section
variable (F:Gf)
abbrev Fks:=Bool×Nat×Nat×List (Rw Int)×Nat
structure Fkw (ks:List Int) (j:Nat) (y:Fks):Prop where
 rw:rwX F (ks.take j) y.2.2.2.1
 cap:j≤y.2.2.2.2
 len:y.2.2.2.2≤y.2.2.2.1.length
 nil:y.1=false→j=0∧y.2.2.2.2=0
abbrev fkC (wr:Bool) (y:Fks):Ck C0:=⟨y.2.1,y.2.2.1,1,wr,some y.1,.rows 33 y.2.2.2.1⟩
def Of4 (ks:List Int):Inv' C0:=⟨4,Nat×Fks,fun x=>[(22,.int .i64 (x.1:Int)),(7,.sl 4 0 x.1 x.2.2.2.2.2)],fun x m=>match m with
 | a0 :: a1 :: a2 :: a3 :: _=>[a0,a1,a2,a3,fkC true x.2]
 | m=>m,fun x=>x.1≤ks.length∧Fkw F ks x.1 x.2,fun x=>ks.length - x.1⟩
def Of10 (ks:List Int):Inv' C0:=⟨10,Nat,fun j=>[(45,.int .i64 (j:Int))],fun j m=>match m with
 | [a0,a1,a2,a3,a4,p,a6,a7]=>[a0,a1,a2,a3,a4,⟨p.block,p.base,1,true,none,.rows 5 (byT (ks.length / 8+1) (mpJ F ks j))⟩,a6,a7]
 | m=>m,fun j=>j≤ks.length+1,fun j=>ks.length+1 - j⟩
set_option maxHeartbeats 4000000 in
theorem mof_ok (bF qF be qe bl ql:Nat) (i:Nat) (hi:i<1000000000) (ks:List Int) (hk:cosV F.m i=ks) (hl:ks.length≤14) (hb:∀ x∈fdE F ks,x=Fd.zr∨x=Fd.un):
 Does (C:=C0) Tryz.prog (.fn 78) [fld F bF qF,xCk F be qe,lCk F bl ql] [.ptr 0 0 0,.int .i64 (i:Int)]
  [⟨Nat,fun _=>True,fun _=>.sl 3 0 (ks.length / 8+1) (ks.length / 8+1),fun y=>[fld F bF qF,xCk F be qe,lCk F bl ql,⟨y,0,1,true,none,.rows 5 (byT (ks.length / 8+1) (mpN F ks))⟩]⟩]:=by
 have hki:cosV F.m (i:Int).toNat=ks:=by rw [zu];exact hk
 have by33:Tryz.prog.types[33].bytes=24:=by kernel_rfl
 have by5:(Tryz.prog.types[5].bytes:Int)=1:=by kernel_rfl
 have hm:=F.m3
 have ht14:2 ^ F.m≤2 ^ 14:=zj (by omega) F.m14
 have kl:∀ j,j<ks.length→0≤ks.getD j 0∧ks.getD j 0<16384:=fun j hj=>by
  have:=cosV_lt (m:=F.m) (i:=i) (by omega) (ks.getD j 0) (by rw [hk];exact getD_mem hj)
  omega
 have eq8:(ks.length:Int).tdiv 8=((ks.length / 8:Nat):Int):=(yj _ 8).symm
 refine loc_fn (P:=Tryz.prog) (E:=⟨[fcCoset F,fcRing,fcFold F ks],[pcM,pcExp F],64,[(12,[],[.p 0,.p 1,.p 2,.p 3,.p 5,.p 6,.p 7,.p 8,.p 9,.q 4,.p 10,.p 11,.e 12])],[rdI],[mkI],none⟩) (L:=[Of4 F ks,Of10 F ks]) mix Tryz.func78 rfl (by kernel_rfl) (by kernel_rfl) rfl rfl ?_
 ((conv=>arg 1;reduce);with_reducible repeat' first | exact ty | refine ta ?_ ?_ | refine ti fun _ => ?_ | refine tf fun _ => ?_ | refine tl ?_)
 all_goals try exact vlf
 · exact ⟨Int.natCast_nonneg i,by omega⟩
 · rename_i c hc
   refine Stands.one ((0,(false,0,0,[],0)):Nat×Fks) ⟨⟨zg _,⟨fun j hj=>absurd hj (by simp),zw _,zw _,fun _=>⟨rfl,rfl⟩⟩⟩,?_⟩
   exact vgo
 iterate 5 (focus
  rename_i c hc x hx d
  have hc:Oqw ks c:=hki ▸ hc
  have v1:=hc.cap
  have v2:=hc.len
  change Nat×Fks at x
  obtain ⟨j,y⟩:=x
  obtain ⟨k1,k2⟩:j≤ks.length∧Fkw F ks j y:=hx
  have c1:=k2.cap
  have c2:=k2.len
  rw [hki] at d
  have d:(j:Int)<(ks.length:Int):=ng d
  have eC:c.2.2.2.1.getD ((j:Int).toNat+0) 0=ks.getD j 0:=by rw [zu,za j];exact hc.at (by omega)
  have kj:=kl j (by omega)
  first
  | exact on_of hc.nil (by omega)
  | (show (j:Int)<((cosV F.m (i:Int).toNat).length:Int);rw [hki];exact d)
  | (show (j:Int).toNat+0<c.2.2.2.1.length;omega)
  | (show -4611686018427387904≤c.2.2.2.1.getD ((j:Int).toNat+0) 0∧c.2.2.2.1.getD ((j:Int).toNat+0) 0≤4611686018427387904;rw [eC];omega))
 · show 0+2≤2
   omega
 iterate 2 (focus
  rename_i c hc x hx d g1 g2
  have hc:Oqw ks c:=hki ▸ hc
  have v1:=hc.cap
  have v2:=hc.len
  change Nat×Fks at x
  obtain ⟨j,y⟩:=x
  obtain ⟨k1,k2⟩:j≤ks.length∧Fkw F ks j y:=hx
  have c1:=k2.cap
  have c2:=k2.len
  rw [hki] at d
  have d:(j:Int)<(ks.length:Int):=ng d
  have eC:c.2.2.2.1.getD ((j:Int).toNat+0) 0=ks.getD j 0:=by rw [zu,za j];exact hc.at (by omega)
  have kj:=kl j (by omega)
  first
  | exact k2.nil
  | (rw [by33];exact ⟨c1,by show 0+y.2.2.2.2≤y.2.2.2.1.length;omega,zw _,by show (j+1)*24≤_;omega⟩))
 iterate 2 (focus
  rename_i c hc x hx d g1 g2 g3 g4 sp k h1 h2
  change List (Rw Int) at sp
  have hc:Oqw ks c:=hki ▸ hc
  have v1:=hc.cap
  have v2:=hc.len
  change Nat×Fks at x
  obtain ⟨j,y⟩:=x
  obtain ⟨k1,k2⟩:j≤ks.length∧Fkw F ks j y:=hx
  have c1:=k2.cap
  have c2:=k2.len
  rw [hki] at d
  have d:(j:Int)<(ks.length:Int):=ng d
  have eC:c.2.2.2.1.getD ((j:Int).toNat+0) 0=ks.getD j 0:=by rw [zu,za j];exact hc.at (by omega)
  have kj:=kl j (by omega)
  have h1:j+1≤k:=h1
  have h2:k≤j+1+sp.length:=h2
  have eX:vi (exF F (c.2.2.2.1.getD ((j:Int).toNat+0) 0))=vi (ex F (ks.getD j 0).toNat):=by
   rw [eC]
   obtain ⟨u,hu⟩:=yh kj.1
   rw [hu,exF_nat]
   rfl
  have tl':(y.2.2.2.1.take j).length=j:=by rw [ze];omega
  first
  | exact inR64 (n:=(j:Int)+1) (by omega) (by omega)
  | (refine Stands.one ((j+1,(true,g3,g4,y.2.2.2.1.take j ++ [⟨true,g1,0,2,[vi (exF F (c.2.2.2.1.getD ((j:Int).toNat+0) 0)),1]⟩] ++ sp,k)):Nat×Fks) ⟨⟨by show j+1≤ks.length;omega,⟨fun u hu => ?_,h1,?_,fun h=>nomatch h⟩⟩,by show ks.length - (j+1)<ks.length - j;omega,?_⟩
     · rw [ze,xa (by omega)] at hu
       have e1:(ks.take (j+1)).getD u 0=ks.getD u 0:=tk_get hu
       rw [e1]
       show ((y.2.2.2.1.take j ++ [_] ++ sp).getD u Rw.nil).on=true∧((y.2.2.2.1.take j ++ [_] ++ sp).getD u Rw.nil).l=_
       by_cases hj:u=j
       · subst hj
         have e2:∀ r:Rw Int,(y.2.2.2.1.take u ++ [r] ++ sp).getD u Rw.nil=r:=fun r=>by
          rw [vx,zy,xr (by omega),tl',qo]
          rfl
         rw [e2,eX]
         exact ⟨rfl,rfl⟩
       · have e2:∀ r:Rw Int,(y.2.2.2.1.take j ++ [r] ++ sp).getD u Rw.nil=y.2.2.2.1.getD u Rw.nil:=fun r=>by
          rw [vx,zy,yx (by omega),yn (by omega),zy]
         rw [e2]
         have e3:(ks.take j).getD u 0=ks.getD u 0:=tk_get (by omega)
         rw [← e3]
         exact k2.rw u (by rw [ze];omega)
     · show k≤(y.2.2.2.1.take j ++ [_] ++ sp).length
       simp only [zx,tl',xy,ur]
       omega
     exact vgo))
 iterate 3 (focus
  rename_i c hc x hx d
  have hc:Oqw ks c:=hki ▸ hc
  have v1:=hc.cap
  have v2:=hc.len
  change Nat×Fks at x
  obtain ⟨j,y⟩:=x
  obtain ⟨k1,k2⟩:j≤ks.length∧Fkw F ks j y:=hx
  have c1:=k2.cap
  have c2:=k2.len
  rw [hki] at d
  have d:¬ (j:Int)<(ks.length:Int):=nf d
  obtain rfl:j=ks.length:=by omega
  rw [hki,eq8]
  first
  | exact inR64 (n:=((ks.length / 8:Nat):Int)) (by omega) (by omega)
  | exact inR64 (n:=((ks.length / 8:Nat):Int)+1) (by omega) (by omega)
  | (rw [by5];omega))
 · rename_i c hc x hx d p rg hrg
   have hc:Oqw ks c:=hki ▸ hc
   have v1:=hc.cap
   have v2:=hc.len
   change Nat×Fks at x
   obtain ⟨j,y⟩:=x
   obtain ⟨k1,k2⟩:j≤ks.length∧Fkw F ks j y:=hx
   have c1:=k2.cap
   have c2:=k2.len
   rw [hki] at d
   have d:¬ (j:Int)<(ks.length:Int):=nf d
   obtain rfl:j=ks.length:=by omega
   refine ⟨by show ks.length≤y.2.2.2.1.length;omega,k2.nil,rfl,by omega,?_⟩
   have:=k2.rw
   rwa [xb] at this
 · rename_i c hc x hx d p rg hrg y3 hy3
   have hc:Oqw ks c:=hki ▸ hc
   have v1:=hc.cap
   have v2:=hc.len
   change Nat×Fks at x
   obtain ⟨j,y⟩:=x
   obtain ⟨k1,k2⟩:j≤ks.length∧Fkw F ks j y:=hx
   have c1:=k2.cap
   have c2:=k2.len
   rw [hki] at d
   have d:¬ (j:Int)<(ks.length:Int):=nf d
   obtain rfl:j=ks.length:=by omega
   have eK:((ks.length:Int).tdiv 8+1).toNat=ks.length / 8+1:=by rw [eq8];omega
   refine Stands.one (0:Nat) ⟨zg _,?_⟩
   ((conv=>arg 1;reduce);with_reducible repeat' first | exact ty | refine ta ?_ ?_ | refine ti fun _ => ?_ | refine tf fun _ => ?_ | refine tl ?_)
   all_goals first
    | exact vlf
    | (rw [hki,eK,mpJ_zero,byT_zero];rfl)
 all_goals try (
  rename_i c hc x hx d p rg hrg y3 hy3 a ha d2
  have hc:Oqw ks c:=hki ▸ hc
  have v1:=hc.cap
  have v2:=hc.len
  change Nat×Fks at x
  obtain ⟨j,y⟩:=x
  obtain ⟨k1,k2⟩:j≤ks.length∧Fkw F ks j y:=hx
  have c1:=k2.cap
  have c2:=k2.len
  rw [hki] at d
  have d:¬ (j:Int)<(ks.length:Int):=nf d
  obtain rfl:j=ks.length:=by omega
  change Nat at a
  have ha:a≤ks.length+1:=ha
  have hy3:Ow (vis (fdE F ks)) y3:=hy3
  have lE:(vis (fdE F ks)).length=ks.length+1:=by rw [zn,(fdE_facts _).1]
  have w1:=hy3.cap
  have w2:=hy3.len
  have a8:(a:Int).tdiv 8=((a / 8:Nat):Int):=(yj a 8).symm
  have m8:(a:Int).tmod 8=((a % 8:Nat):Int):=(zb a 8).symm
  have eK:((ks.length:Int).tdiv 8+1).toNat=ks.length / 8+1:=by rw [eq8];omega
  have d2:(a:Int)<((ks.length+1:Nat):Int):=ng d2
  have eV:y3.2.2.1.getD ((a:Int).toNat+0) 0=vi (cf (fdE F ks) a):=by rw [zu,za a,hy3.at (by omega),vis_getD]
  first
  | exact on_of (n:=(vis (fdE F ks)).length) (c:=y3.2.2.2) hy3.nil (by omega)
  | exact d2
  | (show (a:Int).toNat+0<y3.2.2.1.length;omega)
  | (rw [a8];exact inR64 (n:=((a / 8:Nat):Int)) (by omega) (by omega))
  | (show (0:Int)≤(a:Int).tdiv 8;rw [a8];omega)
  | (show (0:Int)≤(a:Int).tmod 8;rw [m8];omega)
  | (rw [hki,eK,a8];omega)
  | (rw [byT_len,a8];omega)
  | exact inR64 (n:=(a:Int)+1) (by omega) (by omega)
  | (refine Stands.one (a+1:Nat) ⟨by show a+1≤ks.length+1;omega,by show ks.length+1 - (a+1)<ks.length+1 - a;omega,?_⟩
     ((conv=>arg 1;reduce);with_reducible repeat' first | exact ty | refine ta ?_ ?_ | refine ti fun _ => ?_ | refine tf fun _ => ?_ | refine tl ?_)
     all_goals first
      | exact vlf
      | (show byT (ks.length / 8+1) (mpJ F ks (a+1))=(byT (ks.length / 8+1) (mpJ F ks a)).set (((a:Int).tdiv 8).toNat+0) (ibit .or .u8 ((byT (ks.length / 8+1) (mpJ F ks a)).getD (((a:Int).tdiv 8).toNat+0) 0) (ishl .u8 (IntKind.u8.wrap (y3.2.2.1.getD ((a:Int).toNat+0) 0)) ((a:Int).tmod 8)))
         have hcf:cf (fdE F ks) a=Fd.zr∨cf (fdE F ks) a=Fd.un:=hb _ (getD_mem (by rw [(fdE_facts _).1];omega))
         have hw:IntKind.u8.wrap (vi (cf (fdE F ks) a))=vi (cf (fdE F ks) a):=by
          rcases hcf with h | h
          · rw [h];rfl
          · rw [h];rfl
         rw [eV,hw,a8,m8,zu,za (a / 8)]
         exact (mpJ_step (by omega) hcf).symm)))
 · rename_i c hc x hx d p rg hrg y3 hy3 a ha d2
   have hc:Oqw ks c:=hki ▸ hc
   have v1:=hc.cap
   have v2:=hc.len
   change Nat×Fks at x
   obtain ⟨j,y⟩:=x
   obtain ⟨k1,k2⟩:j≤ks.length∧Fkw F ks j y:=hx
   have c1:=k2.cap
   have c2:=k2.len
   rw [hki] at d
   have d:¬ (j:Int)<(ks.length:Int):=nf d
   obtain rfl:j=ks.length:=by omega
   change Nat at a
   have ha:a≤ks.length+1:=ha
   have hy3:Ow (vis (fdE F ks)) y3:=hy3
   have lE:(vis (fdE F ks)).length=ks.length+1:=by rw [zn,(fdE_facts _).1]
   have w1:=hy3.cap
   have w2:=hy3.len
   have a8:(a:Int).tdiv 8=((a / 8:Nat):Int):=(yj a 8).symm
   have m8:(a:Int).tmod 8=((a % 8:Nat):Int):=(zb a 8).symm
   have eK:((ks.length:Int).tdiv 8+1).toNat=ks.length / 8+1:=by rw [eq8];omega
   have d2:¬ (a:Int)<((ks.length+1:Nat):Int):=nf d2
   obtain rfl:a=ks.length+1:=by omega
   refine Ends.one p trivial ?_
   ((conv=>arg 1;reduce);with_reducible repeat' first | exact ty | refine ta ?_ ?_ | refine ti fun _ => ?_ | refine tf fun _ => ?_ | refine tl ?_)
   all_goals first
    | exact vlf
    | (rw [hki,eK])
    | (rw [mpJ_all];rfl)
def fcMOf (K:Kd F):Fc Tryz.prog C0 where
 tg:=.fn 78
 X:=Nat×Nat×Nat×Nat×Nat×Nat×Int
 args:=fun (bF,qF,be,qe,bl,ql,i)=>[.ptr 0 0 0,.int .i64 i]
 mem:=fun (bF,qF,be,qe,bl,ql,i)=>[fld F bF qF,xCk F be qe,lCk F bl ql]
 pre:=fun (bF,qF,be,qe,bl,ql,i)=>i∈K.ld
 alts:=fun (bF,qF,be,qe,bl,ql,i)=>[⟨Nat,fun _=>True,fun _=>.sl 3 0 ((cosV F.m i.toNat).length / 8+1) ((cosV F.m i.toNat).length / 8+1),fun y=>[fld F bF qF,xCk F be qe,lCk F bl ql,⟨y,0,1,true,none,.rows 5 (byT ((cosV F.m i.toNat).length / 8+1) (mpN F (cosV F.m i.toNat)))⟩]⟩]
 mat vs m:=match vs with
  | [.ptr c _ _,.int _ i]=>match nth m c with
    | ⟨b,q,_,_,_,.one (_ :: _ :: .sl e _ _ _ :: .sl l _ _ _ :: _)⟩=>match nth m e,nth m l with
      | ⟨be,qe,_,_,_,_⟩,⟨bl,ql,_,_,_,_⟩=>some ((b,q,be,qe,bl,ql,i),[c,e,l])
    | _=>none
  | _=>none
 ok:=fun (bF,qF,be,qe,bl,ql,i) h=>by
  obtain ⟨h1,h2,h3⟩:=K.ln i h
  have hb:=K.bin i h
  obtain ⟨i,rfl⟩:=yh (show 0≤i by omega)
  have hm:2 ^ F.m≤2 ^ 14:=zj (by omega) F.m14
  exact mof_ok F bF qF be qe bl ql i (by rw [zu] at h3;omega) _ rfl h1 hb
end
end
end Go.Vx
namespace Go.Vx
open Go Go.Proofs
noncomputable section
theorem clm_zero (Q:Nat):clm 0 Q=0:=by unfold clm exL;rfl
theorem clm_bl (P Q:Nat):bl (clm P Q)≤bl P+bl Q:=bl_le.2 (by
 unfold clm
 exact clF_lt _ fun n hn=>by have:=exL_lt n hn;omega)
@[irreducible] def prJ (ms:List Nat) (j:Nat):Nat:=(ms.take j).foldl (fun g m=>clm g m) 1
theorem prJ_zero (ms:List Nat):prJ ms 0=1:=by unfold prJ;rfl
theorem prJ_succ {ms:List Nat} {j:Nat} (h:j<ms.length):prJ ms (j+1)=clm (prJ ms j) (ms.getD j 0):=by
 unfold prJ
 rw [List.take_add_one,uo]
 simp [List.getD,h]
theorem prJ_bl {ms:List Nat} (hb:∀ m∈ms,bl m≤15):∀ j,j≤ms.length→bl (prJ ms j)≤1+15*j
 | 0,_=>by rw [prJ_zero];exact (by decide:bl 1≤1)
 | j+1,h=>by
   rw [prJ_succ (by omega)]
   have h1:=clm_bl (prJ ms j) (ms.getD j 0)
   have h2:=prJ_bl hb j (by omega)
   have h3:=hb (ms.getD j 0) (by rw [zy,zt (show j<ms.length by omega)];exact List.getElem_mem _)
   omega
theorem prJ_ne {ms:List Nat} (h:prJ ms ms.length≠0):∀ d j,j+d=ms.length→prJ ms j≠0
 | 0,j,e=>by rw [show j=ms.length by omega];exact h
 | d+1,j,e=>fun h0=>prJ_ne h d (j+1) (by omega) (by rw [prJ_succ (by omega),h0,clm_zero])
theorem nb_one:nb 1=[1]:=by unfold nb;kernel_rfl
structure rwPj (m:Nat) (r:Rw Int):Prop where
 on:r.on=true
 byt:Byt8 r.l
 num:byN r.l=m
 cap:r.l.length≤r.m
 len:r.l.length≤1000
def rwP (ms:List Nat) (R:List (Rw Int)):Prop:=∀ j,j<ms.length→rwPj (ms.getD j 0) (R.getD j Rw.nil)
variable [Gl]
def fcPmul:Fc Tryz.prog C0 where
 tg:=.fn 80
 X:=Sb×Sb
 args:=fun ((o,b,q,l,i,n,c),(o2,b2,q2,l2,i2,n2,c2))=>[.sl 0 i n c,.sl 1 i2 n2 c2]
 mem:=fun ((o,b,q,l,i,n,c),(o2,b2,q2,l2,i2,n2,c2))=>[⟨b,q,1,false,some o,.rows 5 l⟩,⟨b2,q2,1,false,some o2,.rows 5 l2⟩]
 pre:=fun (s,s2)=>Sb.pre s∧Sb.pre s2∧byN s.lst≠0∧byN s2.lst≠0∧bl (byN s.lst)+bl (byN s2.lst)≤4098
 alts:=fun ((o,b,q,l,i,n,c),(o2,b2,q2,l2,i2,n2,c2))=>[⟨Os,fun y=>Ow (nb (clm (byN ((l.drop i).take n)) (byN ((l2.drop i2).take n2)))) y,fun y=>.tup [.sl 2 0 (nb (clm (byN ((l.drop i).take n)) (byN ((l2.drop i2).take n2)))).length y.2.2.2,.nili],fun y=>[⟨b,q,1,false,some o,.rows 5 l⟩,⟨b2,q2,1,false,some o2,.rows 5 l2⟩,osB true y]⟩]
 mat vs m:=match vs with
  | [.sl a i n c,.sl t i2 n2 c2]=>match nth m a,nth m t with
    | ⟨b,q,_,_,g,.rows 5 l⟩,⟨b2,q2,_,_,g2,.rows 5 l2⟩=>some (((onOf g,b,q,l,i,n,c),(onOf g2,b2,q2,l2,i2,n2,c2)),[a,t])
    | _,_=>none
  | _=>none
 ok:=fun ((o,b,q,l,i,n,c),(o2,b2,q2,l2,i2,n2,c2)) h=>pmul_ok o b q l i n c o2 b2 q2 l2 i2 n2 c2 h.1 h.2.1 _ _ rfl rfl h.2.2.1 h.2.2.2.1 h.2.2.2.2
def Pr4 (ms:List Nat):Inv' C0:=⟨4,Nat×Os,fun x=>[(13,.int .i64 (x.1:Int)),(6,.sl 1 0 (nb (prJ ms x.1)).length x.2.2.2.2),(10,.junk)],fun x m=>match m with
 | a0 :: _=>[a0,osB true x.2]
 | m=>m,fun x=>x.1≤ms.length∧Ow (nb (prJ ms x.1)) x.2,fun x=>ms.length - x.1⟩
set_option maxHeartbeats 4000000 in
theorem product_ok (o:Bool) (b q:Nat) (R:List (Rw Int)) (n c:Nat) (h:n≤R.length) (ho:o=false→n=0∧c=0) (ms:List Nat) (hk:ms.length=n) (hn:n≤40) (hR:rwP ms R) (h15:∀ m∈ms,bl m≤15∧m≠0) (hne:prJ ms ms.length≠0):
 Does (C:=C0) Tryz.prog (.fn 79) [⟨b,q,1,false,some o,.rows 83 R⟩] [.sl 0 0 n c,.fn (.func 80) [] []]
  [⟨Os,fun y=>Ow (nb (prJ ms ms.length)) y,fun y=>.tup [.sl 1 0 (nb (prJ ms ms.length)).length y.2.2.2,.nili],fun y=>[⟨b,q,1,false,some o,.rows 83 R⟩,osB true y]⟩]:=by
 refine loc_fn (P:=Tryz.prog) (E:=⟨[fcPmul],[],29,[],[rdP],[],none⟩) (L:=[Pr4 ms]) mix Tryz.func79 rfl (by kernel_rfl) (by kernel_rfl) rfl rfl ?_
 ((conv=>arg 1;reduce);with_reducible repeat' first | exact ty | refine ta ?_ ?_ | refine ti fun _ => ?_ | refine tf fun _ => ?_ | refine tl ?_)
 all_goals try exact vlf
 · rename_i g1
   refine Stands.one ((0,(true,g1,[1],1)):Nat×Os) ⟨⟨zg _,?_⟩,?_⟩
   · rw [prJ_zero,nb_one]
     exact ⟨rfl,zw _,zw _,(fun h=>nomatch h)⟩
   ((conv=>arg 1;reduce);with_reducible repeat' first | exact ty | refine ta ?_ ?_ | refine ti fun _ => ?_ | refine tf fun _ => ?_ | refine tl ?_)
   all_goals first | exact vlf | (show 1=(nb (prJ ms 0)).length;rw [prJ_zero,nb_one];rfl) | (show (nb (prJ ms 0)).length=1;rw [prJ_zero,nb_one];rfl)
 iterate 4 (focus
  rename_i g1 x hx d
  change Nat×Os at x
  obtain ⟨j,y⟩:=x
  obtain ⟨k1,k2⟩:j≤ms.length∧Ow (nb (prJ ms j)) y:=hx
  have b1:=prJ_bl (fun m hm=>(h15 m hm).1) j k1
  have n1:(nb (prJ ms j)).length≤1000:=by rw [nb_len];unfold nl;omega
  have d:(j:Int)<(n:Int):=ng d
  first
  | exact on_of ho (by omega)
  | exact d
  | (show (j:Int).toNat+0<R.length;omega))
 · rename_i g1 x hx d r hr
   change Nat×Os at x
   obtain ⟨j,y⟩:=x
   obtain ⟨k1,k2⟩:j≤ms.length∧Ow (nb (prJ ms j)) y:=hx
   have b1:=prJ_bl (fun m hm=>(h15 m hm).1) j k1
   have n1:(nb (prJ ms j)).length≤1000:=by rw [nb_len];unfold nl;omega
   have d:(j:Int)<(n:Int):=ng d
   change Rw Int at r
   have hr:R.getD ((j:Int).toNat+0) Rw.nil=r:=hr
   rw [zu,za j] at hr
   have hrp:=hR j (by omega)
   rw [hr] at hrp
   have hm:=h15 (ms.getD j 0) (getD_mem (by omega))
   have w1:byN ((y.2.2.1.drop 0).take (nb (prJ ms j)).length)=prJ ms j:=by rw [zm,k2.eq,byN_nb]
   have w2:byN ((r.l.drop 0).take r.l.length)=ms.getD j 0:=by rw [zm,xb,hrp.num]
   have hpj:=prJ_ne hne (ms.length - j) j (by omega)
   refine ⟨sb1 (N:=prJ ms j) k2 (by omega),⟨by show 0+r.l.length≤r.l.length;omega,hrp.cap,by show r.l.length<100000000;have:=hrp.len;omega,?_,?_⟩,?_,?_,?_⟩
   · intro h0
     have h0:r.on=false:=h0
     rw [hrp.on] at h0
     cases h0
   · show Byt8 ((r.l.drop 0).take r.l.length)
     rw [zm,xb];exact hrp.byt
   · show byN ((y.2.2.1.drop 0).take (nb (prJ ms j)).length)≠0;rw [w1];exact hpj
   · show byN ((r.l.drop 0).take r.l.length)≠0;rw [w2];exact hm.2
   · show bl (byN ((y.2.2.1.drop 0).take (nb (prJ ms j)).length))+bl (byN ((r.l.drop 0).take r.l.length))≤4098
     rw [w1,w2];omega
 iterate 2 (focus
  rename_i g1 x hx d r hr y3 hy3
  change Nat×Os at x
  obtain ⟨j,y⟩:=x
  obtain ⟨k1,k2⟩:j≤ms.length∧Ow (nb (prJ ms j)) y:=hx
  have b1:=prJ_bl (fun m hm=>(h15 m hm).1) j k1
  have n1:(nb (prJ ms j)).length≤1000:=by rw [nb_len];unfold nl;omega
  have d:(j:Int)<(n:Int):=ng d
  change Rw Int at r
  have hr:R.getD ((j:Int).toNat+0) Rw.nil=r:=hr
  rw [zu,za j] at hr
  have hrp:=hR j (by omega)
  rw [hr] at hrp
  have hm:=h15 (ms.getD j 0) (getD_mem (by omega))
  have w1:byN ((y.2.2.1.drop 0).take (nb (prJ ms j)).length)=prJ ms j:=by rw [zm,k2.eq,byN_nb]
  have w2:byN ((r.l.drop 0).take r.l.length)=ms.getD j 0:=by rw [zm,xb,hrp.num]
  have hpj:=prJ_ne hne (ms.length - j) j (by omega)
  have hy3:Ow (nb (clm (byN ((y.2.2.1.drop 0).take (nb (prJ ms j)).length)) (byN ((r.l.drop 0).take r.l.length)))) y3:=hy3
  rw [w1,w2,← prJ_succ (by omega)] at hy3
  first
  | exact inR64 (n:=(j:Int)+1) (by omega) (by omega)
  | (refine Stands.one ((j+1,y3):Nat×Os) ⟨⟨by show j+1≤ms.length;omega,hy3⟩,by show ms.length - (j+1)<ms.length - j;omega,?_⟩
     ((conv=>arg 1;reduce);with_reducible repeat' first | exact ty | refine ta ?_ ?_ | refine ti fun _ => ?_ | refine tf fun _ => ?_ | refine tl ?_)
     all_goals first
      | exact vlf
      | (show (nb (clm (byN ((y.2.2.1.drop 0).take (nb (prJ ms j)).length)) (byN ((r.l.drop 0).take r.l.length)))).length=(nb (prJ ms (j+1))).length;rw [w1,w2,← prJ_succ (by omega)])
      | (show (nb (prJ ms (j+1))).length=(nb (clm (byN ((y.2.2.1.drop 0).take (nb (prJ ms j)).length)) (byN ((r.l.drop 0).take r.l.length)))).length;rw [w1,w2,← prJ_succ (by omega)])))
 · rename_i g1 x hx d
   change Nat×Os at x
   obtain ⟨j,y⟩:=x
   obtain ⟨k1,k2⟩:j≤ms.length∧Ow (nb (prJ ms j)) y:=hx
   have b1:=prJ_bl (fun m hm=>(h15 m hm).1) j k1
   have n1:(nb (prJ ms j)).length≤1000:=by rw [nb_len];unfold nl;omega
   have d:¬ (j:Int)<(n:Int):=nf d
   obtain rfl:j=ms.length:=by omega
   refine Ends.one y k2 ?_
   exact vgo
def fcProduct (ms:List Nat) (hn:ms.length≤40) (h15:∀ m∈ms,bl m≤15∧m≠0) (hne:prJ ms ms.length≠0):Fc Tryz.prog C0 where
 tg:=.fn 79
 X:=Bool×Nat×Nat×List (Rw Int)×Nat×Nat
 args:=fun (o,b,q,R,n,c)=>[.sl 0 0 n c,.fn (.func 80) [] []]
 mem:=fun (o,b,q,R,n,c)=>[⟨b,q,1,false,some o,.rows 83 R⟩]
 pre:=fun (o,b,q,R,n,c)=>n≤R.length∧(o=false→n=0∧c=0)∧ms.length=n∧rwP ms R
 alts:=fun (o,b,q,R,n,c)=>[⟨Os,fun y=>Ow (nb (prJ ms ms.length)) y,fun y=>.tup [.sl 1 0 (nb (prJ ms ms.length)).length y.2.2.2,.nili],fun y=>[⟨b,q,1,false,some o,.rows 83 R⟩,osB true y]⟩]
 mat vs m:=match vs with
  | [.sl s _ n c,.fn _ _ _]=>match nth m s with
    | ⟨b,q,_,_,z,.rows 83 R⟩=>some ((onOf z,b,q,R,n,c),[s])
    | _=>none
  | _=>none
 ok:=fun (o,b,q,R,n,c) h=>product_ok o b q R n c h.1 h.2.1 ms h.2.2.1 (by rw [← h.2.2.1];exact hn) h.2.2.2 h15 hne
end
end Go.Vx
namespace Go.Vx
open Go Go.Proofs
noncomputable section
variable [Gl]
section
variable {F:Gf} (K:Kd F)
abbrev kdM:List Nat:=K.ld.map fun i=>mpN F (cosV F.m i.toNat)
theorem kdM_get {j:Nat} (h:j<K.ld.length):(kdM K).getD j 0=mpN F (cosV F.m (K.ld.getD j 0).toNat):=by
 simp only [zy,List.getElem?_map,zt h,Option.map_some,Option.getD_some]
theorem kdM_15:∀ m∈kdM K,bl m≤15∧m≠0:=fun m hm=>by
 obtain ⟨i,hi,rfl⟩:=List.mem_map.1 hm
 have h1:=(K.ln i hi).1
 have h2:=mpN_bl (F:=F) (cosV F.m i.toNat)
 refine ⟨by omega,fun e => ?_⟩
 rw [e,bl_zero] at h2
 omega
theorem kdM_all:prJ (kdM K) (kdM K).length=K.G:=by
 unfold prJ
 rw [xb,List.foldl_map]
 exact K.gen
theorem kdM_ne:prJ (kdM K) (kdM K).length≠0:=by
 rw [kdM_all]
 intro e
 have:=K.tp
 rw [e,bl_zero] at this
 omega
theorem kd_len:K.ld.length≤40:=by
 have h:=ldR_bd (m:=F.m) (by have:=F.m3;omega) F.m14 K.t
 rw [K.hl] at h
 have:=K.t40
 have h1:K.ld.length≤K.t:=h.1
 omega
theorem kdM_len:(kdM K).length≤40:=by rw [zn];exact kd_len K
structure Gkw (ms:List Nat) (j:Nat) (y:Fks):Prop where
 rw:rwP (ms.take j) y.2.2.2.1
 cap:j≤y.2.2.2.2
 len:y.2.2.2.2≤y.2.2.2.1.length
 nil:y.1=false→j=0∧y.2.2.2.2=0
abbrev gkC (wr:Bool) (y:Fks):Ck C0:=⟨y.2.1,y.2.2.1,1,wr,some y.1,.rows 83 y.2.2.2.1⟩
def Gn6:Inv' C0:=⟨6,Nat×Fks,fun x=>[(25,.int .i64 (x.1:Int)),(9,.sl 4 0 x.1 x.2.2.2.2.2)],fun x m=>match m with
 | a0 :: a1 :: a2 :: a3 :: _=>[a0,a1,a2,a3,gkC true x.2]
 | m=>m,fun x=>x.1≤K.ld.length∧Gkw (kdM K) x.1 x.2,fun x=>K.ld.length - x.1⟩
set_option maxHeartbeats 4000000 in
theorem gen_ok (bF qF be qe bl' ql:Nat):
 Does (C:=C0) Tryz.prog (.fn 52) [fld F bF qF,xCk F be qe,lCk F bl' ql] [.ptr 0 0 0,.int .i64 (K.t:Int)]
  [⟨Os,fun y=>Ow (nb K.G) y,fun y=>.tup [.sl 3 0 (nb K.G).length y.2.2.2,.nili],fun y=>[fld F bF qF,xCk F be qe,lCk F bl' ql,osB true y]⟩]:=by
 have hkl:=kd_len K
 have lM:(kdM K).length=K.ld.length:=zn ..
 have byp:Tryz.prog.types[83].bytes=24:=by kernel_rfl
 refine loc_fn (P:=Tryz.prog) (E:=⟨[fcLeaders K,fcMOf F K,fcProduct (kdM K) (kdM_len K) (kdM_15 K) (kdM_ne K)],[pcM],40,[],[],[mkP],none⟩) (L:=[Gn6 K]) mix Tryz.func52 rfl (by kernel_rfl) (by kernel_rfl) rfl rfl ?_
 ((conv=>arg 1;reduce);with_reducible repeat' first | exact ty | refine ta ?_ ?_ | refine ti fun _ => ?_ | refine tf fun _ => ?_ | refine tl ?_)
 all_goals try exact vlf
 · rename_i c hc
   refine Stands.one ((0,(false,0,0,[],0)):Nat×Fks) ⟨⟨zg _,⟨fun j hj=>absurd hj (by simp),zw _,zw _,fun _=>⟨rfl,rfl⟩⟩⟩,?_⟩
   exact vgo
 iterate 5 (focus
  rename_i c hc x hx d
  have hc:Oqw K.ld c:=hc
  have v1:=hc.cap
  have v2:=hc.len
  change Nat×Fks at x
  obtain ⟨j,y⟩:=x
  obtain ⟨k1,k2⟩:j≤K.ld.length∧Gkw (kdM K) j y:=hx
  have c1:=k2.cap
  have c2:=k2.len
  have d:(j:Int)<(K.ld.length:Int):=ng d
  have eC:c.2.2.2.1.getD ((j:Int).toNat+0) 0=K.ld.getD j 0:=by rw [zu,za j];exact hc.at (by omega)
  have kj:=K.ln (K.ld.getD j 0) (getD_mem (by omega))
  first
  | exact on_of hc.nil (by omega)
  | exact d
  | (show (j:Int).toNat+0<c.2.2.2.1.length;omega)
  | (show c.2.2.2.1.getD ((j:Int).toNat+0) 0∈K.ld;rw [eC];exact getD_mem (by omega)))
 · rename_i c hc x hx d p hp
   show 0+_≤(byT _ _).length
   rw [byT_len]
   omega
 iterate 2 (focus
  rename_i c hc x hx d p hp g1
  have hc:Oqw K.ld c:=hc
  have v1:=hc.cap
  have v2:=hc.len
  change Nat×Fks at x
  obtain ⟨j,y⟩:=x
  obtain ⟨k1,k2⟩:j≤K.ld.length∧Gkw (kdM K) j y:=hx
  have c1:=k2.cap
  have c2:=k2.len
  have d:(j:Int)<(K.ld.length:Int):=ng d
  have eC:c.2.2.2.1.getD ((j:Int).toNat+0) 0=K.ld.getD j 0:=by rw [zu,za j];exact hc.at (by omega)
  have kj:=K.ln (K.ld.getD j 0) (getD_mem (by omega))
  first
  | exact k2.nil
  | (rw [byp];exact ⟨c1,by show 0+y.2.2.2.2≤y.2.2.2.1.length;omega,zw _,by show (j+1)*24≤_;omega⟩))
 iterate 2 (focus
  rename_i c hc x hx d p hp g1 g3 g4 sp k h1 h2
  change List (Rw Int) at sp
  change Nat at p
  have hc:Oqw K.ld c:=hc
  have v1:=hc.cap
  have v2:=hc.len
  change Nat×Fks at x
  obtain ⟨j,y⟩:=x
  obtain ⟨k1,k2⟩:j≤K.ld.length∧Gkw (kdM K) j y:=hx
  have c1:=k2.cap
  have c2:=k2.len
  have d:(j:Int)<(K.ld.length:Int):=ng d
  have eC:c.2.2.2.1.getD ((j:Int).toNat+0) 0=K.ld.getD j 0:=by rw [zu,za j];exact hc.at (by omega)
  have kj:=K.ln (K.ld.getD j 0) (getD_mem (by omega))
  have h1:j+1≤k:=h1
  have h2:k≤j+1+sp.length:=h2
  have tl':(y.2.2.2.1.take j).length=j:=by rw [ze];omega
  first
  | exact inR64 (n:=(j:Int)+1) (by omega) (by omega)
  | (refine Stands.one ((j+1,(true,g3,g4,y.2.2.2.1.take j ++ [⟨true,p,0,(cosV F.m (c.2.2.2.1.getD ((j:Int).toNat+0) 0).toNat).length / 8+1,((byT ((cosV F.m (c.2.2.2.1.getD ((j:Int).toNat+0) 0).toNat).length / 8+1) (mpN F (cosV F.m (c.2.2.2.1.getD ((j:Int).toNat+0) 0).toNat))).drop 0).take ((cosV F.m (c.2.2.2.1.getD ((j:Int).toNat+0) 0).toNat).length / 8+1)⟩] ++ sp,k)):Nat×Fks) ⟨⟨by show j+1≤K.ld.length;omega,⟨fun u hu => ?_,h1,?_,fun h=>nomatch h⟩⟩,by show K.ld.length - (j+1)<K.ld.length - j;omega,?_⟩
     · rw [ze,lM,xa (by omega)] at hu
       have e1:((kdM K).take (j+1)).getD u 0=(kdM K).getD u 0:=tk_get hu
       rw [e1]
       by_cases hj:u=j
       · subst hj
         have e2:∀ r:Rw Int,(y.2.2.2.1.take u ++ [r] ++ sp).getD u Rw.nil=r:=fun r=>by
          rw [vx,zy,xr (by omega),tl',qo]
          rfl
         show rwPj _ ((y.2.2.2.1.take u ++ [_] ++ sp).getD u Rw.nil)
         rw [e2,eC,kdM_get K (by omega)]
         have lb:=byT_len ((cosV F.m (K.ld.getD u 0).toNat).length / 8+1) (mpN F (cosV F.m (K.ld.getD u 0).toNat))
         have et:((byT ((cosV F.m (K.ld.getD u 0).toNat).length / 8+1) (mpN F (cosV F.m (K.ld.getD u 0).toNat))).drop 0).take ((cosV F.m (K.ld.getD u 0).toNat).length / 8+1)=byT ((cosV F.m (K.ld.getD u 0).toNat).length / 8+1) (mpN F (cosV F.m (K.ld.getD u 0).toNat)):=by
          rw [zm,zc (by rw [lb];exact zw _)]
         rw [et]
         refine ⟨rfl,byT_byt _ _,byT_N ?_,?_,?_⟩
         · exact bl_le.1 (by rw [mpN_bl];omega)
         · show (byT _ _).length≤_;rw [lb];exact zw _
         · show (byT _ _).length≤1000;rw [lb];have:=kj.1;omega
       · have e2:∀ r:Rw Int,(y.2.2.2.1.take j ++ [r] ++ sp).getD u Rw.nil=y.2.2.2.1.getD u Rw.nil:=fun r=>by
          rw [vx,zy,yx (by omega),yn (by omega),zy]
         show rwPj _ ((y.2.2.2.1.take j ++ [_] ++ sp).getD u Rw.nil)
         rw [e2]
         have e3:((kdM K).take j).getD u 0=(kdM K).getD u 0:=tk_get (by omega)
         rw [← e3]
         exact k2.rw u (by rw [ze,lM];omega)
     · show k≤(y.2.2.2.1.take j ++ [_] ++ sp).length
       simp only [zx,tl',xy,ur]
       omega
     exact vgo))
 · rename_i c hc x hx d
   have hc:Oqw K.ld c:=hc
   have v1:=hc.cap
   have v2:=hc.len
   change Nat×Fks at x
   obtain ⟨j,y⟩:=x
   obtain ⟨k1,k2⟩:j≤K.ld.length∧Gkw (kdM K) j y:=hx
   have c1:=k2.cap
   have c2:=k2.len
   have d:¬ (j:Int)<(K.ld.length:Int):=nf d
   obtain rfl:j=K.ld.length:=by omega
   refine ⟨by show K.ld.length≤y.2.2.2.1.length;omega,k2.nil,lM,?_⟩
   have:=k2.rw
   rwa [← lM,xb] at this
 · rename_i c hc x hx d y3 hy3
   have hc:Oqw K.ld c:=hc
   have v1:=hc.cap
   have v2:=hc.len
   change Nat×Fks at x
   obtain ⟨j,y⟩:=x
   obtain ⟨k1,k2⟩:j≤K.ld.length∧Gkw (kdM K) j y:=hx
   have c1:=k2.cap
   have c2:=k2.len
   have d:¬ (j:Int)<(K.ld.length:Int):=nf d
   obtain rfl:j=K.ld.length:=by omega
   have hy3:Ow (nb (prJ (kdM K) (kdM K).length)) y3:=hy3
   rw [kdM_all] at hy3
   refine Ends.one y3 hy3 ?_
   ((conv=>arg 1;reduce);with_reducible repeat' first | exact ty | refine ta ?_ ?_ | refine ti fun _ => ?_ | refine tf fun _ => ?_ | refine tl ?_)
   all_goals first
    | exact vlf
    | (rw [kdM_all])
def fcGen:Fc Tryz.prog C0 where
 tg:=.fn 52
 X:=Nat×Nat×Nat×Nat×Nat×Nat
 args _:=[.ptr 0 0 0,.int .i64 (K.t:Int)]
 mem:=fun (bF,qF,be,qe,bl,ql)=>[fld F bF qF,xCk F be qe,lCk F bl ql]
 pre _:=True
 alts:=fun (bF,qF,be,qe,bl,ql)=>[⟨Os,fun y=>Ow (nb K.G) y,fun y=>.tup [.sl 3 0 (nb K.G).length y.2.2.2,.nili],fun y=>[fld F bF qF,xCk F be qe,lCk F bl ql,osB true y]⟩]
 mat vs m:=match vs with
  | [.ptr c _ _,.int _ _]=>match nth m c with
    | ⟨b,q,_,_,_,.one (_ :: _ :: .sl e _ _ _ :: .sl l _ _ _ :: _)⟩=>match nth m e,nth m l with
      | ⟨be,qe,_,_,_,_⟩,⟨bl,ql,_,_,_,_⟩=>some ((b,q,be,qe,bl,ql),[c,e,l])
    | _=>none
  | _=>none
 ok:=fun (bF,qF,be,qe,bl,ql) _=>gen_ok K bF qF be qe bl ql
end
end
end Go.Vx
namespace Go.Vx
open Go Go.Proofs
noncomputable section
section
variable {F:Gf} (K:Kd F)
def nP:Nat:=(K.D+7) / 8
@[irreducible] def gK (k:Nat):Bool:=decide (k<K.D) && K.G.testBit k
theorem gK_lt {k:Nat} (h:k<K.D):gK K k=K.Q.g k:=by unfold gK;rw [decide_eq_true h,zd,K.Qg k h]
theorem gK_out {k:Nat} (h:K.D≤k):gK K k=false:=by unfold gK;rw [decide_eq_false (by omega),yf]
theorem nP_pos:1≤nP K:=by have:=K.D1;unfold nP;omega
theorem nP_lt:nP K<2100:=by
 have h:=K.hD
 have:=F.m14
 have:2 ^ F.m≤2 ^ 14:=zj (by omega) F.m14
 unfold nP;omega
@[irreducible] def rgK (r:Nat→Bool):List Int:=rgB K.D (gK K) (nP K) r
theorem rgK_eq (r:Nat→Bool):rgK K r=rgB K.D (gK K) (nP K) r:=by unfold rgK;rfl
theorem rgK_len (r:Nat→Bool):(rgK K r).length=nP K:=by rw [rgK_eq,rgB_len]
theorem rgK_byt (r:Nat→Bool):Byt8 (rgK K r):=by rw [rgK_eq];exact rgB_byt
theorem rgK_congr {r s:Nat→Bool} (h:∀ k,k<K.D→r k=s k):rgK K r=rgK K s:=by rw [rgK_eq,rgK_eq];exact rgB_congr h
theorem rgK_bt {r:Nat→Bool} {k:Nat} (h:k<K.D):bt (rgK K r) k=r k:=by
 rw [rgK_eq,rgB_bt (by unfold nP;omega),decide_eq_true h,zd]
@[irreducible] def shK (r:Nat→Bool) (i:Nat):List Int:=shB (nP K) r i
@[irreducible] def s0K (r:Nat→Bool):List Int:=sh0 (nP K) r
@[irreducible] def xoK (r:Nat→Bool) (i:Nat):List Int:=xoB (nP K) (fun k=>decide (k<K.D) && (decide (0<k) && r (k - 1))) (gK K) i
theorem shK_len (r:Nat→Bool) (i:Nat):(shK K r i).length=nP K:=by unfold shK;exact shB_len
theorem xoK_len (r:Nat→Bool) (i:Nat):(xoK K r i).length=nP K:=by unfold xoK;exact xoB_len
theorem shK_top (r:Nat→Bool):shK K r (nP K - 1)=by' (nP K) r:=by unfold shK;exact shB_top (nP_pos K)
theorem shK_step {r:Nat→Bool} {i:Nat} (h0:0<i) (h:i<nP K):(shK K r i).set i (ibit .or .u8 (ishl .u8 ((shK K r i).getD i 0) 1) (ishr .u8 ((shK K r i).getD (i - 1) 0) 7))=shK K r (i - 1):=by unfold shK;exact shB_step h0 h
theorem s0K_step {r:Nat→Bool}:(shK K r 0).set 0 (ishl .u8 ((shK K r 0).getD 0 0) 1)=s0K K r:=by unfold shK s0K;exact sh0_step (nP_pos K)
theorem s0K_mask {r:Nat→Bool} (h:0<K.D % 8):(s0K K r).set (nP K - 1) (ibit .and .u8 ((s0K K r).getD (nP K - 1) 0) ((2 ^ (K.D % 8) - 1:Nat):Int))=rgK K fun k=>decide (0<k) && r (k - 1):=by
 rw [rgK_eq];unfold s0K sh0;exact by_mask rfl h
theorem s0K_full {r:Nat→Bool} (h:K.D % 8=0):s0K K r=rgK K fun k=>decide (0<k) && r (k - 1):=by rw [rgK_eq];unfold s0K sh0;exact by_full rfl h
theorem xoK_zero {r:Nat→Bool}:xoK K r 0=rgK K fun k=>decide (0<k) && r (k - 1):=by unfold xoK;rw [rgK_eq,rgB_eq,xoB_zero]
theorem xoK_step {r:Nat→Bool} {i:Nat} {lo:List Int} (hi:i<nP K) (hl:lo.take (nP K)=by' (nP K) (gK K)):(xoK K r i).set i (ibit .xor .u8 ((xoK K r i).getD i 0) (lo.getD i 0))=xoK K r (i+1):=by
 obtain ⟨y,hy,y1,y2⟩:=by_at (b:=gK K) hi
 have e:lo.getD i 0=(y:Int):=by rw [← hy,← hl];simp only [zy,List.getElem?_take,if_pos hi]
 rw [e]
 unfold xoK
 exact xoB_step hi y1 y2
theorem shf_yes {r:Nat→Bool} {b:Bool} (h:(b ^^ r (K.D - 1))=true):xoK K r (nP K)=rgK K (shf K.D (gK K) r b):=by
 rw [rgK_eq,shf_rgB (g:=gK K) (n:=nP K) K.D1 rfl (fun k hk=>gK_out K hk),if_pos h]
 unfold xoK;rfl
theorem shf_no {r:Nat→Bool} {b:Bool} (h:(b ^^ r (K.D - 1))=false):(rgK K fun k=>decide (0<k) && r (k - 1))=rgK K (shf K.D (gK K) r b):=by
 rw [rgK_eq,rgK_eq,shf_rgB (g:=gK K) (n:=nP K) K.D1 rfl (fun k hk=>gK_out K hk),if_neg (by rw [h];exact ve)]
theorem rgK_self {r:Nat→Bool} (hr:∀ k,K.D≤k→r k=false):rgK K r=by' (nP K) r:=by
 rw [rgK_eq,rgB_eq]
 refine by_congr fun k _ => ?_
 by_cases h:k<K.D
 · rw [decide_eq_true h,zd]
 · rw [decide_eq_false h,yf,hr k (by omega)]
theorem mask8 {s:Nat} (h:s<8):IntKind.u8.wrap (ishl .u8 1 (s:Int) - 1)=((2 ^ s - 1:Nat):Int):=by
 have e:ishl .u8 1 (s:Int)=((2 ^ s:Nat):Int):=by
  have:=shl8 1 s (by omega)
  have hp:2 ^ s≤2 ^ 7:=zj (by omega) (by omega)
  rw [qh,tb (by omega)] at this
  exact this
 have hp:=yg s
 have hp:2 ^ s≤2 ^ 7:=zj (by omega) (by omega)
 rw [e,show ((2 ^ s:Nat):Int) - 1=((2 ^ s - 1:Nat):Int) by omega]
 exact wrap_nat (zk (show 2 ^ s - 1<2 ^ 8 by omega) (by decide))
end
variable [Gl]
section
variable {F:Gf} (K:Kd F)
def Sh3 (r:Nat→Bool):Inv' C0:=⟨3,Nat,fun i=>[(8,.int .i64 (i:Int))],fun i m=>match m with
 | [c,t,l]=>[c,⟨t.block,t.base,1,true,t.gl,.rows 5 (shK K r i)⟩,l]
 | m=>m,fun i=>i<nP K,fun i=>i⟩
def Sh10 (r:Nat→Bool):Inv' C0:=⟨1000010,Unit,fun _=>[],fun _ m=>match m with
 | [c,t,l]=>[c,⟨t.block,t.base,1,true,t.gl,.rows 5 (rgK K fun k=>decide (0<k) && r (k - 1))⟩,l]
 | m=>m,fun _=>True,fun _=>0⟩
def Sh12 (r:Nat→Bool):Inv' C0:=⟨12,Nat,fun i=>[(77,.int .i64 (i:Int))],fun i m=>match m with
 | [c,t,l]=>[c,⟨t.block,t.base,1,true,t.gl,.rows 5 (xoK K r i)⟩,l]
 | m=>m,fun i=>i≤nP K,fun i=>nP K - i⟩
set_option maxHeartbeats 8000000 in
theorem shift_ok (b q bR qR cR bL qL:Nat) (oL:Bool) (lo:List Int) (cL:Nat) (bit:Bool) (r:Nat→Bool) (hL:nP K≤lo.length) (hlo:lo.take (nP K)=by' (nP K) (gK K)) (ho:oL=true) (hr:∀ k,K.D≤k→r k=false):
 Does (C:=C0) Tryz.prog (.fn 53) [⟨b,q,263,false,none,.one [.junk,.junk,.junk,.int .i64 (K.D:Int),.junk,.junk,.sl 2 0 (nP K) cL]⟩,⟨bR,qR,1,true,none,.rows 5 (rgK K r)⟩,⟨bL,qL,1,false,some oL,.rows 5 lo⟩] [.ptr 0 0 0,.sl 1 0 (nP K) cR,.int .i64 ((bit.toNat:Nat):Int)]
  [⟨Unit,fun _=>True,fun _=>.tup [],fun _=>[⟨b,q,263,false,none,.one [.junk,.junk,.junk,.int .i64 (K.D:Int),.junk,.junk,.sl 2 0 (nP K) cL]⟩,⟨bR,qR,1,true,none,.rows 5 (rgK K (shf K.D (gK K) r bit))⟩,⟨bL,qL,1,false,some oL,.rows 5 lo⟩]⟩]:=by
 subst ho
 have D1:=K.D1
 have n1:=nP_pos K
 have n2:=nP_lt K
 have nD:nP K=(K.D+7) / 8:=rfl
 have lR:=rgK_len K
 have eD:(K.D:Int) - 1=((K.D - 1:Nat):Int):=by omega
 have q8:((K.D - 1:Nat):Int).tdiv 8=(((K.D - 1) / 8:Nat):Int):=(yj _ 8).symm
 have m8:((K.D - 1:Nat):Int).tmod 8=(((K.D - 1) % 8:Nat):Int):=(zb _ 8).symm
 have d8:(K.D:Int).tmod 8=((K.D % 8:Nat):Int):=(zb _ 8).symm
 have bR':=rgK_byt K r
 have ev:ibit .and .u8 (ishr .u8 ((rgK K r).getD ((((K.D:Int) - 1).tdiv 8).toNat+0) 0) (((K.D:Int) - 1).tmod 8)) 1=(((r (K.D - 1)).toNat:Nat):Int):=by
  have hx:0≤(rgK K r).getD ((K.D - 1) / 8) 0∧(rgK K r).getD ((K.D - 1) / 8) 0<256:=bR' _ (getD_mem (by rw [lR];omega))
  rw [eD,q8,m8,zu,za ((K.D - 1) / 8),bitI hx (yv _ (by omega)),← rgK_bt K (r:=r) (k:=K.D - 1) (by omega)]
  rfl
 have lS:=shK_len K r
 have lX:=xoK_len K r
 refine loc_fn (P:=Tryz.prog) (E:=⟨[],[],94,[(5,[],[.p 0,.p 1,.p 2,.p 3,.p 4,.p 7,.p 8,.p 9,.p 10,.q 5,.p 6,.q 11,.p 12,.p 13,.p 14,.e 15]),(9,[],[.p 0,.p 1,.p 2,.p 3,.p 4,.p 6,.p 7,.p 8,.q 5,.p 9,.p 10,.e 11]),(14,[],[.p 0,.p 1,.p 2,.p 4,.p 5,.p 6,.p 8,.q 3,.q 7,.p 9,.q 10,.p 11,.p 12,.e 13])],[],[],none⟩) (L:=[Sh3 K r,Sh10 K r,Sh12 K r]) mix Tryz.func53 rfl (by kernel_rfl) (by kernel_rfl) rfl rfl ?_
 ((conv=>arg 1;reduce);with_reducible repeat' first | exact ty | refine ta ?_ ?_ | refine ti fun _ => ?_ | refine tf fun _ => ?_ | refine tl ?_)
 all_goals try exact vlf
 · rw [eD,q8];exact inR64 (n:=(((K.D - 1) / 8:Nat):Int)) (by omega) (by omega)
 · rw [eD,q8];omega
 · rw [eD,q8];omega
 · rw [eD,q8,lR];omega
 · rw [eD,m8];omega
 · show inR .i64 (ibit .and .u8 (ishr .u8 ((rgK K r).getD ((((K.D:Int) - 1).tdiv 8).toNat+0) 0) (((K.D:Int) - 1).tmod 8)) 1)
   rw [ev]
   exact inR64 (n:=(((r (K.D - 1)).toNat:Nat):Int)) (by omega) (by have:=ul (r (K.D - 1));omega)
 · refine Stands.one (nP K - 1:Nat) ⟨by show nP K - 1<nP K;omega,?_⟩
   ((conv=>arg 1;reduce);with_reducible repeat' first | exact ty | refine ta ?_ ?_ | refine ti fun _ => ?_ | refine tf fun _ => ?_ | refine tl ?_)
   all_goals first
    | exact vlf
    | (show ((nP K:Int) - 1)=((nP K - 1:Nat):Int);omega)
    | (show shK K r (nP K - 1)=rgK K r;rw [shK_top,rgK_self K hr])
 iterate 10 (focus
  rename_i i hi d
  change Nat at i
  have hi:i<nP K:=hi
  have d:(0:Int)<(i:Int):=ng d
  have e1:((i:Int) - 1).toNat=i - 1:=by omega
  first
  | (refine Stands.one (i - 1:Nat) ⟨by show i - 1<nP K;omega,by show i - 1<i;omega,?_⟩
     ((conv=>arg 1;reduce);with_reducible repeat' first | exact ty | refine ta ?_ ?_ | refine ti fun _ => ?_ | refine tf fun _ => ?_ | refine tl ?_)
     all_goals first
      | exact vlf
      | (show (i:Int) - 1=((i - 1:Nat):Int);omega)
      | (show shK K r (i - 1)=(shK K r i).set ((i:Int).toNat+0) (ibit .or .u8 (ishl .u8 ((shK K r i).getD ((i:Int).toNat+0) 0) 1) (ishr .u8 ((shK K r i).getD (((i:Int) - 1).toNat+0) 0) 7))
         rw [e1,zu,za i,za (i - 1)]
         exact (shK_step K (by omega) hi).symm))
  | (show (i:Int)<(nP K:Int);omega)
  | exact inR64 (n:=(i:Int) - 1) (by omega) (by omega)
  | (show (0:Int)≤(i:Int) - 1;omega)
  | (show (i:Int) - 1<(nP K:Int);omega)
  | (rw [lS];show (i:Int).toNat+0<nP K;omega)
  | (rw [lS];show ((i:Int) - 1).toNat+0<nP K;omega))
 all_goals try (
  rename_i i hi d
  change Nat at i
  have hi:i<nP K:=hi
  rw [lS]
  show 0<nP K
  omega)
 all_goals try (
  rename_i i hi d e
  change Nat at i
  have d:¬ (0:Int)<(i:Int):=nf d
  obtain rfl:i=0:=by omega
  have e:decide ((0:Int)<(K.D:Int).tmod 8)=_:=e
  rw [d8] at e
  first
  | (rw [d8];omega)
  | (rw [zh,lS];show ((nP K:Int) - 1).toNat+0<nP K;omega)
  | (refine Stands.one () ⟨trivial,?_⟩
     ((conv=>arg 1;reduce);with_reducible repeat' first | exact ty | refine ta ?_ ?_ | refine ti fun _ => ?_ | refine tf fun _ => ?_ | refine tl ?_)
     all_goals first
      | exact vlf
      | (show (rgK K fun k=>decide (0<k) && r (k - 1))=((shK K r 0).set 0 (ishl .u8 ((shK K r 0).getD 0 0) 1)).set (((nP K:Int) - 1).toNat+0) (ibit .and .u8 (((shK K r 0).set 0 (ishl .u8 ((shK K r 0).getD 0 0) 1)).getD (((nP K:Int) - 1).toNat+0) 0) (IntKind.u8.wrap (ishl .u8 1 ((K.D:Int).tmod 8) - 1)))
         have e:=ng e
         rw [s0K_step,d8,mask8 (yv _ (by omega)),show ((nP K:Int) - 1).toNat+0=nP K - 1 by omega]
         exact (s0K_mask K (by omega)).symm)
      | (show (rgK K fun k=>decide (0<k) && r (k - 1))=(shK K r 0).set 0 (ishl .u8 ((shK K r 0).getD 0 0) 1)
         have e:=nf e
         rw [s0K_step]
         exact (s0K_full K (by omega)).symm)))
 · rename_i i hi d u hu e
   have e:(!decide (((bit.toNat:Nat):Int)≠ibit .and .u8 (ishr .u8 ((rgK K r).getD ((((K.D:Int) - 1).tdiv 8).toNat+0) 0) (((K.D:Int) - 1).tmod 8)) 1))=true:=e
   rw [ev] at e
   have hx:(bit ^^ r (K.D - 1))=false:=by
    revert e
    cases bit <;> cases r (K.D - 1) <;> simp
   refine Ends.one () trivial ?_
   ((conv=>arg 1;reduce);with_reducible repeat' first | exact ty | refine ta ?_ ?_ | refine ti fun _ => ?_ | refine tf fun _ => ?_ | refine tl ?_)
   all_goals first | exact vlf | (show rgK K (shf K.D (gK K) r bit)=_;rw [← shf_no K hx];rfl) | (show _=rgK K (shf K.D (gK K) r bit);rw [← shf_no K hx];rfl)
 · rename_i i hi d u hu e
   refine Stands.one (0:Nat) ⟨zg _,?_⟩
   ((conv=>arg 1;reduce);with_reducible repeat' first | exact ty | refine ta ?_ ?_ | refine ti fun _ => ?_ | refine tf fun _ => ?_ | refine tl ?_)
   all_goals first | exact vlf | exact xoK_zero K | exact (xoK_zero K).symm
 iterate 8 (focus
  rename_i i hi d u hu e j hj d2
  change Nat at j
  have hj:j≤nP K:=hj
  have d2:(j:Int)<(nP K:Int):=ng d2
  first
  | (refine Stands.one (j+1:Nat) ⟨by show j+1≤nP K;omega,by show nP K - (j+1)<nP K - j;omega,?_⟩
     ((conv=>arg 1;reduce);with_reducible repeat' first | exact ty | refine ta ?_ ?_ | refine ti fun _ => ?_ | refine tf fun _ => ?_ | refine tl ?_)
     all_goals first
      | exact vlf
      | (show xoK K r (j+1)=(xoK K r j).set ((j:Int).toNat+0) (ibit .xor .u8 ((xoK K r j).getD ((j:Int).toNat+0) 0) (lo.getD ((j:Int).toNat+0) 0))
         rw [zu,za j]
         exact (xoK_step K (by omega) hlo).symm))
  | exact d2
  | (rw [lX];show (j:Int).toNat+0<nP K;omega)
  | (show (j:Int).toNat+0<lo.length;omega)
  | exact inR64 (n:=(j:Int)+1) (by omega) (by omega))
 · rename_i i hi d u hu e j hj d2
   change Nat at j
   have hj:j≤nP K:=hj
   have d2:¬ (j:Int)<(nP K:Int):=nf d2
   obtain rfl:j=nP K:=by omega
   have e:(!decide (((bit.toNat:Nat):Int)≠ibit .and .u8 (ishr .u8 ((rgK K r).getD ((((K.D:Int) - 1).tdiv 8).toNat+0) 0) (((K.D:Int) - 1).tmod 8)) 1))=false:=e
   rw [ev] at e
   have hx:(bit ^^ r (K.D - 1))=true:=by
    revert e
    cases bit <;> cases r (K.D - 1) <;> simp
   refine Ends.one () trivial ?_
   ((conv=>arg 1;reduce);with_reducible repeat' first | exact ty | refine ta ?_ ?_ | refine ti fun _ => ?_ | refine tf fun _ => ?_ | refine tl ?_)
   all_goals first | exact vlf | (show rgK K (shf K.D (gK K) r bit)=_;rw [← shf_yes K hx];rfl) | (show _=rgK K (shf K.D (gK K) r bit);rw [← shf_yes K hx];rfl)
end
end
end Go.Vx
namespace Go.Vx
open Go Go.Proofs
noncomputable section
section
variable {F:Gf} (K:Kd F)
theorem rgK_out {r:Nat→Bool} {k:Nat} (h:K.D≤k):bt (rgK K r) k=false:=by
 by_cases hk:k<8*nP K
 · rw [rgK_eq,rgB_bt hk,decide_eq_false (by omega),yf]
 · rw [bt_out (by rw [rgK_len];omega)]
theorem rgK_bt' (r:Nat→Bool) (k:Nat):bt (rgK K r) k=(decide (k<K.D) && r k):=by
 by_cases h:k<K.D
 · rw [rgK_bt K h,decide_eq_true h,zd]
 · rw [rgK_out K (by omega),decide_eq_false h,yf]
@[irreducible] def btI (r:Nat→Bool) (x:Nat) (i:Nat):Nat→Bool:=rgs K.D (gK K) r x.testBit i
theorem btI_zero {r:Nat→Bool} {x:Nat}:rgK K (btI K r x 0)=rgK K r:=by unfold btI;rfl
theorem btI_succ {r:Nat→Bool} {x i:Nat}:rgK K (shf K.D (gK K) (bt (rgK K (btI K r x i))) (x.testBit (7 - i)))=rgK K (btI K r x (i+1)):=by
 refine rgK_congr K fun k hk => ?_
 have:btI K r x (i+1) k=shf K.D (gK K) (btI K r x i) (x.testBit (7 - i)) k:=by unfold btI;rfl
 rw [this]
 exact shf_congr K.D1 (fun k hk=>rgK_bt K hk) hk
@[irreducible] def byK (R:List Int) (x:Int):List Int:=rgK K (btI K (bt R) x.toNat 8)
end
variable [Gl]
section
variable {F:Gf} (K:Kd F)
abbrev cdR (b q cL:Nat):Ck C0:=⟨b,q,263,false,none,.one [.junk,.junk,.junk,.int .i64 (K.D:Int),.junk,.junk,.sl 2 0 (nP K) cL]⟩
abbrev Cr:=Nat×Nat×Nat×Nat×Nat×Nat×Nat×Bool×List Int×Nat×List Int
abbrev Cr.pre:Cr→Prop:=fun (b,q,bR,qR,cR,bL,qL,oL,lo,cL,R)=>nP K≤lo.length∧lo.take (nP K)=by' (nP K) (gK K)∧oL=true∧R=rgK K (bt R)
def fcCShift:Fc Tryz.prog C0 where
 tg:=.fn 53
 X:=Cr×Int
 args:=fun ((b,q,bR,qR,cR,bL,qL,oL,lo,cL,R),z)=>[.ptr 0 0 0,.sl 1 0 (nP K) cR,.int .i64 z]
 mem:=fun ((b,q,bR,qR,cR,bL,qL,oL,lo,cL,R),z)=>[cdR K b q cL,⟨bR,qR,1,true,none,.rows 5 R⟩,⟨bL,qL,1,false,some oL,.rows 5 lo⟩]
 pre:=fun (s,z)=>Cr.pre K s∧0≤z∧z≤1
 alts:=fun ((b,q,bR,qR,cR,bL,qL,oL,lo,cL,R),z)=>[⟨Unit,fun _=>True,fun _=>.tup [],fun _=>[cdR K b q cL,⟨bR,qR,1,true,none,.rows 5 (rgK K (shf K.D (gK K) (bt R) (decide (z=1))))⟩,⟨bL,qL,1,false,some oL,.rows 5 lo⟩]⟩]
 mat vs m:=match vs with
  | [.ptr k _ _,.sl s _ _ cR,.int _ z]=>match nth m k,nth m s with
    | ⟨b,q,_,_,_,.one (_ :: _ :: _ :: _ :: _ :: _ :: .sl w _ _ cL :: _)⟩,⟨bR,qR,_,_,_,.rows 5 R⟩=>match nth m w with
      | ⟨bL,qL,_,_,g,.rows 5 lo⟩=>some (((b,q,bR,qR,cR,bL,qL,onOf g,lo,cL,R),z),[k,s,w])
      | _=>none
    | _,_=>none
  | _=>none
 ok:=fun ((b,q,bR,qR,cR,bL,qL,oL,lo,cL,R),z) h=>by
  obtain ⟨⟨h1,h2,h3,h4⟩,z0,z1⟩:=h
  have hr:∀ k,K.D≤k→bt R k=false:=fun k hk=>by rw [h4];exact rgK_out K hk
  have hz:z=(((decide (z=1)).toNat:Nat):Int):=by
   by_cases e:z=1
   · rw [decide_eq_true e,e];rfl
   · rw [decide_eq_false e];show z=0;omega
  have:=shift_ok K b q bR qR cR bL qL oL lo cL (decide (z=1)) (bt R) h1 h2 h3 hr
  rw [← hz,← h4] at this
  exact this
def Bw1 (r:Nat→Bool) (x:Nat):Inv' C0:=⟨1,Nat,fun i=>[(6,.int .i64 (7 - (i:Int)))],fun i m=>match m with
 | [c,t,l]=>[c,⟨t.block,t.base,1,true,t.gl,.rows 5 (rgK K (btI K r x i))⟩,l]
 | m=>m,fun i=>i≤8,fun i=>8 - i⟩
set_option maxHeartbeats 8000000 in
theorem bitwise_ok (s:Cr) (x:Nat) (hx:x<256) (h:Cr.pre K s):match s with
 | (b,q,bR,qR,cR,bL,qL,oL,lo,cL,R)=>Does (C:=C0) Tryz.prog (.fn 54) [cdR K b q cL,⟨bR,qR,1,true,none,.rows 5 R⟩,⟨bL,qL,1,false,some oL,.rows 5 lo⟩] [.ptr 0 0 0,.sl 1 0 (nP K) cR,.int .u8 (x:Int)]
     [⟨Unit,fun _=>True,fun _=>.tup [],fun _=>[cdR K b q cL,⟨bR,qR,1,true,none,.rows 5 (byK K R (x:Int))⟩,⟨bL,qL,1,false,some oL,.rows 5 lo⟩]⟩]:=by
 obtain ⟨b,q,bR,qR,cR,bL,qL,oL,lo,cL,R⟩:=s
 obtain ⟨h1,h2,h3,h4⟩:=h
 show Does _ _ _ _ _
 have ev:∀ i:Nat,i<8→ibit .and .u8 (ishr .u8 (x:Int) (7 - (i:Int))) 1=(((x.testBit (7 - i)).toNat:Nat):Int):=fun i hi=>by
  rw [show (7:Int) - (i:Int)=((7 - i:Nat):Int) by omega,bitI ⟨by omega,by omega⟩ (by omega),zu]
 refine loc_fn (P:=Tryz.prog) (E:=⟨[fcCShift K],[],19,[],[],[],none⟩) (L:=[Bw1 K (bt R) x]) mix Tryz.func54 rfl (by kernel_rfl) (by kernel_rfl) rfl rfl ?_
 ((conv=>arg 1;reduce);with_reducible repeat' first | exact ty | refine ta ?_ ?_ | refine ti fun _ => ?_ | refine tf fun _ => ?_ | refine tl ?_)
 all_goals try exact vlf
 · refine Stands.one (0:Nat) ⟨zg _,?_⟩
   ((conv=>arg 1;reduce);with_reducible repeat' first | exact ty | refine ta ?_ ?_ | refine ti fun _ => ?_ | refine tf fun _ => ?_ | refine tl ?_)
   all_goals first
    | exact vlf
    | (show rgK K (btI K (bt R) x 0)=R;rw [btI_zero,← h4])
    | (show R=rgK K (btI K (bt R) x 0);rw [btI_zero,← h4])
 all_goals try (
  rename_i i hi d
  change Nat at i
  have hi:i≤8:=hi
  have d:(0:Int)≤7 - (i:Int):=ng d
  first
  | exact d
  | (rw [ev i (by omega)];have:=ul (x.testBit (7 - i));exact inR64 (n:=(((x.testBit (7 - i)).toNat:Nat):Int)) (by omega) (by omega))
  | (have hb:=ul (x.testBit (7 - i))
     refine ⟨⟨h1,h2,h3,?_⟩,?_,?_⟩
     · exact rgK_congr K fun k hk=>(rgK_bt K hk).symm
     · show 0≤ibit .and .u8 (ishr .u8 (x:Int) (7 - (i:Int))) 1
       rw [ev i (by omega)];omega
     · show ibit .and .u8 (ishr .u8 (x:Int) (7 - (i:Int))) 1≤1
       rw [ev i (by omega)];omega))
 all_goals try (
  rename_i i hi d u hu
  change Nat at i
  have hi:i≤8:=hi
  have d:(0:Int)≤7 - (i:Int):=ng d
  have hd:decide (ibit .and .u8 (ishr .u8 (x:Int) (7 - (i:Int))) 1=1)=x.testBit (7 - i):=by
   rw [ev i (by omega)]
   cases x.testBit (7 - i) <;> rfl
  first
  | exact inR64 (n:=7 - (i:Int) - 1) (by omega) (by omega)
  | (refine Stands.one (i+1:Nat) ⟨by show i+1≤8;omega,by show 8 - (i+1)<8 - i;omega,?_⟩
     ((conv=>arg 1;reduce);with_reducible repeat' first | exact ty | refine ta ?_ ?_ | refine ti fun _ => ?_ | refine tf fun _ => ?_ | refine tl ?_)
     all_goals first
      | exact vlf
      | (show 7 - (i:Int) - 1=7 - ((i+1:Nat):Int);omega)
      | (show rgK K (btI K (bt R) x (i+1))=rgK K (shf K.D (gK K) (bt (rgK K (btI K (bt R) x i))) (decide (ibit .and .u8 (ishr .u8 (x:Int) (7 - (i:Int))) 1=1)));rw [hd,btI_succ])))
 · rename_i i hi d
   change Nat at i
   have hi:i≤8:=hi
   have d:¬ (0:Int)≤7 - (i:Int):=nf d
   obtain rfl:i=8:=by omega
   have e:byK K R (x:Int)=rgK K (btI K (bt R) x 8):=by unfold byK;rw [zu]
   refine Ends.one () trivial ?_
   ((conv=>arg 1;reduce);with_reducible repeat' first | exact ty | refine ta ?_ ?_ | refine ti fun _ => ?_ | refine tf fun _ => ?_ | refine tl ?_)
   all_goals first | exact vlf | exact e | exact e.symm | (rw [e];rfl)
def fcBit:Fc Tryz.prog C0 where
 tg:=.fn 54
 X:=Cr×Int
 args:=fun ((b,q,bR,qR,cR,bL,qL,oL,lo,cL,R),z)=>[.ptr 0 0 0,.sl 1 0 (nP K) cR,.int .u8 z]
 mem:=fun ((b,q,bR,qR,cR,bL,qL,oL,lo,cL,R),z)=>[cdR K b q cL,⟨bR,qR,1,true,none,.rows 5 R⟩,⟨bL,qL,1,false,some oL,.rows 5 lo⟩]
 pre:=fun (s,z)=>Cr.pre K s∧0≤z∧z<256
 alts:=fun ((b,q,bR,qR,cR,bL,qL,oL,lo,cL,R),z)=>[⟨Unit,fun _=>True,fun _=>.tup [],fun _=>[cdR K b q cL,⟨bR,qR,1,true,none,.rows 5 (byK K R z)⟩,⟨bL,qL,1,false,some oL,.rows 5 lo⟩]⟩]
 mat vs m:=match vs with
  | [.ptr k _ _,.sl s _ _ cR,.int _ z]=>match nth m k,nth m s with
    | ⟨b,q,_,_,_,.one (_ :: _ :: _ :: _ :: _ :: _ :: .sl w _ _ cL :: _)⟩,⟨bR,qR,_,_,_,.rows 5 R⟩=>match nth m w with
      | ⟨bL,qL,_,_,g,.rows 5 lo⟩=>some (((b,q,bR,qR,cR,bL,qL,onOf g,lo,cL,R),z),[k,s,w])
      | _=>none
    | _,_=>none
  | _=>none
 ok:=fun (s,z) h=>by
  obtain ⟨z,rfl⟩:=yh h.2.1
  have h3:((z:Nat):Int)<256:=h.2.2
  exact bitwise_ok K s z (by omega) h.1
end
end
end Go.Vx
namespace Go.Vx
open Go Go.Proofs
noncomputable section
section
variable {F:Gf} (K:Kd F)
@[irreducible] def tbK (y:Nat):List Int:=rgK K (btI K (fun _=>false) y 8)
end
variable [Gl]
section
variable {F:Gf} (K:Kd F)
end
end
end Go.Vx
namespace Go.Vx
open Go Go.Proofs
noncomputable section
section
variable {F:Gf} (K:Kd F)
@[irreducible] def dvK (P:List Int) (i:Nat):List Int:=rgK K (reg K.D (gK K) (bt P) (8*P.length) (8*i))
@[irreducible] def paK (P:List Int):List Int:=dvK K P P.length
theorem dvK_len (P:List Int) (i:Nat):(dvK K P i).length=nP K:=by unfold dvK;exact rgK_len K _
theorem dvK_self (P:List Int) (i:Nat):dvK K P i=rgK K (bt (dvK K P i)):=by
 unfold dvK
 exact rgK_congr K fun k hk=>(rgK_bt K hk).symm
theorem dvK_zero (P:List Int):dvK K P 0=zo (nP K) 0:=by
 unfold dvK
 rw [rgK_eq,rgB_eq]
 refine byt_ext (by_byt _ _) (fun x hx=>by rw [qa] at hx;omega) (by rw [by_len,xz]) fun k hk => ?_
 rw [by_len] at hk
 rw [by_bt hk,show reg K.D (gK K) (bt P) (8*P.length) (8*0) k=false from rfl,tn]
 unfold bt
 rw [zy,sw]
 split <;> exact (xj _).symm
theorem dvK_succ {P:List Int} {i:Nat} (h:i<P.length):byK K (dvK K P i) (P.getD (P.length - 1 - i) 0)=dvK K P (i+1):=by
 unfold byK btI dvK
 refine rgK_congr K fun k hk => ?_
 rw [show 8*(i+1)=8*i+8 by omega,reg_byte h 8 (zw 8)]
 refine rgs_congr K.D1 (fun j hj=>rgK_bt K hj) (fun j hj => ?_) 8 k hk
 unfold bt
 rw [show (8*(P.length - 1 - i)+j) / 8=P.length - 1 - i by omega,show (8*(P.length - 1 - i)+j) % 8=j by omega]
theorem paK_len (P:List Int):(paK K P).length=nP K:=by unfold paK;exact dvK_len K _ _
theorem paK_byt (P:List Int):Byt8 (paK K P):=by unfold paK dvK;exact rgK_byt K _
theorem paK_bt (P:List Int) (k:Nat):bt (paK K P) k=(decide (k<K.D) && reg K.D (gK K) (bt P) (8*P.length) (8*P.length) k):=by unfold paK dvK;exact rgK_bt' K _ k
end
variable [Gl]
section
variable {F:Gf} (K:Kd F)
abbrev cdA (n b q cL:Nat):Ck C0:=⟨b,q,263,false,none,.one [.junk,.junk,.int .i64 (n:Int),.int .i64 (K.D:Int),.int .i64 (nP K:Int),.junk,.sl 2 0 (nP K) cL]⟩
def Dv5B (P:List Int):Inv' C0:=⟨5,Nat,fun i=>[(9,.int .i64 ((P.length:Int) - 1 - (i:Int)))],fun i m=>match m with
 | [a0,a1,a2,t]=>[a0,a1,a2,⟨t.block,t.base,1,true,none,.rows 5 (dvK K P i)⟩]
 | m=>m,fun i=>i≤P.length,fun i=>P.length - i⟩
section
variable (n b q cL bd qd:Nat) (od:Bool) (ld:List Int) (i0 cd bL qL:Nat) (oL:Bool) (lo:List Int) (P:List Int) (hP:(ld.drop i0).take n=P) (hd:i0+n≤ld.length) (hn:n<100000) (ho:od=false→n=0∧cd=0) (kP:Byt8 P) (hL:nP K≤lo.length) (hlo:lo.take (nP K)=by' (nP K) (gK K)) (hoL:oL=true)
include hP hd hn ho kP hL hlo hoL
set_option maxHeartbeats 8000000 in
theorem divB_ok:Does (C:=C0) Tryz.prog (.fn 47) [cdA K n b q cL,⟨bd,qd,1,false,some od,.rows 5 ld⟩,⟨bL,qL,1,false,some oL,.rows 5 lo⟩] [.ptr 0 0 0,.sl 1 i0 n cd,.fn (.func 54) [.ptr 0 0 0] []]
 [⟨Nat,fun _=>True,fun _=>.tup [.sl 3 0 (nP K) (nP K),.nili],fun y=>[cdA K n b q cL,⟨bd,qd,1,false,some od,.rows 5 ld⟩,⟨bL,qL,1,false,some oL,.rows 5 lo⟩,⟨y,0,1,true,none,.rows 5 (paK K P)⟩]⟩]:=by
 have lP:P.length=n:=by rw [← hP];exact row_len hd
 have pv:∀ j,j<n→ld.getD (j+i0) 0=P.getD j 0:=by rw [← hP];exact row_at
 have n2:=nP_lt K
 have hby:(Tryz.prog.types[5].bytes:Int)=1:=by kernel_rfl
 refine loc_fn (P:=Tryz.prog) (E:=⟨[fcBit K],[],38,[],[],[],none⟩) (L:=[Dv5B K P]) mix Tryz.func47 rfl (by kernel_rfl) (by kernel_rfl) rfl rfl ?_
 ((conv=>arg 1;reduce);with_reducible repeat' first | exact ty | refine ta ?_ ?_ | refine ti fun _ => ?_ | refine tf fun _ => ?_ | refine tl ?_)
 all_goals try exact vlf
 all_goals try (
  exfalso
  rename_i d
  have d:=ng d
  exact d rfl)
 · refine ⟨by omega,by omega,by rw [hby];omega,by omega⟩
 · rename_i g1
   refine Stands.one (0:Nat) ⟨zg _,?_⟩
   ((conv=>arg 1;reduce);with_reducible repeat' first | exact ty | refine ta ?_ ?_ | refine ti fun _ => ?_ | refine tf fun _ => ?_ | refine tl ?_)
   all_goals first
    | exact vlf
    | (show (n:Int) - 1=(P.length:Int) - 1 - ((0:Nat):Int);omega)
    | (show dvK K P 0=zo (nP K) (0:Int);exact dvK_zero K P)
 all_goals try (
  rename_i g1 i hi d
  change Nat at i
  have hi:i≤P.length:=hi
  have d:0≤(P.length:Int) - 1 - (i:Int):=ng d
  have e1:((P.length:Int) - 1 - (i:Int)).toNat=n - 1 - i:=by omega
  have eV:ld.getD (((P.length:Int) - 1 - (i:Int)).toNat+i0) 0=P.getD (P.length - 1 - i) 0:=by rw [e1,pv _ (by omega),lP]
  first
  | exact on_of ho (by omega)
  | exact d
  | (show (P.length:Int) - 1 - (i:Int)<(n:Int);omega)
  | (show ((P.length:Int) - 1 - (i:Int)).toNat+i0<ld.length;omega)
  | (have hb:0≤ld.getD (((P.length:Int) - 1 - (i:Int)).toNat+i0) 0∧ld.getD (((P.length:Int) - 1 - (i:Int)).toNat+i0) 0<256:=by
      rw [eV];exact kP _ (getD_mem (by omega))
     exact ⟨⟨hL,hlo,hoL,dvK_self K P i⟩,hb.1,hb.2⟩))
 all_goals try (
  rename_i g1 i hi d u hu
  change Nat at i
  have hi:i≤P.length:=hi
  have d:0≤(P.length:Int) - 1 - (i:Int):=ng d
  have e1:((P.length:Int) - 1 - (i:Int)).toNat=n - 1 - i:=by omega
  have eV:ld.getD (((P.length:Int) - 1 - (i:Int)).toNat+i0) 0=P.getD (P.length - 1 - i) 0:=by rw [e1,pv _ (by omega),lP]
  first
  | exact inR64 (n:=(P.length:Int) - 1 - (i:Int) - 1) (by omega) (by omega)
  | (refine Stands.one (i+1:Nat) ⟨by show i+1≤P.length;omega,by show P.length - (i+1)<P.length - i;omega,?_⟩
     ((conv=>arg 1;reduce);with_reducible repeat' first | exact ty | refine ta ?_ ?_ | refine ti fun _ => ?_ | refine tf fun _ => ?_ | refine tl ?_)
     all_goals first
      | exact vlf
      | (show (P.length:Int) - 1 - (i:Int) - 1=(P.length:Int) - 1 - ((i+1:Nat):Int);omega)
      | (show dvK K P (i+1)=byK K (dvK K P i) (ld.getD (((P.length:Int) - 1 - (i:Int)).toNat+i0) 0);rw [eV,dvK_succ K (by omega)])))
 · rename_i g1 i hi d
   change Nat at i
   have hi:i≤P.length:=hi
   have d:¬ 0≤(P.length:Int) - 1 - (i:Int):=nf d
   obtain rfl:i=P.length:=by omega
   have e:paK K P=dvK K P P.length:=by unfold paK;rfl
   refine Ends.one g1 trivial ?_
   ((conv=>arg 1;reduce);with_reducible repeat' first | exact ty | refine ta ?_ ?_ | refine ti fun _ => ?_ | refine tf fun _ => ?_ | refine tl ?_)
   all_goals first | exact vlf | exact e | (rw [e];rfl)
end
abbrev DxB:=Nat×Nat×Nat×Nat×Nat×Nat×Bool×List Int×Nat×Nat×Nat×Nat×Bool×List Int
abbrev DxB.pre:DxB→Prop:=fun (n,b,q,cL,bd,qd,od,ld,i0,cd,bL,qL,oL,lo)=>i0+n≤ld.length∧n<100000∧(od=false→n=0∧cd=0)∧Byt8 ((ld.drop i0).take n)∧nP K≤lo.length∧lo.take (nP K)=by' (nP K) (gK K)∧oL=true
def fcDivB:Fc Tryz.prog C0 where
 tg:=.fn 47
 X:=DxB
 args:=fun (n,b,q,cL,bd,qd,od,ld,i0,cd,bL,qL,oL,lo)=>[.ptr 0 0 0,.sl 1 i0 n cd,.fn (.func 54) [.ptr 0 0 0] []]
 mem:=fun (n,b,q,cL,bd,qd,od,ld,i0,cd,bL,qL,oL,lo)=>[cdA K n b q cL,⟨bd,qd,1,false,some od,.rows 5 ld⟩,⟨bL,qL,1,false,some oL,.rows 5 lo⟩]
 pre:=DxB.pre K
 alts:=fun (n,b,q,cL,bd,qd,od,ld,i0,cd,bL,qL,oL,lo)=>[⟨Nat,fun _=>True,fun _=>.tup [.sl 3 0 (nP K) (nP K),.nili],fun y=>[cdA K n b q cL,⟨bd,qd,1,false,some od,.rows 5 ld⟩,⟨bL,qL,1,false,some oL,.rows 5 lo⟩,⟨y,0,1,true,none,.rows 5 (paK K ((ld.drop i0).take n))⟩]⟩]
 mat vs m:=match vs with
  | [.ptr k _ _,.sl s i0 n cd,_]=>match nth m k,nth m s with
    | ⟨b,q,_,_,_,.one (_ :: _ :: _ :: _ :: _ :: _ :: .sl w _ _ cL :: _)⟩,⟨bd,qd,_,_,gd,.rows 5 ld⟩=>match nth m w with
        | ⟨bL,qL,_,_,g,.rows 5 lo⟩=>some ((n,b,q,cL,bd,qd,onOf gd,ld,i0,cd,bL,qL,onOf g,lo),[k,s,w])
        | _=>none
    | _,_=>none
  | _=>none
 ok:=fun (n,b,q,cL,bd,qd,od,ld,i0,cd,bL,qL,oL,lo) h=>divB_ok K n b q cL bd qd od ld i0 cd bL qL oL lo _ rfl h.1 h.2.1 h.2.2.1 h.2.2.2.1 h.2.2.2.2.1 h.2.2.2.2.2.1 h.2.2.2.2.2.2
section
variable (n b q cL bd qd:Nat) (od:Bool) (ld:List Int) (i0 cd bL qL:Nat) (oL:Bool) (lo:List Int) (P:List Int) (hP:(ld.drop i0).take n=P) (hd:i0+n≤ld.length) (hn:n<100000) (ho:od=false→n=0∧cd=0) (kP:Byt8 P) (hL:nP K≤lo.length) (hlo:lo.take (nP K)=by' (nP K) (gK K)) (hoL:oL=true)
include hP hd hn ho kP hL hlo hoL
theorem serial_ok:Does (C:=C0) Tryz.prog (.fn 29) [cdA K n b q cL,⟨bd,qd,1,false,some od,.rows 5 ld⟩,⟨bL,qL,1,false,some oL,.rows 5 lo⟩] [.ptr 0 0 0,.sl 1 i0 n cd]
 [⟨Nat,fun _=>True,fun _=>.tup [.sl 3 0 (nP K) (nP K),.nili],fun y=>[cdA K n b q cL,⟨bd,qd,1,false,some od,.rows 5 ld⟩,⟨bL,qL,1,false,some oL,.rows 5 lo⟩,⟨y,0,1,true,none,.rows 5 (paK K P)⟩]⟩]:=by
 subst hP
 refine loc_fn (P:=Tryz.prog) (E:=⟨[fcDivB K],[],13,[],[],[],none⟩) (L:=[]) mix Tryz.func29 rfl (by kernel_rfl) (by kernel_rfl) rfl rfl ?_
 ((conv=>arg 1;reduce);with_reducible repeat' first | exact ty | refine ta ?_ ?_ | refine ti fun _ => ?_ | refine tf fun _ => ?_ | refine tl ?_)
 all_goals try exact vlf
 · exact ⟨hd,hn,ho,kP,hL,hlo,hoL⟩
 · rename_i y hy
   change Nat at y
   refine Ends.one y trivial ?_
   exact vgo
end
def fcSerial:Fc Tryz.prog C0 where
 tg:=.fn 29
 X:=DxB
 args:=fun (n,b,q,cL,bd,qd,od,ld,i0,cd,bL,qL,oL,lo)=>[.ptr 0 0 0,.sl 1 i0 n cd]
 mem:=fun (n,b,q,cL,bd,qd,od,ld,i0,cd,bL,qL,oL,lo)=>[cdA K n b q cL,⟨bd,qd,1,false,some od,.rows 5 ld⟩,⟨bL,qL,1,false,some oL,.rows 5 lo⟩]
 pre:=DxB.pre K
 alts:=fun (n,b,q,cL,bd,qd,od,ld,i0,cd,bL,qL,oL,lo)=>[⟨Nat,fun _=>True,fun _=>.tup [.sl 3 0 (nP K) (nP K),.nili],fun y=>[cdA K n b q cL,⟨bd,qd,1,false,some od,.rows 5 ld⟩,⟨bL,qL,1,false,some oL,.rows 5 lo⟩,⟨y,0,1,true,none,.rows 5 (paK K ((ld.drop i0).take n))⟩]⟩]
 mat vs m:=match vs with
  | [.ptr k _ _,.sl s i0 n cd]=>match nth m k,nth m s with
    | ⟨b,q,_,_,_,.one (_ :: _ :: _ :: _ :: _ :: _ :: .sl w _ _ cL :: _)⟩,⟨bd,qd,_,_,gd,.rows 5 ld⟩=>match nth m w with
        | ⟨bL,qL,_,_,g,.rows 5 lo⟩=>some ((n,b,q,cL,bd,qd,onOf gd,ld,i0,cd,bL,qL,onOf g,lo),[k,s,w])
        | _=>none
    | _,_=>none
  | _=>none
 ok:=fun (n,b,q,cL,bd,qd,od,ld,i0,cd,bL,qL,oL,lo) h=>serial_ok K n b q cL bd qd od ld i0 cd bL qL oL lo _ rfl h.1 h.2.1 h.2.2.1 h.2.2.2.1 h.2.2.2.2.1 h.2.2.2.2.2.1 h.2.2.2.2.2.2
end
end
end Go.Vx
namespace Go.Vx
open Go Go.Proofs
noncomputable section
variable [Gl]
theorem loop_toList (b:ByteArray):∀ (k i:Nat) (r:List UInt8),i+k=b.size→ByteArray.toList.loop b i r=r.reverse ++ b.data.toList.drop i:=by
 intro k
 induction k with
 | zero=>
   intro i r h
   rw [ByteArray.toList.loop,if_neg (by omega),List.drop_of_length_le (by rw [qj];show b.size≤i;omega),List.append_nil]
 | succ k ih=>
   intro i r h
   rw [ByteArray.toList.loop,if_pos (by omega),ih _ _ (by omega)]
   have hi:i<b.data.toList.length:=by rw [qj];show i<b.size;omega
   rw [List.drop_eq_getElem_cons hi,List.reverse_cons,vx]
   show r.reverse ++ (b.get! i :: _)=_
   congr 2
   have hi2:i<b.data.size:=by rw [← qj];exact hi
   rw [ByteArray.get!,Array.getElem_toList]
   exact getElem!_pos b.data i hi2
theorem toList_data (b:ByteArray):b.toList=b.data.toList:=by
 rw [ByteArray.toList,loop_toList b b.size 0 [] (by omega)];rfl
theorem strOf_toList (l:List Int):(strOf l).toList=l.map fun n=>UInt8.ofNat n.toNat:=by
 rw [toList_data]
 unfold strOf
 suffices ∀ a:ByteArray,(l.foldl (fun r n=>r.push (UInt8.ofNat n.toNat)) a).data.toList=a.data.toList ++ l.map fun n=>UInt8.ofNat n.toNat by
  rw [this];rfl
 induction l with
 | nil=>intro a;simp
 | cons x r ih=>intro a;rw [List.foldl_cons,ih,ByteArray.data_push,Array.toList_push,vw,vx];rfl
theorem u8_inj {a b:Int} (h1:0≤a∧a<256) (h2:0≤b∧b<256) (h:UInt8.ofNat a.toNat=UInt8.ofNat b.toNat):a=b:=by
 have h:=congrArg UInt8.toNat h
 simp only [UInt8.toNat_ofNat'] at h
 omega
theorem map_inj:∀ {a b:List Int},Byt8 a→Byt8 b→a.map (fun n=>UInt8.ofNat n.toNat)=b.map (fun n=>UInt8.ofNat n.toNat)→a=b
 | [],[],_,_,_=>rfl
 | [],_ :: _,_,_,h=>by simp at h
 | _ :: _,[],_,_,h=>by simp at h
 | x :: a,y :: b,h1,h2,h=>by
   simp only [vw,List.cons.injEq] at h
   rw [u8_inj (h1 x xp) (h2 y xp) h.1,map_inj (fun z hz=>h1 z (yw _ hz)) (fun z hz=>h2 z (yw _ hz)) h.2]
theorem str_eq {a b:List Int} (h1:Byt8 a) (h2:Byt8 b):strEq (strOf a) (strOf b)=decide (a=b):=by
 unfold strEq
 rw [strOf_toList,strOf_toList,Bool.eq_iff_iff,beq_iff_eq,decide_eq_true_iff]
 exact ⟨map_inj h1 h2,fun h=>by rw [h]⟩
theorem bytesOf_5 (l:List Int):bytesOf (C0 5) l=l:=by
 unfold bytesOf
 show l.map (fun x=>x)=l
 exact List.map_id' l
@[irreducible] def ieq (a b:List Int):Bool:=decide (a=b)
theorem ieq_iff {a b:List Int}:ieq a b=true↔a=b:=by unfold ieq;exact decide_eq_true_iff
theorem ieq_no {a b:List Int} (h:a≠b):ieq a b=false:=by unfold ieq;exact decide_eq_false h
theorem ieq_yes {a b:List Int} (h:a=b):ieq a b=true:=ieq_iff.2 h
theorem sameBytes_ok (o:Bool) (b q:Nat) (l:List Int) (i n c:Nat) (o2:Bool) (b2 q2:Nat) (l2:List Int) (i2 n2 c2:Nat) (h1:i+n≤l.length) (h2:i2+n2≤l2.length) (ho:o=false→n=0∧c=0) (ho2:o2=false→n2=0∧c2=0) (hb:Byt8 ((l.drop i).take n)) (hb2:Byt8 ((l2.drop i2).take n2)):
 Tells (C:=C0) Tryz.prog (.fn 16) [⟨b,q,1,false,some o,.rows 5 l⟩,⟨b2,q2,1,false,some o2,.rows 5 l2⟩] [.sl 0 i n c,.sl 1 i2 n2 c2] (.bool (.tm (ieq ((l.drop i).take n) ((l2.drop i2).take n2)))):=by
 refine loc_pc (P:=Tryz.prog) (E:=⟨[],[],10,[],[],[],none⟩) (L:=[]) mix Tryz.func16 rfl (by kernel_rfl) (by kernel_rfl) rfl rfl ?_
 ((conv=>arg 1;reduce);with_reducible repeat' first | exact ty | refine ta ?_ ?_ | refine ti fun _ => ?_ | refine tf fun _ => ?_ | refine tl ?_)
 all_goals try exact vlf
 · exact fun h=>⟨(ho h).1,(ho h).1⟩
 · exact ⟨h1,fun x=>⟨x,rfl⟩⟩
 · exact fun h=>⟨(ho2 h).1,(ho2 h).1⟩
 · exact ⟨h2,fun x=>⟨x,rfl⟩⟩
 · show strEq _ _=ieq _ _
   unfold ieq
   rw [bytesOf_5,bytesOf_5]
   exact str_eq hb hb2
def pcSb:Pc Tryz.prog C0 where
 tg:=.fn 16
 X:=(Bool×Nat×Nat×List Int×Nat×Nat×Nat)×(Bool×Nat×Nat×List Int×Nat×Nat×Nat)
 args:=fun ((o,b,q,l,i,n,c),(o2,b2,q2,l2,i2,n2,c2))=>[.sl 0 i n c,.sl 1 i2 n2 c2]
 mem:=fun ((o,b,q,l,i,n,c),(o2,b2,q2,l2,i2,n2,c2))=>[⟨b,q,1,false,some o,.rows 5 l⟩,⟨b2,q2,1,false,some o2,.rows 5 l2⟩]
 pre:=fun ((o,b,q,l,i,n,c),(o2,b2,q2,l2,i2,n2,c2))=>i+n≤l.length∧i2+n2≤l2.length∧(o=false→n=0∧c=0)∧(o2=false→n2=0∧c2=0)∧Byt8 ((l.drop i).take n)∧Byt8 ((l2.drop i2).take n2)
 res:=fun ((o,b,q,l,i,n,c),(o2,b2,q2,l2,i2,n2,c2))=>.bool (.tm (ieq ((l.drop i).take n) ((l2.drop i2).take n2)))
 mat vs m:=match vs with
  | [.sl a i n c,.sl a2 i2 n2 c2]=>match nth m a,nth m a2 with
    | ⟨b,q,_,_,g,.rows 5 l⟩,⟨b2,q2,_,_,g2,.rows 5 l2⟩=>some (((onOf g,b,q,l,i,n,c),(onOf g2,b2,q2,l2,i2,n2,c2)),[a,a2])
    | _,_=>none
  | [.nils,.sl a2 i2 n2 c2]=>match nth m a2 with
    | ⟨b2,q2,_,_,g2,.rows 5 l2⟩=>some (((false,0,0,[],0,0,0),(onOf g2,b2,q2,l2,i2,n2,c2)),[m.length,a2])
    | _=>none
  | [.sl a i n c,.nils]=>match nth m a with
    | ⟨b,q,_,_,g,.rows 5 l⟩=>some (((onOf g,b,q,l,i,n,c),(false,0,0,[],0,0,0)),[a,m.length])
    | _=>none
  | _=>none
 ok:=fun ((o,b,q,l,i,n,c),(o2,b2,q2,l2,i2,n2,c2)) h=>sameBytes_ok o b q l i n c o2 b2 q2 l2 i2 n2 c2 h.1 h.2.1 h.2.2.1 h.2.2.2.1 h.2.2.2.2.1 h.2.2.2.2.2
def Sm {α:Type} (A B:List α) (n:Nat):Inv' C0:=⟨4,Nat,fun i=>[(5,.int .i64 (i:Int))],fun _ m=>m,fun i=>i≤n∧A.take i=B.take i,fun i=>n - i⟩
set_option maxHeartbeats 8000000 in
theorem SameInts_ok (o:Bool) (b q:Nat) (l:List Int) (n c:Nat) (o':Bool) (b' q':Nat) (l':List Int) (n' c':Nat) (h:n≤l.length) (h':n'≤l'.length) (hs:n<140737488355000) (ho:o=false→n=0∧c=0) (ho':o'=false→n'=0∧c'=0):
 Tells (C:=C0) Tryz.prog (.fn 17) [⟨b,q,1,false,some o,.rows 3 l⟩,⟨b',q',1,false,some o',.rows 3 l'⟩] [.sl 0 0 n c,.sl 1 0 n' c'] (.bool (.tm (ieq (l.take n) (l'.take n')))):=by
 refine loc_pc (P:=Tryz.prog) (E:=⟨[],[],29,[],[],[],none⟩) (L:=[Sm (l.take n) (l'.take n') n]) mix Tryz.func17 rfl (by kernel_rfl) (by kernel_rfl) rfl rfl ?_
 ((conv=>arg 1;reduce);with_reducible repeat' first | exact ty | refine ta ?_ ?_ | refine ti fun _ => ?_ | refine tf fun _ => ?_ | refine tl ?_)
 all_goals try exact vlf
 · rename_i h0
   have h0:=ng h0
   refine (ieq_no fun he=>h0 ?_).symm
   have:=congrArg wi he
   rw [tk_len h,tk_len h'] at this
   omega
 · rename_i h0
   refine Stands.one (0:Nat) ⟨⟨zg _,rfl⟩,?_⟩
   exact vgo
 all_goals try (
  rename_i h0 v hv h1
  change Nat at v
  have h0:=nf h0
  have h1:=ng h1
  first
   | (exact on_of ho (by omega))
   | (exact on_of ho' (by omega))
   | (show (v:Int)<(n:Int);omega)
   | (show (v:Int)<(n':Int);omega)
   | (show (v:Int).toNat<l.length;omega)
   | (show (v:Int).toNat<l'.length;omega)
   | (show (v:Int).toNat+0<l.length;omega)
   | (show (v:Int).toNat+0<l'.length;omega))
 · rename_i h0 v hv h1 h2
   change Nat at v
   have h1':=ng h1
   have h0':=nf h0
   refine (ieq_no fun he => ?_).symm
   have hc:=congrArg (fun L:List Int=>L.getD v 0) he
   simp only [tk_get (l:=l) (n:=n) (i:=v) (by omega),tk_get (l:=l') (n:=n') (i:=v) (by omega)] at hc
   have h2:(!decide (l.getD v 0=l'.getD v 0))=true:=h2
   rw [decide_eq_true hc] at h2
   cases h2
 · rename_i h0 v hv h1 h2
   change Nat at v
   have h1':=ng h1
   have h0':=nf h0
   exact inR64 (by show _≤(v:Int)+1;omega) (by show (v:Int)+1≤_;omega)
 · rename_i h0 v hv h1 h2
   change Nat at v
   have h1':=ng h1
   have h0':=nf h0
   have h2:(!decide (l.getD v 0=l'.getD v 0))=false:=h2
   have h2:=ng (by simpa using h2:decide (l.getD v 0=l'.getD v 0)=true)
   refine Stands.one (Nat.succ v) ⟨⟨by show v+1≤n;omega,?_⟩,?_,?_⟩
   · show (l.take n).take (v+1)=(l'.take n').take (v+1)
     rw [take_snoc (d:=0) (by rw [tk_len h];omega),take_snoc (d:=0) (by rw [tk_len h'];omega),tk_get (by omega),tk_get (by omega),h2,hv.2]
   · show n - (v+1)<n - v
     omega
   exact vgo
 · rename_i h0 v hv h1
   change Nat at v
   have h1':=nf h1
   have h0':=nf h0
   have hn:n=n':=by omega
   subst hn
   have he:=hv.2
   have e1:(l.take n).take v=l.take n:=zc (by rw [tk_len h];omega)
   have e2:(l'.take n).take v=l'.take n:=zc (by rw [tk_len h'];omega)
   exact (ieq_yes (e1.symm.trans (he.trans e2))).symm
def pcSameInts:Pc Tryz.prog C0 where
 tg:=.fn 17
 X:=(Bool×Nat×Nat×List Int×Nat×Nat)×(Bool×Nat×Nat×List Int×Nat×Nat)
 args:=fun ((o,b,q,l,n,c),(o',b',q',l',n',c'))=>[.sl 0 0 n c,.sl 1 0 n' c']
 mem:=fun ((o,b,q,l,n,c),(o',b',q',l',n',c'))=>[⟨b,q,1,false,some o,.rows 3 l⟩,⟨b',q',1,false,some o',.rows 3 l'⟩]
 pre:=fun ((o,b,q,l,n,c),(o',b',q',l',n',c'))=>n≤l.length∧n'≤l'.length∧n<140737488355000∧(o=false→n=0∧c=0)∧(o'=false→n'=0∧c'=0)
 res:=fun ((o,b,q,l,n,c),(o',b',q',l',n',c'))=>.bool (.tm (ieq (l.take n) (l'.take n')))
 mat vs m:=match vs with
  | [.sl a 0 n c,.sl a' 0 n' c']=>match nth m a,nth m a' with
    | ⟨b,q,_,_,g,.rows 3 l⟩,⟨b',q',_,_,g',.rows 3 l'⟩=>some (((onOf g,b,q,l,n,c),(onOf g',b',q',l',n',c')),[a,a'])
    | _,_=>none
  | [.nils,.sl a' 0 n' c']=>match nth m a' with
    | ⟨b',q',_,_,g',.rows 3 l'⟩=>some (((false,0,0,[],0,0),(onOf g',b',q',l',n',c')),[m.length,a'])
    | _=>none
  | [.sl a 0 n c,.nils]=>match nth m a with
    | ⟨b,q,_,_,g,.rows 3 l⟩=>some (((onOf g,b,q,l,n,c),(false,0,0,[],0,0)),[a,m.length])
    | _=>none
  | _=>none
 ok:=fun ((o,b,q,l,n,c),(o',b',q',l',n',c')) h=>SameInts_ok o b q l n c o' b' q' l' n' c' h.1 h.2.1 h.2.2.1 h.2.2.2.1 h.2.2.2.2
section
variable {F:Gf} (K:Kd F)
end
end
end Go.Vx
namespace Go.Vx
open Go Go.Proofs
noncomputable section
@[irreducible] def flB (P:List Int) (z:Nat):List Int:=P.set (z / 8) (ibit .xor .u8 (P.getD (z / 8) 0) ((2 ^ (z % 8):Nat):Int))
theorem flB_len {P:List Int} {z:Nat}:(flB P z).length=P.length:=by unfold flB;rw [zh]
theorem flB_byt {P:List Int} {z:Nat} (h:Byt8 P):Byt8 (flB P z):=by
 unfold flB
 by_cases hz:z / 8<P.length
 · obtain ⟨x,hx,x1,_⟩:=byt_at h hz
   have hp:2 ^ (z % 8)≤2 ^ 7:=zj (by omega) (by omega)
   rw [hx,xor8 x1 (by omega)]
   have:=Nat.xor_lt_two_pow (n:=8) x1 (show 2 ^ (z % 8)<2 ^ 8 by omega)
   exact byt_set h ⟨by omega,by omega⟩
 · rw [List.set_eq_of_length_le (by omega)];exact h
theorem flB_bt {P:List Int} {z k:Nat} (h:Byt8 P) (hz:z<8*P.length):bt (flB P z) k=(bt P k ^^ decide (k=z)):=by
 unfold flB
 obtain ⟨x,hx,x1,x2⟩:=byt_at h (show z / 8<P.length by omega)
 have hp:2 ^ (z % 8)≤2 ^ 7:=zj (by omega) (by omega)
 rw [hx,xor8 x1 (by omega),bt_set (by omega),zu,Nat.testBit_xor,vy]
 by_cases hk:k / 8=z / 8
 · rw [if_pos hk,x2 _ (yv _ (by omega)),show 8*(z / 8)+k % 8=k by omega,show decide (z % 8=k % 8)=decide (k=z) from decide_eq_decide.2 (by omega)]
 · rw [if_neg hk,decide_eq_false (by omega),Bool.xor_false]
theorem flB_app {P sp:List Int} {z:Nat} (hz:z / 8<P.length):(P ++ sp).set (z / 8) (ibit .xor .u8 ((P ++ sp).getD (z / 8) 0) ((2 ^ (z % 8):Nat):Int))=flB P z ++ sp:=by
 unfold flB
 rw [tu _ _ hz]
 congr 2
 simp only [zy,yx hz]
theorem shl1_8 {s:Nat} (h:s<8):ishl .u8 1 (s:Int)=((2 ^ s:Nat):Int):=by
 have:=shl8 1 s (by omega)
 have hp:2 ^ s≤2 ^ 7:=zj (by omega) (by omega)
 rw [qh,tb (by omega)] at this
 exact this
@[irreducible] def fpD (D:Nat) (P:List Int) (z:Nat):List Int:=if z<D then P else flB P (z - D)
@[irreducible] def fpP (D:Nat) (Q:List Int) (z:Nat):List Int:=if z<D then flB Q z else Q
theorem fpD_lo {D:Nat} {P:List Int} {z:Nat} (h:z<D):fpD D P z=P:=by unfold fpD;rw [if_pos h]
theorem fpD_hi {D:Nat} {P:List Int} {z:Nat} (h:¬ z<D):fpD D P z=flB P (z - D):=by unfold fpD;rw [if_neg h]
theorem fpP_lo {D:Nat} {Q:List Int} {z:Nat} (h:z<D):fpP D Q z=flB Q z:=by unfold fpP;rw [if_pos h]
theorem fpP_hi {D:Nat} {Q:List Int} {z:Nat} (h:¬ z<D):fpP D Q z=Q:=by unfold fpP;rw [if_neg h]
theorem fpD_len {D:Nat} {P:List Int} {z:Nat}:(fpD D P z).length=P.length:=by unfold fpD;split;exact rfl;exact flB_len
theorem fpP_len {D:Nat} {Q:List Int} {z:Nat}:(fpP D Q z).length=Q.length:=by unfold fpP;split;exact flB_len;exact rfl
variable [Gl]
theorem ow_app {L sp:List Int} {n:Nat} (b:Nat) (hl:L.length=n) (hsp:n=0→sp.length=0):Ow L (ye 0 n,b,L ++ sp,n+sp.length):=by
 refine ⟨List.take_left' rfl,by show L.length≤n+sp.length;omega,by show n+sp.length≤(L ++ sp).length;rw [zx,hl];exact zw _,fun h0 => ?_⟩
 have h0:ye 0 n=false:=h0
 have:¬ 0<n:=fun h=>by rw [show ye 0 n=true by rw [ui];exact h] at h0;cases h0
 have:=hsp (by omega)
 exact ⟨by omega,by show n+sp.length=0;omega⟩
theorem blt_yes {n:Nat} (h:0<n):ye 0 n=true:=by rw [ui];exact h
abbrev cdS (D n p:Nat) (b q:Nat):Ck C0:=⟨b,q,263,false,none,.one [.junk,.junk,.int .i64 (n:Int),.int .i64 (D:Int),.int .i64 (p:Int)]⟩
set_option maxHeartbeats 8000000 in
theorem flip_ok (D n p b q:Nat) (o1:Bool) (b1 q1:Nat) (l1:List Int) (i1 c1:Nat) (o2:Bool) (b2 q2:Nat) (l2:List Int) (i2 c2:Nat) (z:Nat) (h1:i1+n≤l1.length) (hc1:n≤c1) (ho1:o1=false→n=0∧c1=0) (h2:i2+p≤l2.length) (hc2:p≤c2) (ho2:o2=false→p=0∧c2=0)
 (hn:n<100000) (hp:p<100000) (hD:D≤8*p) (hz:z<8*n+D) (P Q:List Int) (hP:(l1.drop i1).take n=P) (hQ:(l2.drop i2).take p=Q):
 Does (C:=C0) Tryz.prog (.fn 25) [cdS D n p b q,⟨b1,q1,1,false,some o1,.rows 5 l1⟩,⟨b2,q2,1,false,some o2,.rows 5 l2⟩] [.ptr 0 0 0,.sl 1 i1 n c1,.sl 2 i2 p c2,.int .i64 (z:Int)]
  [⟨Os×Os,fun y=>Ow (fpD D P z) y.1∧Ow (fpP D Q z) y.2,fun y=>.tup [.sl 3 0 n y.1.2.2.2,.sl 4 0 p y.2.2.2.2,.nili],fun y=>[cdS D n p b q,⟨b1,q1,1,false,some o1,.rows 5 l1⟩,⟨b2,q2,1,false,some o2,.rows 5 l2⟩,osB true y.1,osB true y.2]⟩]:=by
 have lP:P.length=n:=by rw [← hP];exact row_len h1
 have lQ:Q.length=p:=by rw [← hQ];exact row_len h2
 have hby:Tryz.prog.types[5].bytes=1:=by kernel_rfl
 refine loc_fn (P:=Tryz.prog) (E:=⟨[],[pcCoBits],79,[(7,[],[.p 0,.p 1,.p 2,.p 3,.p 5,.p 6,.p 7,.q 4,.p 8,.p 9,.e 10]),(9,[],[.p 0,.p 1,.p 2,.p 3,.p 5,.p 6,.p 7,.q 4,.p 8,.p 9,.e 10])],[],[],none⟩) (L:=[]) mix Tryz.func25 rfl (by kernel_rfl) (by kernel_rfl) rfl rfl ?_
 ((conv=>arg 1;reduce);with_reducible repeat' first | exact ty | refine ta ?_ ?_ | refine ti fun _ => ?_ | refine tf fun _ => ?_ | refine tl ?_)
 all_goals try exact vlf
 · exfalso
   rename_i d0
   simp [SB.val] at d0
 · exact ⟨by omega,by omega,by omega,by omega⟩
 · exfalso
   rename_i d0 d1
   simp only [yd,decide_eq_true_eq,SB.val] at d1
   omega
 · rw [hby];omega
 · intro h0;have:=ho1 h0;omega
 · rw [hby];omega
 · intro h0;have:=ho2 h0;omega
 all_goals (
  rename_i d0 d1 g1 sp1 hs1 g2 sp2 hs2 d2
  change List Int at sp1
  change List Int at sp2
  have hs1:n=0→sp1.length=0:=hs1
  have hs2:p=0→sp2.length=0:=hs2)
 all_goals try (
  have d2:(z:Int)<(D:Int):=ng d2
  have a8:(z:Int).tdiv 8=((z / 8:Nat):Int):=(yj z 8).symm
  have m8:(z:Int).tmod 8=((z % 8:Nat):Int):=(zb z 8).symm
  have lq:((l2.drop i2).take p ++ sp2).length=p+sp2.length:=by rw [zx,hQ,lQ]
  first
  | exact blt_yes (by omega)
  | (rw [a8];exact inR64 (n:=((z / 8:Nat):Int)) (by omega) (by omega))
  | (show (0:Int)≤(z:Int).tdiv 8;rw [a8];omega)
  | (show (0:Int)≤(z:Int).tmod 8;rw [m8];omega)
  | (show (z:Int).tdiv 8<(p:Int);rw [a8];omega)
  | (show ((z:Int).tdiv 8).toNat+0<((l2.drop i2).take p ++ sp2).length;rw [lq,a8];omega)
  | (have eP:fpD D P z=P:=fpD_lo (by omega)
     have eQ:fpP D Q z=flB Q z:=fpP_lo (by omega)
     refine Ends.one ((ye 0 n,g1,P ++ sp1,n+sp1.length),(ye 0 p,g2,flB Q z ++ sp2,p+sp2.length)) ⟨by rw [eP];exact ow_app g1 lP hs1,by rw [eQ];exact ow_app g2 (by rw [flB_len,lQ]) hs2⟩ ?_
     ((conv=>arg 1;reduce);with_reducible repeat' first | exact ty | refine ta ?_ ?_ | refine ti fun _ => ?_ | refine tf fun _ => ?_ | refine tl ?_)
     all_goals first
      | exact vlf
      | (show P ++ sp1=(l1.drop i1).take n ++ sp1;rw [hP])
      | (show flB Q z ++ sp2=((l2.drop i2).take p ++ sp2).set (((z:Int).tdiv 8).toNat+0) (ibit .xor .u8 (((l2.drop i2).take p ++ sp2).getD (((z:Int).tdiv 8).toNat+0) 0) (ishl .u8 1 ((z:Int).tmod 8)))
         rw [hQ,a8,m8,shl1_8 (by omega),zu,za (z / 8),flB_app (by omega)])))
 all_goals (
  have d2:¬ (z:Int)<(D:Int):=nf d2
  have zD:(z:Int) - (D:Int)=((z - D:Nat):Int):=by omega
  have a8:((z - D:Nat):Int).tdiv 8=(((z - D) / 8:Nat):Int):=(yj (z - D) 8).symm
  have m8:((z - D:Nat):Int).tmod 8=(((z - D) % 8:Nat):Int):=(zb (z - D) 8).symm
  have lp:((l1.drop i1).take n ++ sp1).length=n+sp1.length:=by rw [zx,hP,lP]
  first
  | exact blt_yes (by omega)
  | exact inR64 (n:=(z:Int) - (D:Int)) (by omega) (by omega)
  | (rw [zD,a8];exact inR64 (n:=(((z - D) / 8:Nat):Int)) (by omega) (by omega))
  | (show (0:Int)≤((z:Int) - (D:Int)).tdiv 8;rw [zD,a8];omega)
  | (show (0:Int)≤((z:Int) - (D:Int)).tmod 8;rw [zD,m8];omega)
  | (show ((z:Int) - (D:Int)).tdiv 8<(n:Int);rw [zD,a8];omega)
  | (show (((z:Int) - (D:Int)).tdiv 8).toNat+0<((l1.drop i1).take n ++ sp1).length;rw [lp,zD,a8];omega)
  | (have eP:fpD D P z=flB P (z - D):=fpD_hi (by omega)
     have eQ:fpP D Q z=Q:=fpP_hi (by omega)
     refine Ends.one ((ye 0 n,g1,flB P (z - D) ++ sp1,n+sp1.length),(ye 0 p,g2,Q ++ sp2,p+sp2.length)) ⟨by rw [eP];exact ow_app g1 (by rw [flB_len,lP]) hs1,by rw [eQ];exact ow_app g2 lQ hs2⟩ ?_
     ((conv=>arg 1;reduce);with_reducible repeat' first | exact ty | refine ta ?_ ?_ | refine ti fun _ => ?_ | refine tf fun _ => ?_ | refine tl ?_)
     all_goals first
      | exact vlf
      | (show Q ++ sp2=(l2.drop i2).take p ++ sp2;rw [hQ])
      | (show flB P (z - D) ++ sp1=((l1.drop i1).take n ++ sp1).set ((((z:Int) - (D:Int)).tdiv 8).toNat+0) (ibit .xor .u8 (((l1.drop i1).take n ++ sp1).getD ((((z:Int) - (D:Int)).tdiv 8).toNat+0) 0) (ishl .u8 1 (((z:Int) - (D:Int)).tmod 8)))
         rw [hP,zD,a8,m8,shl1_8 (by omega),zu,za ((z - D) / 8),flB_app (by omega)])))
def fcFlip:Fc Tryz.prog C0 where
 tg:=.fn 25
 X:=(Nat×Nat×Nat×Nat×Nat)×(Bool×Nat×Nat×List Int×Nat×Nat)×(Bool×Nat×Nat×List Int×Nat×Nat)×Int
 args:=fun ((D,n,p,b,q),(o1,b1,q1,l1,i1,c1),(o2,b2,q2,l2,i2,c2),z)=>[.ptr 0 0 0,.sl 1 i1 n c1,.sl 2 i2 p c2,.int .i64 z]
 mem:=fun ((D,n,p,b,q),(o1,b1,q1,l1,i1,c1),(o2,b2,q2,l2,i2,c2),z)=>[cdS D n p b q,⟨b1,q1,1,false,some o1,.rows 5 l1⟩,⟨b2,q2,1,false,some o2,.rows 5 l2⟩]
 pre:=fun ((D,n,p,b,q),(o1,b1,q1,l1,i1,c1),(o2,b2,q2,l2,i2,c2),z)=>(i1+n≤l1.length∧n≤c1∧(o1=false→n=0∧c1=0))∧(i2+p≤l2.length∧p≤c2∧(o2=false→p=0∧c2=0))∧n<100000∧p<100000∧D≤8*p∧0≤z∧z<8*(n:Int)+(D:Int)
 alts:=fun ((D,n,p,b,q),(o1,b1,q1,l1,i1,c1),(o2,b2,q2,l2,i2,c2),z)=>[⟨Os×Os,fun y=>Ow (fpD D ((l1.drop i1).take n) z.toNat) y.1∧Ow (fpP D ((l2.drop i2).take p) z.toNat) y.2,fun y=>.tup [.sl 3 0 n y.1.2.2.2,.sl 4 0 p y.2.2.2.2,.nili],fun y=>[cdS D n p b q,⟨b1,q1,1,false,some o1,.rows 5 l1⟩,⟨b2,q2,1,false,some o2,.rows 5 l2⟩,osB true y.1,osB true y.2]⟩]
 mat vs m:=match vs with
  | [.ptr k _ _,.sl s i1 n c1,.sl t i2 p c2,.int _ z]=>match nth m k,nth m s,nth m t with
    | ⟨b,q,_,_,_,.one (_ :: _ :: _ :: .int _ D :: _)⟩,⟨b1,q1,_,_,g1,.rows 5 l1⟩,⟨b2,q2,_,_,g2,.rows 5 l2⟩=>some (((D.toNat,n,p,b,q),(onOf g1,b1,q1,l1,i1,c1),(onOf g2,b2,q2,l2,i2,c2),z),[k,s,t])
    | _,_,_=>none
  | _=>none
 ok:=fun ((D,n,p,b,q),(o1,b1,q1,l1,i1,c1),(o2,b2,q2,l2,i2,c2),z) h=>by
  obtain ⟨⟨a1,a2,a3⟩,⟨b1',b2',b3⟩,h3,h4,h5,h6,h7⟩:=h
  obtain ⟨z,rfl⟩:=yh h6
  exact flip_ok D n p b q o1 b1 q1 l1 i1 c1 o2 b2 q2 l2 i2 c2 z a1 a2 a3 b1' b2' b3 h3 h4 h5 (by omega) _ _ rfl rfl
end
end Go.Vx
namespace Go.Vx
open Go Go.Proofs
noncomputable section
variable [Gl]
section
variable {F:Gf} (K:Kd F)
theorem an_bit {s j:Nat} (hs:s<8) (hj:j<8):(255 - 2 ^ s:Nat).testBit j=!decide (j=s):=by
 have hp:2 ^ s<2 ^ 8:=Nat.pow_lt_pow_right (by omega) hs
 rw [show 255 - 2 ^ s=2 ^ 8 - (2 ^ s+1) by omega,Nat.testBit_two_pow_sub_succ hp,decide_eq_true hj,zd,vy]
 congr 1
 exact decide_eq_decide.2 ⟨Eq.symm,Eq.symm⟩
theorem gen_len:(nb K.G).length=K.D / 8+1:=by rw [nb_len];unfold nl;rw [K.tp];omega
theorem low_gK (sp:List Int):((nb K.G ++ sp).set (K.D / 8) (ibit .andNot .u8 ((nb K.G ++ sp).getD (K.D / 8) 0) ((2 ^ (K.D % 8):Nat):Int))).take (nP K)=by' (nP K) (gK K):=by
 have hg:=gen_len K
 have hn:nP K=(K.D+7) / 8:=rfl
 obtain ⟨x,hx,x1,x2⟩:=byt_at (nb_byt K.G) (show K.D / 8<(nb K.G).length by omega)
 have hp:2 ^ (K.D % 8)≤2 ^ 7:=zj (by omega) (by omega)
 have e0:(nb K.G ++ sp).getD (K.D / 8) 0=(x:Int):=by
  rw [← hx];simp only [zy,yx (show K.D / 8<(nb K.G).length by omega)]
 rw [e0,an8 x1 (by omega),tu _ _ (by omega),List.take_append_of_le_length (by rw [zh];omega)]
 have hv:(x &&& (255 - 2 ^ (K.D % 8)):Nat)<256:=wh Nat.and_le_left x1
 refine byt_ext (fun y hy=>byt_set (nb_byt K.G) ⟨by omega,by omega⟩ y (List.mem_of_mem_take hy)) (by_byt _ _) (by rw [by_len,ze,zh];omega) fun k hk => ?_
 rw [ze,zh] at hk
 have hk:k<8*nP K:=by omega
 rw [by_bt hk]
 have e1:bt (((nb K.G).set (K.D / 8) ((x &&& (255 - 2 ^ (K.D % 8)):Nat):Int)).take (nP K)) k=bt ((nb K.G).set (K.D / 8) ((x &&& (255 - 2 ^ (K.D % 8)):Nat):Int)) k:=by
  unfold bt
  simp only [zy]
  rw [yn (by omega)]
 have eb:∀ k,bt (nb K.G) k=K.G.testBit k:=fun k=>by rw [← byN_bit,byN_nb]
 rw [e1,bt_set (by omega),zu]
 unfold gK
 by_cases h:k / 8=K.D / 8
 · rw [if_pos h,Nat.testBit_and,x2 _ (yv _ (by omega)),an_bit (yv _ (by omega)) (yv _ (by omega)),show 8*(K.D / 8)+k % 8=k by omega,eb]
   by_cases hD:k<K.D
   · rw [decide_eq_true hD,decide_eq_false (show ¬ k % 8=K.D % 8 by omega)];simp
   · by_cases hE:k=K.D
     · rw [decide_eq_false hD,decide_eq_true (show k % 8=K.D % 8 by rw [hE])];simp
     · rw [decide_eq_false hD,bl_out (by rw [K.tp];omega)];simp
 · rw [if_neg h,eb]
   by_cases hD:k<K.D
   · rw [decide_eq_true hD,zd]
   · rw [decide_eq_false hD,bl_out (by rw [K.tp];omega)];rfl
theorem rgK_none (x:Nat):rgK K (btI K (fun _=>false) x 0)=zo (nP K) 0:=by
 rw [btI_zero,rgK_eq,rgB_eq]
 refine byt_ext (by_byt _ _) (fun x hx=>by rw [qa] at hx;omega) (by rw [by_len,xz]) fun k hk => ?_
 rw [by_len] at hk
 rw [by_bt hk,tn]
 unfold bt
 rw [zy,sw]
 split <;> exact (xj _).symm
theorem bit64 {i s:Nat} (hi:i<256) (hs:s<8):ibit .and .i64 (ishr .i64 (i:Int) (s:Int)) 1=(((i.testBit s).toNat:Nat):Int):=by
 have h3:i / 2 ^ s≤i:=Nat.div_le_self _ _
 rw [shr8 .i64 i s (show s≤64 by omega)]
 have e:=and64 (a:=i / 2 ^ s) (b:=1) (by omega) (by omega)
 rw [show ibit .and .i64 ((i / 2 ^ s:Nat):Int) 1=((i / 2 ^ s &&& 1:Nat):Int) from e,Nat.and_one_is_mod,Nat.testBit_eq_decide_div_mod_eq]
 by_cases h9:i / 2 ^ s % 2=1
 · rw [decide_eq_true h9,h9];rfl
 · rw [decide_eq_false h9,show i / 2 ^ s % 2=0 by omega];rfl
abbrev tvC (tv:Nat→Value):List SV:=(xq 256).map fun k=>.val (tv k)
structure TvOK (i:Nat) (tv:Nat→Value) (ys:List (Rw Int)):Prop where
 len:ys.length=i
 on:∀ k,k<i→(ys.getD k Rw.nil).on=true
 row:∀ k,k<i→(ys.getD k Rw.nil).l=tbK K k
 val:∀ k,k<i→tv k=(ys.getD k Rw.nil).val
def Nw19:Inv' C0:=⟨19,Nat×(Nat→Value)×List (Rw Int),fun x=>[(115,.int .i64 (x.1:Int))],fun x m=>match m with
 | ⟨bc,qc,_,_,_,.one (a0 :: a1 :: a2 :: a3 :: a4 :: a5 :: a6 :: _)⟩ :: g :: f :: xx :: l :: ge :: d :: lo :: _=>
   [⟨bc,qc,263,true,none,.one (a0 :: a1 :: a2 :: a3 :: a4 :: a5 :: a6 :: tvC x.2.1)⟩,⟨0,0,1,false,some false,.rows 22 x.2.2⟩,f,xx,l,ge,d,lo]
 | m=>m,fun x=>x.1≤256∧TvOK K x.1 x.2.1 x.2.2,fun x=>256 - x.1⟩
def Nw23:Inv' C0:=⟨23,Nat×Nat,fun x=>[(115,.int .i64 (x.1:Int)),(11,.int .i64 (x.1:Int)),(13,.int .i64 (7 - (x.2:Int)))],fun x m=>match m with
 | c :: g :: f :: xx :: l :: ge :: d :: lo :: r :: _=>[c,g,f,xx,l,ge,d,lo,⟨r.block,r.base,1,true,none,.rows 5 (rgK K (btI K (fun _=>false) x.1 x.2))⟩]
 | m=>m,fun x=>x.1<256∧x.2≤8,fun x=>8 - x.2⟩
set_option maxHeartbeats 16000000 in
theorem cnew_ok (n:Nat) (h1:1≤n) (h2:n≤2048) (h3:8*n+K.D≤nF F):
 Does (C:=C0) Tryz.prog (.fn 27) [] [.int .i64 (F.m:Int),.int .i64 (K.t:Int),.int .i64 (n:Int)]
  [⟨(Nat×(Nat×Nat×Nat)×Os×(Nat×Nat×List Int×Nat))×(Nat→Value)×List (Rw Int),fun y=>TvOK K 256 y.2.1 y.2.2∧nP K≤y.1.2.2.2.2.2.1.length∧y.1.2.2.2.2.2.1.take (nP K)=by' (nP K) (gK K),
    fun _=>.tup [.ptr 0 0 0,.nili],
    fun y=>[⟨y.1.1,0,263,true,none,.one (.ptr 2 0 0 :: .int .i64 (K.t:Int) :: .int .i64 (n:Int) :: .int .i64 (K.D:Int) :: .int .i64 (nP K:Int) :: .sl 5 0 (nb K.G).length y.1.2.2.1.2.2.2 :: .sl 6 0 (nP K) y.1.2.2.2.2.2.2 :: tvC y.2.1)⟩,⟨0,0,1,false,some false,.rows 22 y.2.2⟩,
     ⟨y.1.2.1.1,0,4,true,none,.one [.int .i64 (F.m:Int),.int .i64 (szF F:Int),.sl 3 0 (nF F) (nF F),.sl 4 0 (szF F) (szF F)]⟩,⟨y.1.2.1.2.1,0,1,true,none,.rows 3 (xT F)⟩,⟨y.1.2.1.2.2,0,1,true,none,.rows 3 (lT F)⟩,osB true y.1.2.2.1,
     ⟨y.1.2.2.2.1,y.1.2.2.2.2.1,1,true,none,.rows 5 y.1.2.2.2.2.2.1⟩]⟩]:=by
 obtain ⟨hs,h7,hh⟩:=nF_sz F
 have es:=shl_sz F
 have e1:(szF F:Int) - 1=(nF F:Int):=by omega
 have n1:=nP_pos K
 have n2:=nP_lt K
 have nD:nP K=(K.D+7) / 8:=rfl
 have D1:=K.D1
 have by5:(Tryz.prog.types[5].bytes:Int)=1:=by kernel_rfl
 have by5':Tryz.prog.types[5].bytes=1:=by kernel_rfl
 have q7:((K.D:Int)+7).tdiv 8=(nP K:Int):=by
  rw [show (K.D:Int)+7=((K.D+7:Nat):Int) by omega];exact (yj _ 8).symm
 have q8:(K.D:Int).tdiv 8=((K.D / 8:Nat):Int):=(yj _ 8).symm
 have m8:(K.D:Int).tmod 8=((K.D % 8:Nat):Int):=(zb _ 8).symm
 have gl:=gen_len K
 refine loc_fn (P:=Tryz.prog) (E:=⟨[fcLeast K,fcFNew F,fcGen K,fcCShift K],[],142,[(15,[0],[.p 0,.p 1,.p 2,.p 3,.p 7,.p 8,.p 9,.p 4,.p 5,.p 10,.e 6,.e 11,.p 12,.p 13,.f 14]),(16,[],[.p 0,.p 1,.p 2,.p 4,.p 5,.p 8,.p 9,.p 10,.q 3,.p 6,.q 7,.p 11,.p 12,.e 13]),(17,[],[.p 0,.p 1,.p 2,.p 3,.p 5,.p 6,.p 7,.q 4,.q 8,.p 9,.p 10,.p 11,.e 12])],[],[],some ⟨86,7,mkB⟩⟩) (L:=[Nw19 K,Nw23 K]) mix Tryz.func27 rfl (by kernel_rfl) (by kernel_rfl) rfl rfl ?_
 ((conv=>arg 1;reduce);with_reducible repeat' first | exact ty | refine ta ?_ ?_ | refine ti fun _ => ?_ | refine tf fun _ => ?_ | refine tl ?_)
 all_goals try exact vlf
 · exfalso
   rename_i u hu d0
   simp only [yd,decide_eq_true_eq,SB.val] at d0
   omega
 · exfalso
   rename_i u hu d0 d1
   rw [es,e1] at d1
   have d1:=ng d1
   omega
 · rw [q7,by5];omega
 · rename_i u hu d0 d1 bc fn hfn ge hge g1
   change Os at ge
   have hge:Ow (nb K.G) ge:=hge
   have v1:=hge.cap
   have v2:=hge.len
   rw [q7,by5']
   simp only [xz]
   show 0≤((nP K:Int)+1).toNat∧0+((nP K:Int)+1).toNat≤((nP K:Int)+1).toNat∧0+(nb K.G).length≤ge.2.2.1.length∧(0+(nb K.G).length)*1≤140737488355328
   omega
 · rename_i u hu d0 d1 bc fn hfn ge hge g1
   change Os at ge
   have hge:Ow (nb K.G) ge:=hge
   intro h0
   have:=hge.nil h0
   exact ⟨this.1,this.1⟩
 iterate 2 (focus
  rename_i u hu d0 d1 bc fn hfn ge hge g1 g2 g3 sp k w1 w2
  change Os at ge
  change List Int at sp
  have hge:Ow (nb K.G) ge:=hge
  have w1:(0:Int).toNat+(nb K.G).length≤k:=w1
  have w2:k≤(0:Int).toNat+(nb K.G).length+sp.length:=w2
  have w1:(nb K.G).length≤k:=by have e:(0:Int).toNat=0:=rfl;omega
  have w2:k≤(nb K.G).length+sp.length:=by have e:(0:Int).toNat=0:=rfl;omega
  have eg:(ge.2.2.1.drop 0).take (nb K.G).length=nb K.G:=hge.eq
  show ((K.D:Int).tdiv 8).toNat+0<(((zo (((K.D:Int)+7).tdiv 8+1).toNat (0:Int)).drop 0).take 0 ++ (ge.2.2.1.drop 0).take (nb K.G).length ++ sp).length
  rw [eg,List.take_zero,List.nil_append,zx,q8];omega)
 · rename_i u hu d0 d1 bc fn hfn ge hge g1 g2 g3 sp k w1 w2
   change Os at ge
   change List Int at sp
   have hge:Ow (nb K.G) ge:=hge
   have w1:(0:Int).toNat+(nb K.G).length≤k:=w1
   have w2:k≤(0:Int).toNat+(nb K.G).length+sp.length:=w2
   have w1:(nb K.G).length≤k:=by have e:(0:Int).toNat=0:=rfl;omega
   have w2:k≤(nb K.G).length+sp.length:=by have e:(0:Int).toNat=0:=rfl;omega
   have eg:(ge.2.2.1.drop 0).take (nb K.G).length=nb K.G:=hge.eq
   obtain ⟨lo,hlo⟩:∃ lo,lo=(nb K.G ++ sp).set (K.D / 8) (ibit .andNot .u8 ((nb K.G ++ sp).getD (K.D / 8) 0) ((2 ^ (K.D % 8):Nat):Int)):=⟨_,rfl⟩
   have elo:((((zo (((K.D:Int)+7).tdiv 8+1).toNat (0:Int)).drop 0).take 0 ++ (ge.2.2.1.drop 0).take (nb K.G).length ++ sp).set (((K.D:Int).tdiv 8).toNat+0) (ibit .andNot .u8 ((((zo (((K.D:Int)+7).tdiv 8+1).toNat (0:Int)).drop 0).take 0 ++ (ge.2.2.1.drop 0).take (nb K.G).length ++ sp).getD (((K.D:Int).tdiv 8).toNat+0) 0) (ishl .u8 1 ((K.D:Int).tmod 8))))=lo:=by
    rw [hlo,eg,q8,m8,zu,shl1_8 (yv _ (by omega))]
    rfl
   have tlo:lo.take (nP K)=by' (nP K) (gK K):=by rw [hlo];exact low_gK K sp
   have llo:nP K≤lo.length:=by rw [hlo,zh,zx];omega
   refine Stands.one ((0,(fun _=>.slice none 0 0),[]):Nat×(Nat→Value)×List (Rw Int)) ⟨⟨zg _,⟨rfl,fun k hk=>absurd hk (xi k),fun k hk=>absurd hk (xi k),fun k hk=>absurd hk (xi k)⟩⟩,?_⟩
   exact vgo
 · rw [q7,by5];omega
 · rename_i u hu d0 d1 bc fn hfn ge hge g1 g2 g3 sp k w1 w2 x hx d r
   change Os at ge
   change List Int at sp
   have hge:Ow (nb K.G) ge:=hge
   have w1:(0:Int).toNat+(nb K.G).length≤k:=w1
   have w2:k≤(0:Int).toNat+(nb K.G).length+sp.length:=w2
   have w1:(nb K.G).length≤k:=by have e:(0:Int).toNat=0:=rfl;omega
   have w2:k≤(nb K.G).length+sp.length:=by have e:(0:Int).toNat=0:=rfl;omega
   have eg:(ge.2.2.1.drop 0).take (nb K.G).length=nb K.G:=hge.eq
   obtain ⟨lo,hlo⟩:∃ lo,lo=(nb K.G ++ sp).set (K.D / 8) (ibit .andNot .u8 ((nb K.G ++ sp).getD (K.D / 8) 0) ((2 ^ (K.D % 8):Nat):Int)):=⟨_,rfl⟩
   have elo:((((zo (((K.D:Int)+7).tdiv 8+1).toNat (0:Int)).drop 0).take 0 ++ (ge.2.2.1.drop 0).take (nb K.G).length ++ sp).set (((K.D:Int).tdiv 8).toNat+0) (ibit .andNot .u8 ((((zo (((K.D:Int)+7).tdiv 8+1).toNat (0:Int)).drop 0).take 0 ++ (ge.2.2.1.drop 0).take (nb K.G).length ++ sp).getD (((K.D:Int).tdiv 8).toNat+0) 0) (ishl .u8 1 ((K.D:Int).tmod 8))))=lo:=by
    rw [hlo,eg,q8,m8,zu,shl1_8 (yv _ (by omega))]
    rfl
   have tlo:lo.take (nP K)=by' (nP K) (gK K):=by rw [hlo];exact low_gK K sp
   have llo:nP K≤lo.length:=by rw [hlo,zh,zx];omega
   change Nat×(Nat→Value)×List (Rw Int) at x
   obtain ⟨i,tv,ys⟩:=x
   obtain ⟨k1,k2⟩:i≤256∧TvOK K i tv ys:=hx
   have d:(i:Int)<256:=ng d
   refine Stands.one ((i,0):Nat×Nat) ⟨⟨by show i<256;omega,zg _⟩,?_⟩
   ((conv=>arg 1;reduce);with_reducible repeat' first | exact ty | refine ta ?_ ?_ | refine ti fun _ => ?_ | refine tf fun _ => ?_ | refine tl ?_)
   all_goals first
    | exact vlf
    | (show rgK K (btI K (fun _=>false) i 0)=zo (((K.D:Int)+7).tdiv 8).toNat (0:Int);rw [rgK_none,q7,zu])
 · rename_i u hu d0 d1 bc fn hfn ge hge g1 g2 g3 sp k w1 w2 x hx d r z hz e1 e2 d2
   exact ng d2
 · rename_i u hu d0 d1 bc fn hfn ge hge g1 g2 g3 sp k w1 w2 x hx d r z hz e1 e2 d2
   change Os at ge
   change List Int at sp
   have hge:Ow (nb K.G) ge:=hge
   have w1:(0:Int).toNat+(nb K.G).length≤k:=w1
   have w2:k≤(0:Int).toNat+(nb K.G).length+sp.length:=w2
   have w1:(nb K.G).length≤k:=by have e:(0:Int).toNat=0:=rfl;omega
   have w2:k≤(nb K.G).length+sp.length:=by have e:(0:Int).toNat=0:=rfl;omega
   have eg:(ge.2.2.1.drop 0).take (nb K.G).length=nb K.G:=hge.eq
   obtain ⟨lo,hlo⟩:∃ lo,lo=(nb K.G ++ sp).set (K.D / 8) (ibit .andNot .u8 ((nb K.G ++ sp).getD (K.D / 8) 0) ((2 ^ (K.D % 8):Nat):Int)):=⟨_,rfl⟩
   have elo:((((zo (((K.D:Int)+7).tdiv 8+1).toNat (0:Int)).drop 0).take 0 ++ (ge.2.2.1.drop 0).take (nb K.G).length ++ sp).set (((K.D:Int).tdiv 8).toNat+0) (ibit .andNot .u8 ((((zo (((K.D:Int)+7).tdiv 8+1).toNat (0:Int)).drop 0).take 0 ++ (ge.2.2.1.drop 0).take (nb K.G).length ++ sp).getD (((K.D:Int).tdiv 8).toNat+0) 0) (ishl .u8 1 ((K.D:Int).tmod 8))))=lo:=by
    rw [hlo,eg,q8,m8,zu,shl1_8 (yv _ (by omega))]
    rfl
   have tlo:lo.take (nP K)=by' (nP K) (gK K):=by rw [hlo];exact low_gK K sp
   have llo:nP K≤lo.length:=by rw [hlo,zh,zx];omega
   change Nat×(Nat→Value)×List (Rw Int) at x
   obtain ⟨i,tv,ys⟩:=x
   obtain ⟨k1,k2⟩:i≤256∧TvOK K i tv ys:=hx
   have d:(i:Int)<256:=ng d
   change Nat×Nat at z
   obtain ⟨i',j⟩:=z
   obtain ⟨z1,z2⟩:i'<256∧j≤8:=hz
   have e1:(i:Int)=(i':Int):=e1
   obtain rfl:i=i':=by omega
   have d2:(0:Int)≤7 - (j:Int):=ng d2
   have ev:ibit .and .i64 (ishr .i64 (i:Int) (7 - (j:Int))) 1=(((i.testBit (7 - j)).toNat:Nat):Int):=by
    rw [show (7:Int) - (j:Int)=((7 - j:Nat):Int) by omega];exact bit64 z1 (by omega)
   have hb:=ul (i.testBit (7 - j))
   refine ⟨⟨?_,?_,rfl,rgK_congr K fun k hk=>(rgK_bt K hk).symm⟩,?_,?_⟩
   · show nP K≤wi (List.set _ _ _)
     have e:=elo
     rw [← e] at llo
     exact llo
   · show List.take (nP K) (List.set _ _ _)=_
     have e:=elo
     rw [← e] at tlo
     exact tlo
   · show 0≤ibit .and .i64 (ishr .i64 (i:Int) (7 - (j:Int))) 1
     rw [ev];omega
   · show ibit .and .i64 (ishr .i64 (i:Int) (7 - (j:Int))) 1≤1
     rw [ev];omega
 · rename_i u hu d0 d1 bc fn hfn ge hge g1 g2 g3 sp k w1 w2 x hx d r z hz e1 e2 d2 v hv
   change Nat×(Nat→Value)×List (Rw Int) at x
   obtain ⟨i,tv,ys⟩:=x
   obtain ⟨k1,k2⟩:i≤256∧TvOK K i tv ys:=hx
   have d:(i:Int)<256:=ng d
   change Nat×Nat at z
   obtain ⟨i',j⟩:=z
   obtain ⟨z1,z2⟩:i'<256∧j≤8:=hz
   have e1:(i:Int)=(i':Int):=e1
   obtain rfl:i=i':=by omega
   have d2:(0:Int)≤7 - (j:Int):=ng d2
   have ev:ibit .and .i64 (ishr .i64 (i:Int) (7 - (j:Int))) 1=(((i.testBit (7 - j)).toNat:Nat):Int):=by
    rw [show (7:Int) - (j:Int)=((7 - j:Nat):Int) by omega];exact bit64 z1 (by omega)
   exact inR64 (n:=7 - (j:Int) - 1) (by omega) (by omega)
 · rename_i u hu d0 d1 bc fn hfn ge hge g1 g2 g3 sp k w1 w2 x hx d r z hz e1 e2 d2 v hv
   change Nat×(Nat→Value)×List (Rw Int) at x
   obtain ⟨i,tv,ys⟩:=x
   obtain ⟨k1,k2⟩:i≤256∧TvOK K i tv ys:=hx
   have d:(i:Int)<256:=ng d
   change Nat×Nat at z
   obtain ⟨i',j⟩:=z
   obtain ⟨z1,z2⟩:i'<256∧j≤8:=hz
   have e1:(i:Int)=(i':Int):=e1
   obtain rfl:i=i':=by omega
   have d2:(0:Int)≤7 - (j:Int):=ng d2
   have ev:ibit .and .i64 (ishr .i64 (i:Int) (7 - (j:Int))) 1=(((i.testBit (7 - j)).toNat:Nat):Int):=by
    rw [show (7:Int) - (j:Int)=((7 - j:Nat):Int) by omega];exact bit64 z1 (by omega)
   have hd:decide (ibit .and .i64 (ishr .i64 (i:Int) (7 - (j:Int))) 1=1)=i.testBit (7 - j):=by
    rw [ev]
    cases i.testBit (7 - j) <;> rfl
   refine Stands.one ((i,j+1):Nat×Nat) ⟨⟨z1,by show j+1≤8;omega⟩,by show 8 - (j+1)<8 - j;omega,?_⟩
   ((conv=>arg 1;reduce);with_reducible repeat' first | exact ty | refine ta ?_ ?_ | refine ti fun _ => ?_ | refine tf fun _ => ?_ | refine tl ?_)
   all_goals first
    | exact vlf
    | (show 7 - (j:Int) - 1=7 - ((j+1:Nat):Int);omega)
    | (show rgK K (btI K (fun _=>false) i (j+1))=rgK K (shf K.D (gK K) (bt (rgK K (btI K (fun _=>false) i j))) (decide (ibit .and .i64 (ishr .i64 (i:Int) (7 - (j:Int))) 1=1)));rw [hd,btI_succ])
 · rename_i u hu d0 d1 bc fn hfn ge hge g1 g2 g3 sp k w1 w2 x hx d r z hz e1 e2 d2
   change Nat×(Nat→Value)×List (Rw Int) at x
   obtain ⟨i,tv,ys⟩:=x
   obtain ⟨k1,k2⟩:i≤256∧TvOK K i tv ys:=hx
   have d:(i:Int)<256:=ng d
   change Nat×Nat at z
   obtain ⟨i',j⟩:=z
   obtain ⟨z1,z2⟩:i'<256∧j≤8:=hz
   have e1:(i:Int)=(i':Int):=e1
   obtain rfl:i=i':=by omega
   show (i:Int)<((256:Nat):Int);omega
 · rename_i u hu d0 d1 bc fn hfn ge hge g1 g2 g3 sp k w1 w2 x hx d r z hz e1 e2 d2
   change Nat×(Nat→Value)×List (Rw Int) at x
   obtain ⟨i,tv,ys⟩:=x
   obtain ⟨k1,k2⟩:i≤256∧TvOK K i tv ys:=hx
   have d:(i:Int)<256:=ng d
   change Nat×Nat at z
   obtain ⟨i',j⟩:=z
   obtain ⟨z1,z2⟩:i'<256∧j≤8:=hz
   have e1:(i:Int)=(i':Int):=e1
   obtain rfl:i=i':=by omega
   show i+(0+7)<263;omega
 · rw [q7,rgK_len,zu]
 · rename_i u hu d0 d1 bc fn hfn ge hge g1 g2 g3 sp k w1 w2 x hx d r z hz e1 e2 d2
   change Nat×(Nat→Value)×List (Rw Int) at x
   obtain ⟨i,tv,ys⟩:=x
   obtain ⟨k1,k2⟩:i≤256∧TvOK K i tv ys:=hx
   have d:(i:Int)<256:=ng d
   change Nat×Nat at z
   obtain ⟨i',j⟩:=z
   obtain ⟨z1,z2⟩:i'<256∧j≤8:=hz
   have e1:(i:Int)=(i':Int):=e1
   obtain rfl:i=i':=by omega
   exact inR64 (n:=(i:Int)+1) (by omega) (by omega)
 · rename_i u hu d0 d1 bc fn hfn ge hge g1 g2 g3 sp k w1 w2 x hx d r z hz e1 e2 d2
   change Nat×(Nat→Value)×List (Rw Int) at x
   obtain ⟨i,tv,ys⟩:=x
   obtain ⟨k1,k2⟩:i≤256∧TvOK K i tv ys:=hx
   have d:(i:Int)<256:=ng d
   change Nat×Nat at z
   obtain ⟨i',j⟩:=z
   obtain ⟨z1,z2⟩:i'<256∧j≤8:=hz
   have e1:(i:Int)=(i':Int):=e1
   obtain rfl:i=i':=by omega
   have d2:¬ (0:Int)≤7 - (j:Int):=nf d2
   obtain rfl:j=8:=by omega
   change Nat at r
   obtain ⟨rw',hrw⟩:∃ rw':Rw Int,rw'=⟨true,r,0,(((K.D:Int)+7).tdiv 8).toNat,rgK K (btI K (fun _=>false) i 8)⟩:=⟨_,rfl⟩
   refine Stands.one ((i+1,(fun k=>bif zi (7+k) (i+7) then .slice (some ⟨r,0,none⟩) (((K.D:Int)+7).tdiv 8).toNat (((K.D:Int)+7).tdiv 8).toNat else tv k),ys ++ [⟨true,r,0,(((K.D:Int)+7).tdiv 8).toNat,rgK K (btI K (fun _=>false) i 8)⟩]):Nat×(Nat→Value)×List (Rw Int)) ⟨⟨by show i+1≤256;omega,?_⟩,by show 256 - (i+1)<256 - i;omega,?_⟩
   · show TvOK K (i+1) _ _
     rw [← hrw]
     have ge1:∀ u,u<i→(ys ++ [rw']).getD u Rw.nil=ys.getD u Rw.nil:=fun u hu=>by
      simp only [zy,yx (show u<ys.length by rw [k2.len];exact hu)]
     have ge2:(ys ++ [rw']).getD i Rw.nil=rw':=by
      rw [zy,xr (by rw [k2.len];exact zw _),k2.len,qo];rfl
     refine ⟨by rw [zx,k2.len];rfl,fun u hu => ?_,fun u hu => ?_,fun u hu => ?_⟩
     · by_cases hi:u=i
       · rw [hi,ge2,hrw]
       · rw [ge1 u (by omega)];exact k2.on u (by omega)
     · by_cases hi:u=i
       · rw [hi,ge2,hrw];unfold tbK;rfl
       · rw [ge1 u (by omega)];exact k2.row u (by omega)
     · by_cases hi:u=i
       · have eb:zi (7+u) (i+7)=true:=by rw [hi,Nat.add_comm];exact Nat.beq_refl _
         show (bif zi (7+u) (i+7) then _ else _)=_
         rw [eb,hi,ge2,hrw]
         show Value.slice _ _ _=Value.slice _ _ _
         rw [rgK_len,q7,zu]
       · have eb:zi (7+u) (i+7)=false:=Bool.eq_false_iff.2 fun h=>by have:=zp h;omega
         show (bif zi (7+u) (i+7) then _ else _)=_
         rw [eb,ge1 u (by omega)]
         exact k2.val u (by omega)
   exact vgo
 · rename_i u hu d0 d1 bc fn hfn ge hge g1 g2 g3 sp k w1 w2 x hx d
   change Os at ge
   change List Int at sp
   have hge:Ow (nb K.G) ge:=hge
   have w1:(0:Int).toNat+(nb K.G).length≤k:=w1
   have w2:k≤(0:Int).toNat+(nb K.G).length+sp.length:=w2
   have w1:(nb K.G).length≤k:=by have e:(0:Int).toNat=0:=rfl;omega
   have w2:k≤(nb K.G).length+sp.length:=by have e:(0:Int).toNat=0:=rfl;omega
   have eg:(ge.2.2.1.drop 0).take (nb K.G).length=nb K.G:=hge.eq
   obtain ⟨lo,hlo⟩:∃ lo,lo=(nb K.G ++ sp).set (K.D / 8) (ibit .andNot .u8 ((nb K.G ++ sp).getD (K.D / 8) 0) ((2 ^ (K.D % 8):Nat):Int)):=⟨_,rfl⟩
   have elo:((((zo (((K.D:Int)+7).tdiv 8+1).toNat (0:Int)).drop 0).take 0 ++ (ge.2.2.1.drop 0).take (nb K.G).length ++ sp).set (((K.D:Int).tdiv 8).toNat+0) (ibit .andNot .u8 ((((zo (((K.D:Int)+7).tdiv 8+1).toNat (0:Int)).drop 0).take 0 ++ (ge.2.2.1.drop 0).take (nb K.G).length ++ sp).getD (((K.D:Int).tdiv 8).toNat+0) 0) (ishl .u8 1 ((K.D:Int).tmod 8))))=lo:=by
    rw [hlo,eg,q8,m8,zu,shl1_8 (yv _ (by omega))]
    rfl
   have tlo:lo.take (nP K)=by' (nP K) (gK K):=by rw [hlo];exact low_gK K sp
   have llo:nP K≤lo.length:=by rw [hlo,zh,zx];omega
   change Nat×(Nat→Value)×List (Rw Int) at x
   obtain ⟨i,tv,ys⟩:=x
   obtain ⟨k1,k2⟩:i≤256∧TvOK K i tv ys:=hx
   have d:¬ (i:Int)<256:=nf d
   obtain rfl:i=256:=by omega
   change Nat at bc
   change Nat×Nat×Nat at fn
   refine Ends.one ((bc,fn,ge,(g2,g3,lo,k)),tv,ys) ⟨k2,llo,tlo⟩ ?_
   ((conv=>arg 1;reduce);with_reducible repeat' first | exact ty | refine ta ?_ ?_ | refine ti fun _ => ?_ | refine tf fun _ => ?_ | refine tl ?_)
   all_goals first
    | exact vlf
    | exact q7
    | exact q7.symm
    | exact elo
    | exact elo.symm
    | (rw [q7];rfl)
    | (rw [q7,zu])
    | (rw [← elo];rfl)
end
end
end Go.Vx
namespace Go.Vx
open Go Go.Proofs
noncomputable section
variable [Gl]
end
end Go.Vx
namespace Go.Vx
def lsI (n:Nat):Nat→Nat→List Bool→Nat→List Bool×Nat
 | 0,_,s,d=>(s,d)
 | f+1,x,s,d=>if s.getD x true then (s,d) else lsI n f (2*x % n) (s.set x true) (d+1)
def lsP (n j:Nat) (y:List Bool×List Int×Nat):List Bool×List Int×Nat:=if y.1.getD ((2*j+1) % n) true then y else
    ((lsI n (n+1) ((2*j+1) % n) y.1 y.2.2).1,y.2.1 ++ [2*(j:Int)+1],(lsI n (n+1) ((2*j+1) % n) y.1 y.2.2).2)
def lsQ (n:Nat):Nat→List Bool×List Int×Nat
 | 0=>(zo n false,[],0)
 | j+1=>lsP n j (lsQ n j)
@[irreducible] def lsO (n j:Nat):List Bool×List Int×Nat:=lsQ n j
theorem lsO_zero (n:Nat):lsO n 0=(zo n false,[],0):=by unfold lsO;rfl
theorem lsO_succ (n j:Nat):lsO n (j+1)=if (lsO n j).1.getD ((2*j+1) % n) true then lsO n j else
 ((lsI n (n+1) ((2*j+1) % n) (lsO n j).1 (lsO n j).2.2).1,(lsO n j).2.1 ++ [2*(j:Int)+1],(lsI n (n+1) ((2*j+1) % n) (lsO n j).1 (lsO n j).2.2).2):=by unfold lsO;rfl
def cfB (s:List Bool):Nat:=(s.filter fun b=>!b).length
theorem cfB_le (s:List Bool):cfB s≤s.length:=List.length_filter_le _ _
theorem cfB_set:∀ (s:List Bool) (x:Nat),x<s.length→s.getD x true=false→cfB (s.set x true)+1=cfB s
 | [],_,h,_=>absurd h (xi _)
 | b :: s,0,_,h=>by
   have h:b=false:=h
   subst h
   rfl
 | b :: s,x+1,h,h2=>by
   have ih:=cfB_set s x (Nat.lt_of_succ_lt_succ h) h2
   unfold cfB at ih ⊢
   show ((b :: s.set x true).filter _).length+1=_
   cases b
   · rw [rl rfl,rl rfl,xy,xy,ih]
   · rw [rm (by decide),rm (by decide),ih]
theorem lsI_len (n:Nat):∀ (f x:Nat) (s:List Bool) (d:Nat),(lsI n f x s d).1.length=s.length∧(lsI n f x s d).2≤d+f
 | 0,_,_,_=>⟨rfl,zw _⟩
 | f+1,x,s,d=>by
   unfold lsI
   split
   · exact ⟨rfl,Nat.le_add_right _ _⟩
   · have:=lsI_len n f (2*x % n) (s.set x true) (d+1)
     rw [zh] at this
     exact ⟨this.1,by omega⟩
theorem lsO_facts (n:Nat):∀ j,(lsO n j).1.length=n∧(lsO n j).2.2≤j*(n+1)∧(lsO n j).2.1.length≤j∧∀ x∈(lsO n j).2.1,1≤x∧x<2*(j:Int)+1
 | 0=>by rw [lsO_zero];exact ⟨xz,zg _,zw _,fun x h=>nomatch h⟩
 | j+1=>by
   obtain ⟨h1,h2,h3,h4⟩:=lsO_facts n j
   rw [lsO_succ]
   split
   · exact ⟨h1,by rw [nv];omega,by omega,fun x hx=>by have:=h4 x hx;omega⟩
   · obtain ⟨a,b⟩:=lsI_len n (n+1) ((2*j+1) % n) (lsO n j).1 (lsO n j).2.2
     refine ⟨a.trans h1,xl b (by rw [nv];exact Nat.add_le_add_right h2 _),by show ((lsO n j).2.1 ++ [_]).length≤_;rw [zx];show (lsO n j).2.1.length+1≤_;omega,fun x hx => ?_⟩
     rcases List.mem_append.1 hx with hx | hx
     · have:=h4 x hx;omega
     · rw [wq] at hx;omega
def LsAt (n:Nat) (x:Nat) (s:List Bool) (d:Nat) (R:List Bool×Nat):Prop:=∃ f,cfB s≤f∧lsI n f x s d=R
theorem LsAt.stop {n x:Nat} {s:List Bool} {d:Nat} {R:List Bool×Nat} (h:LsAt n x s d R) (hx:s.getD x true=true):R=(s,d):=by
 obtain ⟨f,_,h⟩:=h
 cases f with
 | zero=>exact h.symm
 | succ f=>unfold lsI at h;rw [if_pos hx] at h;exact h.symm
theorem LsAt.next {n x:Nat} {s:List Bool} {d:Nat} {R:List Bool×Nat} (h:LsAt n x s d R) (hl:x<s.length) (hx:s.getD x true=false):LsAt n (2*x % n) (s.set x true) (d+1) R:=by
 obtain ⟨f,hf,h⟩:=h
 have hc:=cfB_set s x hl hx
 cases f with
 | zero=>omega
 | succ f=>
   unfold lsI at h
   rw [if_neg (by rw [hx];exact ve)] at h
   exact ⟨f,by omega,h⟩
theorem lsI_mono (n:Nat):∀ (f x:Nat) (s:List Bool) (d:Nat),d≤(lsI n f x s d).2
 | 0,_,_,_=>zw _
 | f+1,x,s,d=>by
   unfold lsI
   split
   · exact zw _
   · exact xl (Nat.le_succ d) (lsI_mono n f (2*x % n) (s.set x true) (d+1))
theorem LsAt.le {n x:Nat} {s:List Bool} {d:Nat} {R:List Bool×Nat} (h:LsAt n x s d R) (_:0≤n):d≤R.2:=by
 obtain ⟨f,_,h⟩:=h
 rw [← h]
 exact lsI_mono n f x s d
end Go.Vx
