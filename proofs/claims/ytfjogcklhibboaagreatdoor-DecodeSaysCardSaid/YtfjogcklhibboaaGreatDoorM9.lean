/-
  Round 10: a decoder made for the statements.
  Round 10: what Decode makes of a word: plain facts.
  Round 10: what Decode makes of words with their parity; of the chapter's examples: plain facts.
  Round 10: Decode in one way; the chapter's examples.
  Round 10: Fast and Right where a code lies az it was made.
  Round 10: Decode of a word that is told; what is mended is right.
  Round 10: a word that was right, some of whose bits were turned: plain facts.
  Round 10: Bits of the document's code; Decode of a word that can be mended; one and two turned bits.
  Round 10: Decode of a word that is clean or can be mended, in one way.
  Round 10: how near words are to one another, and what Decode makes of them: plain facts.
  Round 10: Decode in two ways (made, or too much); the document's distance.
  Round 10: the document's coefficients, syndromes, and whether they are clean.
  Round 10: the document's Clean and Flip.
  Round 10: the document's Search.
  Round 10: the document's Locate.
  Round 10: the document's Decode.
  Round 10: the code's distance.
  Conditions: none.
-/
import Derived.Test.YtfjogcklhibboaaGreatDoorM6
import Derived.Test.YtfjogcklhibboaaGreatDoorM7
import Derived.Test.YtfjogcklhibboaaGreatDoorM8
open Bool renaming false_and → yf, false_ne_true → ve, or_eq_false_iff → xf, true_and → zd, xor_false → vv
open Int renaming ofNat_tdiv → yj, ofNat_tmod → zb, tmod_nonneg → qq, toNat → uh, toNat_natCast → zu
open List renaming drop → yp, drop_zero → zm, filter_append → sk, filter_congr → nr, filter_cons_of_neg → rm, filter_cons_of_pos → rl, filter_sublist → qi, getD_eq_getElem?_getD → zy, length → wi, length_append → zx, length_map → zn, length_replicate → xz, map_append → vq, map_congr_left → xm, map_id → ni, map_map → td, map_replicate → qb, mem_cons_of_mem → yw, mem_cons_self → xp, nodup_nil → vk, nodup_range → ox, range → xq, range_succ → uc, replicate → zo, take → yu, take_of_length_le → zc
open Nat renaming add_comm → up, add_zero → za, beq → zi, le_refl → zw, le_trans → xl, mul_comm → xn, zero_le → zg
set_option linter.unusedVariables false
set_option linter.unusedSimpArgs false
set_option linter.unusedSectionVars false
set_option maxRecDepth 100000
namespace Go.Vx
open Go Go.Proofs
noncomputable section
variable [Gl]
section
variable {F:Gf} (K:Kd F)
abbrev MdY:=Lq×NwY×Nat
abbrev mdL (n:Nat) (y:MdY):List (Ck C0):=
 [⟨y.2.2,0,1,true,none,.one [.ptr 1 0 0]⟩,⟨y.2.1.1.1,0,263,true,none,.one (.ptr 2 0 0 :: .int .i64 (K.t:Int) :: .int .i64 (n:Int) :: .int .i64 (K.D:Int) :: .int .i64 (nP K:Int) :: .junk :: .sl 6 0 (nP K) y.2.1.1.2.2.2.2.2.2 :: tvC y.2.1.2.1)⟩,
  ⟨y.2.1.1.2.1.1,0,4,true,none,.one [.int .i64 (F.m:Int),.int .i64 (szF F:Int),.sl 3 0 (nF F) (nF F),.sl 5 0 (szF F) (szF F)]⟩,⟨y.2.1.1.2.1.2.1,0,1,true,none,.rows 3 (xT F)⟩,⟨0,0,1,false,some false,.rows 22 y.2.1.2.2⟩,⟨y.2.1.1.2.1.2.2,0,1,true,none,.rows 3 (lT F)⟩,
  ⟨y.2.1.1.2.2.2.1,y.2.1.1.2.2.2.2.1,1,true,none,.rows 5 y.2.1.1.2.2.2.2.2.1⟩,obC true y.1.2]
abbrev mdR (n:Nat) (y:MdY):SV:=.tup [.ptr 0 0 0,xcV (F.m:Int) (K.t:Int) (n:Int) 7 y.1.1.length y.1.2.2.2.2.2 (K.D:Int),.bool .t]
abbrev MdOK (y:MdY):Prop:=Oqw y.1.1 y.1.2∧NwOK K y.2.1
end
theorem does_pick {P:Program} {tg:Tg} {mem:List (Ck C0)} {args:List SV} {alts:List (Alt C0)} (A:Alt C0) (h:Does P tg mem args alts) (hn:∀ B∈alts,(∀ y,¬ B.post y)∨B=A):Does P tg mem args [A]:=by
 intro w hm
 obtain ⟨f,vals,hr,hc⟩:=h w hm
 refine ⟨f,vals,hr,hc.mono ?_⟩
 rintro e w' ⟨r,m',he,hm',hx,B,hB,y,hp,h1⟩
 rcases hn B hB with h2 | h2
 · exact absurd hp (h2 y)
 · subst h2
   exact ⟨r,m',he,hm',hx,B,.head _,y,hp,h1⟩
def fcRnewF (F:Gf):Fc Tryz.prog C0 where
 tg:=.fn 30
 X:=Nat×Nat
 args:=fun (t,n)=>[.int .i64 (F.m:Int),.int .i64 (t:Int),.int .i64 (n:Int)]
 mem _:=[]
 pre:=fun (t,n)=>(1≤t∧t≤40∧(lsO (nF F) t).2.2<nF F)∧(1≤n∧n≤2000)∧8*n+(lsO (nF F) t).2.2≤nF F
 alts:=fun (t,n)=>[⟨Lq,fun y=>Oqw y.1 y.2∧8*n+(lsO (nF F) t).2.2≤nF F,fun y=>.tup [xcV (F.m:Int) (t:Int) (n:Int) 0 y.1.length y.2.2.2.2.2 ((lsO (nF F) t).2.2:Int),.int .i64 0],fun y=>[obC true y.2]⟩]
 mat vs m:=match vs with
  | [_,.int _ t,.int _ n]=>some ((t.toNat,n.toNat),[])
  | _=>none
 ok:=fun (t,n) h=>does_pick _ (rnew_ok F t n h.1 h.2.1.1 h.2.1.2) fun B hB=>by
  rcases List.mem_cons.1 hB with rfl | hB
  · exact .inr rfl
  · rw [List.mem_singleton.1 hB]
    exact .inl fun _ hp=>by have hp:nF F<8*n+(lsO (nF F) t).2.2:=hp;have:=h.2.2;omega
def fcRnewX (F:Gf):Fc Tryz.prog C0 where
 tg:=.fn 30
 X:=Nat×Nat
 args:=fun (t,n)=>[.int .i64 (F.m:Int),.int .i64 (t:Int),.int .i64 (n:Int)]
 mem _:=[]
 pre:=fun (t,n)=>(1≤t∧t≤40∧(lsO (nF F) t).2.2<nF F)∧(1≤n∧n≤2000)∧nF F<8*n+(lsO (nF F) t).2.2
 alts:=fun (t,n)=>[⟨Unit,fun _=>nF F<8*n+(lsO (nF F) t).2.2,fun _=>.tup [.agg [.int .i64 0,.int .i64 0,.int .i64 0,.nils,.int .i64 0],.int .i64 105],fun _=>[]⟩]
 mat vs m:=match m with
  | [_]=>match vs with
    | [_,.int _ t,.int _ n]=>some ((t.toNat,n.toNat),[])
    | _=>none
  | _=>none
 ok:=fun (t,n) h=>does_pick _ (rnew_ok F t n h.1 h.2.1.1 h.2.1.2) fun B hB=>by
  rcases List.mem_cons.1 hB with rfl | hB
  · exact .inl fun _ hp=>by have:=hp.2;have:=h.2.2;omega
  · exact .inr (List.mem_singleton.1 hB)
theorem cd_facts (c:Cd):(lsO (nF c.F) c.K.t).2.2=c.K.D∧c.K.D<nF c.F∧1≤c.K.t∧c.K.t≤5:=by
 have h:=c.hd
 have h2:=c.K.hD
 have e:nF c.F=2 ^ c.F.m - 1:=nF_eq c.F
 rw [e]
 exact ⟨h,h2,c.K.t1,c.t5⟩
theorem tmod_rng (i:Int) (n:Nat) (h:0<n) : -(n:Int)<i.tmod (n:Int)∧i.tmod (n:Int)<(n:Int):=⟨tmod_low i h,Int.tmod_lt_of_pos i (by omega)⟩
theorem tmods (m t n:Int):(-4<m.tmod 4∧m.tmod 4<4)∧(-5<t.tmod 5∧t.tmod 5<5)∧(-12<n.tmod 12∧n.tmod 12<12):=⟨tmod_rng m 4 (by decide),tmod_rng t 5 (by decide),tmod_rng n 12 (by decide)⟩
theorem made_okA (c:Cd) (n0:Nat) (m t n:Int) (hm:(m.tmod 4+4).tmod 4+5=(c.F.m:Int)) (ht:(t.tmod 5+5).tmod 5+1=(c.K.t:Int)) (hn:(n.tmod 12+12).tmod 12+1=(n0:Int)) (h1:1≤n0) (h12:n0≤12) (hf:8*n0+c.K.D≤nF c.F):
 Does (C:=C0) Tryz.prog (.fn 10) [] [.int .i64 m,.int .i64 t,.int .i64 n] [⟨MdY,MdOK c.K,mdR c.K n0,mdL c.K n0⟩]:=by
 obtain ⟨g1,g2,g3,g4⟩:=cd_facts c
 have et:((t.tmod 5+5).tmod 5+1).toNat=c.K.t:=by omega
 have en:((n.tmod 12+12).tmod 12+1).toNat=n0:=by omega
 have m8:=c.m8
 have tt:=tmods m t n
 refine loc_fn (P:=Tryz.prog) (E:=⟨[fcRnewF c.F,fcNew c.K,fcDNew],[],65,[(9,[],[.p 1,.q 0,.e 2,.p 3]),(11,[],[.p 0,.p 2,.p 3,.p 4,.q 1,.e 5,.p 6])],[],[],none⟩) (L:=[]) mix Tryz.func10 rfl (by kernel_rfl) (by kernel_rfl) rfl rfl ?_
 ((conv=>arg 1;reduce);with_reducible repeat' first | exact ty | refine ta ?_ ?_ | refine ti fun _ => ?_ | refine tf fun _ => ?_ | refine tl ?_)
 all_goals try exact absurd (ng ‹decide ((0:Int)≠0)=true›) (fun h=>h rfl)
 all_goals try exact vlf
 all_goals try first
  | (refine inR64 ?_ ?_ <;> omega)
 · exact ⟨⟨by show 1≤((t.tmod 5+5).tmod 5+1).toNat;omega,by show ((t.tmod 5+5).tmod 5+1).toNat≤40;omega,by show (lsO (nF c.F) ((t.tmod 5+5).tmod 5+1).toNat).2.2<nF c.F;rw [et];omega⟩,⟨by show 1≤((n.tmod 12+12).tmod 12+1).toNat;omega,by show ((n.tmod 12+12).tmod 12+1).toNat≤2000;omega⟩,by show 8*((n.tmod 12+12).tmod 12+1).toNat+(lsO (nF c.F) ((t.tmod 5+5).tmod 5+1).toNat).2.2≤nF c.F;rw [et,en,g1];exact hf⟩
 · exact ⟨by show 1≤((((n.tmod 12+12).tmod 12+1).toNat:Nat):Int).toNat;omega,by show ((((n.tmod 12+12).tmod 12+1).toNat:Nat):Int).toNat≤2048;omega,by show 8*((((n.tmod 12+12).tmod 12+1).toNat:Nat):Int).toNat+c.K.D≤nF c.F;omega⟩
 · rename_i z hz b1 d y hy v hv
   change Lq at z
   change NwY at y
   change Nat at v
   refine Ends.one ((z,y,v):MdY) ⟨hz.1,hy⟩ ?_
   ((conv=>arg 1;reduce);with_reducible repeat' first | exact ty | refine ta ?_ ?_ | refine ti fun _ => ?_ | refine tf fun _ => ?_ | refine tl ?_)
   all_goals first
    | exact vlf
    | (show ((((t.tmod 5+5).tmod 5+1).toNat:Nat):Int)=(c.K.t:Int);rw [et])
    | (show (c.K.t:Int)=((((t.tmod 5+5).tmod 5+1).toNat:Nat):Int);rw [et])
    | (show ((((n.tmod 12+12).tmod 12+1).toNat:Nat):Int)=(n0:Int);rw [en])
    | (show (((((n.tmod 12+12).tmod 12+1).toNat:Nat):Int).toNat:Int)=(n0:Int);omega)
    | (show ((lsO (nF c.F) ((t.tmod 5+5).tmod 5+1).toNat).2.2:Int)=(c.K.D:Int);rw [et,g1])
theorem made_okB (c0 c:Cd) (n0:Nat) (m t n:Int) (hm:(m.tmod 4+4).tmod 4+5=(c0.F.m:Int)) (ht:(t.tmod 5+5).tmod 5+1=(c0.K.t:Int)) (hn:(n.tmod 12+12).tmod 12+1=(n0:Int)) (h1:1≤n0) (h12:n0≤12) (hf:nF c0.F<8*n0+c0.K.D) (m7:c.F.m=7) (t3:c.K.t=3):
 Does (C:=C0) Tryz.prog (.fn 10) [] [.int .i64 m,.int .i64 t,.int .i64 n] [⟨MdY,MdOK c.K,mdR c.K 5,mdL c.K 5⟩]:=by
 obtain ⟨g1,g2,g3,g4⟩:=cd_facts c0
 obtain ⟨u1,u2,u3,u4⟩:=cd_facts c
 have et:((t.tmod 5+5).tmod 5+1).toNat=c0.K.t:=by omega
 have en:((n.tmod 12+12).tmod 12+1).toNat=n0:=by omega
 have m8:=c0.m8
 have tt:=tmods m t n
 have n7:nF c.F=127:=by rw [nF_eq];show 2 ^ c.F.m - 1=127;rw [m7]
 have d21:c.K.D=21:=by rw [← u1,n7,t3];exact ls7_3
 refine loc_fn (P:=Tryz.prog) (E:=⟨[fcRnewX c0.F,fcRnewF c.F,fcNew c.K,fcDNew],[],65,[(9,[],[.p 1,.q 0,.e 2,.p 3]),(11,[],[.p 0,.p 2,.p 3,.p 4,.q 1,.e 5,.p 6])],[],[],none⟩) (L:=[]) mix Tryz.func10 rfl (by kernel_rfl) (by kernel_rfl) rfl rfl ?_
 ((conv=>arg 1;reduce);with_reducible repeat' first | exact ty | refine ta ?_ ?_ | refine ti fun _ => ?_ | refine tf fun _ => ?_ | refine tl ?_)
 all_goals try exact absurd (fun h=>nomatch h:(105:Int)≠0) (nf ‹decide ((105:Int)≠0)=false›)
 all_goals try exact vlf
 all_goals try first
  | (refine inR64 ?_ ?_ <;> omega)
 · exact ⟨⟨by show 1≤((t.tmod 5+5).tmod 5+1).toNat;omega,by show ((t.tmod 5+5).tmod 5+1).toNat≤40;omega,by show (lsO (nF c0.F) ((t.tmod 5+5).tmod 5+1).toNat).2.2<nF c0.F;rw [et];omega⟩,⟨by show 1≤((n.tmod 12+12).tmod 12+1).toNat;omega,by show ((n.tmod 12+12).tmod 12+1).toNat≤2000;omega⟩,by show nF c0.F<8*((n.tmod 12+12).tmod 12+1).toNat+(lsO (nF c0.F) ((t.tmod 5+5).tmod 5+1).toNat).2.2;rw [et,en,g1];exact hf⟩
 · refine ⟨⟨by decide,by decide,?_⟩,⟨by decide,by decide⟩,?_⟩
   · show (lsO (nF c.F) 3).2.2<nF c.F
     rw [← t3,u1];exact u2
   · show 8*5+(lsO (nF c.F) 3).2.2≤nF c.F
     rw [← t3,u1,d21,n7];decide
 · exact ⟨by show 1≤5;decide,by show 5≤2048;decide,by show 8*5+c.K.D≤nF c.F;omega⟩
 · rename_i z0 hz0 b1 d z hz y hy v hv
   change Lq at z
   change NwY at y
   change Nat at v
   have e3:(lsO (nF c.F) 3).2.2=c.K.D:=by rw [← t3];exact u1
   refine Ends.one ((z,y,v):MdY) ⟨hz.1,hy⟩ ?_
   ((conv=>arg 1;reduce);with_reducible repeat' first | exact ty | refine ta ?_ ?_ | refine ti fun _ => ?_ | refine tf fun _ => ?_ | refine tl ?_)
   all_goals first
    | exact vlf
    | (show ((3:Int).toNat:Int)=(c.K.t:Int);rw [t3];rfl)
    | (show ((lsO (nF c.F) (uh 3)).2.2:Int)=(c.K.D:Int);rw [show uh 3=3 from rfl,e3])
theorem made_all (m t n:Int):∃ (c:Cd) (n':Nat),(1≤n'∧n'≤12∧8*n'+c.K.D≤nF c.F)∧Does (C:=C0) Tryz.prog (.fn 10) [] [.int .i64 m,.int .i64 t,.int .i64 n] [⟨MdY,MdOK c.K,mdR c.K n',mdL c.K n'⟩]:=by
 have tt:=tmods m t n
 have r1:=tmods (m.tmod 4+4) (t.tmod 5+5) (n.tmod 12+12)
 have p1:=qq 4 (show 0≤m.tmod 4+4 by omega)
 have p2:=qq 5 (show 0≤t.tmod 5+5 by omega)
 have p3:=qq 12 (show 0≤n.tmod 12+12 by omega)
 obtain ⟨c0,hm,ht⟩:=code_of ((m.tmod 4+4).tmod 4+5).toNat ((t.tmod 5+5).tmod 5+1).toNat (by omega) (by omega) (by omega) (by omega)
 by_cases hf:8*((n.tmod 12+12).tmod 12+1).toNat+c0.K.D≤nF c0.F
 · exact ⟨c0,((n.tmod 12+12).tmod 12+1).toNat,⟨by omega,by omega,hf⟩,made_okA c0 _ m t n (by omega) (by omega) (by omega) (by omega) (by omega) hf⟩
 · obtain ⟨c,m7,t3⟩:=code_of 7 3 (by decide) (by decide) (by decide) (by decide)
   have n7:nF c.F=127:=by rw [nF_eq];show 2 ^ c.F.m - 1=127;rw [m7]
   have d21:c.K.D=21:=by rw [← (cd_facts c).1,n7,t3];exact ls7_3
   exact ⟨c,5,⟨by decide,by decide,by omega⟩,made_okB c0 c ((n.tmod 12+12).tmod 12+1).toNat m t n (by omega) (by omega) (by omega) (by omega) (by omega) (by omega) m7 t3⟩
end
end Go.Vx
namespace Go.Vx
open Go Go.Proofs Go.Vx.Fd
noncomputable section
variable [Gl]
section
variable {F:Gf}
theorem phi_congr {C:Nat→El F} {L:Nat} {s s':Nat→El F} {j:Nat} (h:∀ k,k≤j→s k=s' k):phi C L s j=phi C L s' j:=sm_congr fun i _=>by rw [h (j - i) (by omega)]
theorem bm_congr {s s':Nat→El F} {n:Nat} {C B:Nat→El F} {L k b:Nat} {e:El F} (h:BM s n C B L k b e) (hs:∀ k,k<n→s k=s' k):BM s' n C B L k b e:=by
 refine ⟨h.c0,h.cd,h.bd,h.k1,h.e0,h.rel,fun j h1 h2 => ?_,?_,fun l Y h1 h2=>h.low l Y h1 fun a ha => ?_⟩
 · rw [← phi_congr (s:=s) fun a ha=>hs a (by omega)];exact h.cz j h1 h2
 · refine h.bz.imp id fun ⟨h1,h2,h3,h4⟩ => ?_
   have hk:=h.k1
   refine ⟨h1,h2,?_,fun j h5 h6 => ?_⟩
   · rw [← phi_congr (s:=s) fun a ha=>hs a (by omega)];exact h3
   · rw [← phi_congr (s:=s) fun a ha=>hs a (by omega)];exact h4 j h5 h6
 · rw [hs a ha];exact h2 a ha
theorem su_range {b:Nat→Bool} {f:Nat→El F}:∀ n,su ((xq n).filter b) f=sm n fun k=>bk (b k)*f k
 | 0=>rfl
 | n+1=>by
   rw [uc,sk,su_app,su_range n]
   show _=sm n _+bk (b n)*f n
   congr 1
   cases h:b n
   · rw [rm (by rw [h];exact ve)];exact (zmul _).symm
   · rw [rl h];show f n+zr=un*f n;rw [add0,umul]
theorem svL_cf {A:List Int} {T k:Nat}:cf (els F (svL F A T)) k=if k<T then su A (fun p=>pw (exF F p) (k+1)) else zr:=by
 have e:els F (svL F A T)=mk T fun i=>su A fun p=>pw (exF F p) (i+1):=by
  unfold svL mk els;rw [td];exact xm fun i _=>el_vi _
 rw [e,mk_cf]
theorem dcS_cf {t d g k:Nat} {D R:List Int} (h:k<2*t):cf (els F (dcS F t d g D R)) k=vl (wdB g D (mkR g R)) (8*d+g) (ex F (k+1)):=by
 unfold dcS psL
 rw [svL_cf,if_pos h,su_map,su_range]
 unfold vl
 exact sm_congr fun i _=>by rw [exF_nat,ex_pw,ex_pw,xn]
abbrev dcB (F:Gf) (t d g:Nat) (D R:List Int):Bm F:=bmN (els F (dcS F t d g D R)) (2*t)
theorem dcB_ok (t d g:Nat) (D R:List Int):∃ b0,BM (fun k=>vl (wdB g D (mkR g R)) (8*d+g) (ex F (k+1))) (2*t) (cf (dcB F t d g D R).C) (cf (dcB F t d g D R).B) (dcB F t d g D R).L (dcB F t d g D R).k b0 (dcB F t d g D R).e:=
 let ⟨b0,h⟩:=bmN_ok (els F (dcS F t d g D R)) (2*t)
 ⟨b0,bm_congr h fun k hk=>dcS_cf hk⟩
theorem dcN_L {t d g:Nat} {D R:List Int}:dcN F t d g D R=(dcB F t d g D R).L:=by
 rw [dcN_eq];unfold wkN bL;rw [dcS_len]
theorem dcL_C {t d g:Nat} {D R:List Int}:dcL F t d g D R=vis (trim (dcB F t d g D R).C):=by
 rw [dcL_eq];unfold wkL bC;rw [trL_els,dcS_len]
theorem dcL_top {t d g:Nat} {D R:List Int}:(dcL F t d g D R).length=top (dcB F t d g D R).C:=by rw [dcL_C,zn,trim_len]
theorem pw_ivx {x:El F} (h:x≠zr) (n:Nat):pw (iv x) n=iv (pw x n):=iv_uniq (pw_iv h n)
theorem exF_neg (k:Nat):exF F (-(k:Int))=iv (ex F k):=by
 refine iv_uniq ?_
 have hN:=Gf.N3 (F:=F)
 unfold exF
 rw [← ex_add,← ex_mod]
 have h1:=Int.emod_nonneg (-(k:Int)) (show (F.N:Int)≠0 by omega)
 have h2:=Int.mul_ediv_add_emod (-(k:Int)) (F.N:Int)
 have e:(k+(-(k:Int) % (F.N:Int)).toNat) % F.N=0:=by
  refine Int.ofNat.inj ?_
  show (((k+(-(k:Int) % (F.N:Int)).toNat) % F.N:Nat):Int)=0
  rw [Int.natCast_emod,Int.natCast_add,Int.toNat_of_nonneg h1,show (k:Int) + -(k:Int) % (F.N:Int)=(F.N:Int)*(-(-(k:Int) / (F.N:Int))) by rw [Int.mul_neg];omega]
  exact Int.mul_emod_right _ _
 rw [e];rfl
theorem rt_term (C:List (El F)) (a k:Nat):tv F (vis (trim C)) a k=cf C k*pw (iv (ex F a)) k:=by
 unfold tv
 rw [els_vis,trim_cf,exF_neg,pw_ivx (ex_ne k),pw_ivx (ex_ne a),ex_pw,ex_pw,xn]
theorem trim_trim (C:List (El F)):trim (trim C)=trim C:=trim_ext fun i=>trim_cf C i
theorem dcB_top {t d g:Nat} {D R:List Int}:top (dcB F t d g D R).C≤(dcB F t d g D R).L+1∧(top (dcB F t d g D R).C=(dcB F t d g D R).L+1↔cf (dcB F t d g D R).C (dcB F t d g D R).L≠zr):=by
 obtain ⟨b0,h⟩:=dcB_ok (F:=F) t d g D R
 have h1:top (dcB F t d g D R).C≤(dcB F t d g D R).L+1:=Nat.le_of_not_lt fun hl=>top_ne (dcB F t d g D R).C (by omega) (h.cd _ (by omega))
 refine ⟨h1,fun e => ?_,fun hn => ?_⟩
 · have:=top_ne (dcB F t d g D R).C (by omega)
   rwa [e,Nat.add_sub_cancel] at this
 · have:=Classical.byContradiction fun hl:¬ (dcB F t d g D R).L<top (dcB F t d g D R).C=>hn (top_zero _ (by omega))
   omega
theorem dcZ_root {t d g:Nat} {D R:List Int} (hn:8*d+g≤F.N):dcZ F t d g D R=((xq (8*d+g)).filter fun a=>decide (sm ((dcB F t d g D R).L+1) (fun i=>cf (dcB F t d g D R).C i*pw (iv (ex F a)) i)=zr)).map fun a:Nat=>(a:Int):=by
 obtain ⟨b0,h⟩:=dcB_ok (F:=F) t d g D R
 have hs:=nF_sz F
 have e0:(max 0 (min (8*(d:Int)+(g:Int)) ((szF F:Int) - 1))).toNat=8*d+g:=by rw [← nF_eq] at hn;omega
 rw [dcZ_eq]
 unfold srL
 rw [e0,dcL_C,trL_els,trim_trim]
 unfold rtL
 congr 1
 refine nr fun a _ => ?_
 refine decide_eq_decide.2 ?_
 unfold yS
 rw [vi_zero,zn,trim_len,sm_congr fun k _=>rt_term _ a k,← sm_more dcB_top.1 fun i h1 h2=>by rw [top_zero _ h1,zmul]]
theorem clean_iff {t d g:Nat} {D R:List Int}:clnB (dcS F t d g D R)=true↔∀ k,k<2*t→vl (wdB g D (mkR g R)) (8*d+g) (ex F (k+1))=zr:=by
 have hv:∀ k,k<2*t→(dcS F t d g D R).getD k 0=vi (cf (els F (dcS F t d g D R)) k):=fun k hk=>by
  unfold dcS
  rw [svL_cf,if_pos hk]
  unfold svL
  simp only [zy,List.getElem?_map,List.getElem?_range hk];rfl
 constructor
 · intro h k hk
   rw [← dcS_cf hk,← vi_zero,← hv k hk]
   exact clnB_iff.1 h _ (getD_mem (by rw [dcS_len];exact hk))
 · intro h
   refine clnB_yes fun a ha => ?_
   rw [dcS_len] at ha
   rw [hv a ha,dcS_cf ha,h a ha];rfl
variable (K:Kd F)
theorem clean_word {d g:Nat} {D R:List Int}:clnB (dcS F K.t d g D R)=true↔Wd K.Q (wdB g D (mkR g R)) (8*d+g):=by
 rw [clean_iff]
 unfold Wd
 rw [K.Qt]
 constructor
 · intro h i h1 h2
   have:=h (i - 1) (by omega)
   rwa [show i - 1+1=i by omega] at this
 · exact fun h k hk=>h (k+1) (by omega) (by omega)
theorem dec_few {d g:Nat} {D R:List Int} {b:Nat→Bool} {P:List Nat} (hn:8*d+g≤F.N) (hW:Wd K.Q b (8*d+g)) (hb:∀ k,k<8*d+g→wdB g D (mkR g R) k=flips P b k) (hP:P.Nodup) (hp:∀ p∈P,p<8*d+g) (ht:P.length≤K.t):
 dcN F K.t d g D R=P.length∧(dcL F K.t d g D R).length=P.length+1∧dcZ F K.t d g D R=((xq (8*d+g)).filter fun a=>decide (a∈P)).map (fun a:Nat=>(a:Int))∧(clnB (dcS F K.t d g D R)=true↔P=[]):=by
 obtain ⟨b0,h⟩:=dcB_ok (F:=F) K.t d g D R
 have hS:∀ i,1≤i→i≤2*K.t→vl (wdB g D (mkR g R)) (8*d+g) (ex F i)=su P fun p=>pw (ex F i) p:=fun i h1 h2=>by
  rw [vl_congr hb,vl_flips hP hp,hW i h1 (by rw [K.Qt];exact h2),zadd]
 have h':=h
 rw [← K.Qt] at h'
 obtain ⟨m1,m2,m3⟩:=mends (Q:=K.Q) (S:=fun i=>vl (wdB g D (mkR g R)) (8*d+g) (ex F i)) (by rw [K.Qt];exact h) hP (fun p hp'=>by have:=hp p hp';omega) (by rw [K.Qt];exact hS) (by rw [K.Qt];exact ht)
 refine ⟨by rw [dcN_L];exact m1,?_,?_,?_⟩
 · rw [dcL_top,dcB_top.2.2 m2,m1]
 · rw [dcZ_root hn]
   congr 1
   refine nr fun a ha=>decide_eq_decide.2 ?_
   exact m3 a (by have:=List.mem_range.1 ha;omega)
 · rw [clean_iff]
   constructor
   · intro hc
     have:=h.low [] (fun x=>x) vk fun k hk=>hc k hk
     have:P.length=0:=by rw [← m1];exact Nat.le_zero.1 this
     exact List.eq_nil_of_length_eq_zero this
   · rintro rfl
     exact fun k hk=>hS (k+1) (by omega) (by omega)
theorem dec_right {d g:Nat} {D R:List Int} (hn:8*d+g≤F.N) (h1:dcN F K.t d g D R≤K.t) (h3:(dcZ F K.t d g D R).length=dcN F K.t d g D R):
 Wd K.Q (flips ((dcZ F K.t d g D R).map uh) (wdB g D (mkR g R))) (8*d+g):=by
 obtain ⟨b0,h⟩:=dcB_ok (F:=F) K.t d g D R
 have e:(dcZ F K.t d g D R).map uh=(xq (8*d+g)).filter fun a=>decide (sm ((dcB F K.t d g D R).L+1) (fun i=>cf (dcB F K.t d g D R).C i*pw (iv (ex F a)) i)=zr):=by
  rw [dcZ_root hn,td]
  exact ni _
 have hl:((dcZ F K.t d g D R).map uh).length=(dcB F K.t d g D R).L:=by rw [zn,h3,dcN_L]
 rw [e] at hl ⊢
 have hm:∀ p∈(xq (8*d+g)).filter fun a=>decide (sm ((dcB F K.t d g D R).L+1) (fun i=>cf (dcB F K.t d g D R).C i*pw (iv (ex F a)) i)=zr),p<8*d+g:=fun p hp=>List.mem_range.1 (List.mem_filter.1 hp).1
 refine right_of (Q:=K.Q) (by rw [K.Qt];exact h) (by rw [K.Qt,← dcN_L];exact h1) (List.Nodup.sublist qi ox) (fun p hp=>by have:=hm p hp;omega) hm hl fun p hp => ?_
 have:=(List.mem_filter.1 hp).2
 unfold isRoot
 exact ng this
theorem dcZ_nodup {t d g:Nat} {D R:List Int} (hn:8*d+g≤F.N):((dcZ F t d g D R).map uh).Nodup∧∀ p∈(dcZ F t d g D R).map uh,p<8*d+g:=by
 rw [dcZ_root hn,td]
 refine ⟨?_,fun p hp => ?_⟩
 · exact (ni _).symm ▸ List.Nodup.sublist qi ox
 · obtain ⟨q,hq,rfl⟩:=List.mem_map.1 hp
   exact List.mem_range.1 (List.mem_filter.1 hq).1
theorem reg_congr' {D n:Nat} {g g' b:Nat→Bool} (hD:1≤D) (hg:∀ k,k<D→g k=g' k):∀ i k,k<D→reg D g b n i k=reg D g' b n i k
 | 0,_,_=>rfl
 | i+1,k,hk=>by
   show shf D g _ _ k=shf D g' _ _ k
   unfold shf
   rw [hg k hk,reg_congr' hD hg i (D - 1) (by omega)]
   congr 1
   split
   · rfl
   · exact reg_congr' hD hg i _ (by omega)
theorem pa_right {D:List Int}:Wd K.Q (wdB K.D D (paK K D)) (8*D.length+K.D):=by
 have h:=Wd.made K.Q (bt D) (8*D.length) (r:=bt (paK K D)) fun k hk=>by
  rw [K.QD] at hk
  rw [paK_bt,decide_eq_true hk,zd,K.QD]
  exact reg_congr' K.D1 (fun j hj=>gK_lt K hj) _ _ hk
 rw [K.QD] at h
 rw [up]
 exact h
theorem pa_of {D R:List Int} (h:Wd K.Q (wdB K.D D R) (8*D.length+K.D)) (hR:Byt8 R) (hl:R.length=nP K) (hz:∀ k,K.D≤k→bt R k=false):R=paK K D:=by
 refine byt_ext hR (paK_byt K D) (by rw [hl,paK_len]) fun k hk => ?_
 rw [paK_bt]
 by_cases hD:k<K.D
 · rw [decide_eq_true hD,zd]
   have h':Wd K.Q (fun k=>if k<K.Q.D then bt R k else bt D (k - K.Q.D)) (K.Q.D+8*D.length):=by rw [K.QD,up];exact h
   have:=h'.parity k (by rw [K.QD];exact hD)
   rw [this,K.QD]
   exact (reg_congr' K.D1 (fun j hj=>gK_lt K hj) _ _ hD).symm
 · rw [decide_eq_false hD,yf];exact hz k (by omega)
end
theorem mkR_bt {g:Nat} {R:List Int} (hR:Byt8 R) (hl:R.length=(g+7) / 8) (k:Nat):bt (mkR g R) k=(decide (k<g) && bt R k):=by
 have hout:∀ k,8*R.length≤k→bt R k=false:=fun k hk=>by
  unfold bt
  rw [zy,List.getElem?_eq_none (by omega)]
  exact Nat.zero_testBit _
 unfold mkR
 split
 · by_cases h:k<g
   · rw [decide_eq_true h,zd]
   · rw [decide_eq_false h,yf];exact hout k (by omega)
 · rename_i hg
   obtain ⟨x,hx,x1,x2⟩:=byt_at hR (show R.length - 1<R.length by omega)
   have hp:2 ^ (g % 8)≤2 ^ 8:=Nat.pow_le_pow_right (by omega) (by omega)
   have hp0:=Nat.two_pow_pos (g % 8)
   rw [hx,and8 x1 (by omega),bt_set (by omega),zu]
   by_cases h8:k / 8=R.length - 1
   · rw [if_pos h8,Nat.testBit_and,Nat.testBit_two_pow_sub_one,x2 _ (Nat.mod_lt _ (by omega)),show 8*(R.length - 1)+k % 8=k by omega,Bool.and_comm]
     congr 1
     exact decide_eq_decide.2 (by omega)
   · rw [if_neg h8]
     by_cases h:k<g
     · rw [decide_eq_true h,zd]
     · rw [decide_eq_false h,yf];exact hout k (by omega)
theorem tn_bits {g d:Nat}:∀ (zs:List Int) (D R:List Int),Byt8 D→Byt8 R→D.length=d→g≤8*R.length→(zs.map uh).Nodup→(∀ p∈zs.map uh,p<8*d+g)→
 (∀ k,k<8*d+g→wdB g (tnD g D zs) (tnP g R zs) k=flips (zs.map uh) (wdB g D R) k)∧Byt8 (tnD g D zs)∧Byt8 (tnP g R zs)∧∀ k,g≤k→bt (tnP g R zs) k=bt R k
 | [],D,R,hD,hR,hl,hg,_,_=>by
   rw [tnD_zero,tnP_zero]
   exact ⟨fun k _=>by unfold flips;simp,hD,hR,fun _ _=>rfl⟩
 | z :: zs,D,R,hD,hR,hl,hg,hn,hp=>by
   have hz:=hp z.toNat (xp ..)
   obtain ⟨n1,n2⟩:=List.nodup_cons.1 hn
   have kD:Byt8 (fpD g D z.toNat):=by unfold fpD;split;exact hD;exact flB_byt hD
   have kR:Byt8 (fpP g R z.toNat):=by unfold fpP;split;exact flB_byt hR;exact hR
   obtain ⟨i1,i2,i3,i4⟩:=tn_bits (g:=g) (d:=d) zs (fpD g D z.toNat) (fpP g R z.toNat) kD kR (by rw [fpD_len];exact hl) (by rw [fpP_len];exact hg) n2 fun p h=>hp p (yw _ h)
   have eD:tnD g D (z :: zs)=tnD g (fpD g D z.toNat) zs:=by unfold tnD;rfl
   have eP:tnP g R (z :: zs)=tnP g (fpP g R z.toNat) zs:=by unfold tnP;rfl
   have e1:∀ k,k<8*d+g→wdB g (fpD g D z.toNat) (fpP g R z.toNat) k=(wdB g D R k ^^ decide (k=z.toNat)):=fun k hk=>by
    unfold wdB
    by_cases h:z.toNat<g
    · rw [fpD_lo h,fpP_lo h]
      by_cases h2:k<g
      · rw [if_pos h2,if_pos h2,flB_bt hR (by omega)]
      · rw [if_neg h2,if_neg h2,decide_eq_false (by omega),vv]
    · rw [fpD_hi h,fpP_hi h]
      by_cases h2:k<g
      · rw [if_pos h2,if_pos h2,decide_eq_false (by omega),vv]
      · rw [if_neg h2,if_neg h2,flB_bt hD (by omega)]
        congr 1
        exact decide_eq_decide.2 (by omega)
   rw [eD,eP]
   refine ⟨fun k hk => ?_,i2,i3,fun k hk => ?_⟩
   · rw [i1 k hk]
     unfold flips
     rw [e1 k hk]
     by_cases hkz:k=z.toNat
     · rw [hkz] at *
       simp [n1]
     · simp [hkz]
   · rw [i4 k hk]
     by_cases h:z.toNat<g
     · rw [fpP_lo h,flB_bt hR (by omega),decide_eq_false (by omega),vv]
     · rw [fpP_hi h]
end
end Go.Vx
namespace Go.Vx
open Go Go.Proofs Go.Vx.Fd
noncomputable section
variable [Gl]
theorem mk_wd {g:Nat} {D R:List Int} (hR:Byt8 R) (hl:R.length=(g+7) / 8) (k:Nat):wdB g D (mkR g R) k=wdB g D R k:=by
 unfold wdB
 by_cases h:k<g
 · rw [if_pos h,if_pos h,mkR_bt hR hl,decide_eq_true h,zd]
 · rw [if_neg h,if_neg h]
theorem mk_id {g:Nat} {R:List Int} (hR:Byt8 R) (hl:R.length=(g+7) / 8) (hz:∀ k,g≤k→bt R k=false):mkR g R=R:=by
 refine byt_ext (mkR_byt hR) hR mkR_len fun k _ => ?_
 rw [mkR_bt hR hl]
 by_cases h:k<g
 · rw [decide_eq_true h,zd]
 · rw [decide_eq_false h,yf,hz k (by omega)]
theorem mk_cl {g:Nat} {R:List Int} (hR:Byt8 R) (hl:R.length=(g+7) / 8):mkR g R=clL g R:=by
 refine byt_ext (mkR_byt hR) clL_byt (by rw [mkR_len,clL_len]) fun k _ => ?_
 rw [mkR_bt hR hl,clL_bt]
section
variable {F:Gf} (K:Kd F)
theorem pa_out (D:List Int):∀ k,K.D≤k→bt (paK K D) k=false:=fun k hk=>by rw [paK_bt,decide_eq_false (by omega),yf]
theorem pa_len' (D:List Int):(paK K D).length=(K.D+7) / 8:=paK_len K D
theorem pa_mk (D:List Int):mkR K.D (paK K D)=paK K D:=mk_id (paK_byt K D) (pa_len' K D) (pa_out K D)
theorem pa_tk (D:List Int):((paK K D).drop 0).take (nP K)=paK K D:=by rw [zm,zc (by rw [paK_len];exact zw _)]
theorem pa_clean {D:List Int} {d:Nat} (hd:D.length=d):clnB (dcS F K.t d K.D D (paK K D))=true:=by
 subst hd
 rw [clean_word,pa_mk]
 exact pa_right K
end
theorem cd5 {c:Cd} (m5:c.F.m=5) (t2:c.K.t=2):nF c.F=31∧c.K.D=10∧nP c.K=2:=by
 have n7:nF c.F=31:=by rw [nF_eq];show 2 ^ c.F.m - 1=31;rw [m5]
 have h:=c.hd
 have e:2 ^ c.F.m - 1=31:=by rw [m5]
 rw [e,t2] at h
 have d10:c.K.D=10:=by rw [← h];exact ls5_2
 refine ⟨n7,d10,?_⟩
 unfold nP
 rw [d10]
theorem ex_two {c:Cd} (m5:c.F.m=5) (t2:c.K.t=2):clnB (dcS c.F c.K.t 2 c.K.D [6,9] (paK c.K [7,9]))=false∧dcN c.F c.K.t 2 c.K.D [6,9] (paK c.K [7,9])=1∧(dcL c.F c.K.t 2 c.K.D [6,9] (paK c.K [7,9])).length=2∧
 dcZ c.F c.K.t 2 c.K.D [6,9] (paK c.K [7,9])=[10]∧tnD c.K.D [6,9] [10]=[7,9]∧tnP c.K.D (mkR c.K.D (paK c.K [7,9])) [10]=paK c.K [7,9]:=by
 obtain ⟨n31,d10,p2⟩:=cd5 m5 t2
 have hb:∀ j,j<16→bt [6,9] j=(bt [7,9] j ^^ decide (j=0)):=by decide
 have h:=dec_few c.K (d:=2) (g:=c.K.D) (D:=[6,9]) (R:=paK c.K [7,9]) (b:=wdB c.K.D [7,9] (paK c.K [7,9])) (P:=[10]) (by rw [← nF_eq,n31,d10];decide) (pa_right c.K) (fun k hk=>by
  rw [mk_wd (paK_byt c.K _) (pa_len' c.K _)]
  rw [d10] at hk ⊢
  show (if k<10 then bt (paK c.K [7,9]) k else bt [6,9] (k - 10))=((if k<10 then bt (paK c.K [7,9]) k else bt [7,9] (k - 10)) ^^ decide (k∈[10]))
  by_cases hg:k<10
  · rw [if_pos hg,if_pos hg,decide_eq_false (by simp;omega),vv]
  · rw [if_neg hg,if_neg hg,hb _ (by omega)]
    congr 1
    refine decide_eq_decide.2 ?_
    rw [List.mem_singleton]
    omega) (List.nodup_cons.2 ⟨(fun h=>nomatch h),vk⟩) (fun p hp=>by rw [List.mem_singleton.1 hp,d10];decide) (by rw [t2];decide)
 obtain ⟨h1,h2,h3,h4⟩:=h
 refine ⟨?_,h1,h2,?_,?_,?_⟩
 · cases hc:clnB (dcS c.F c.K.t 2 c.K.D [6,9] (paK c.K [7,9])) with
   | false=>rfl
   | true=>exact absurd (h4.1 hc) (fun h=>nomatch h)
 · rw [h3,d10];decide
 · rw [d10]
   unfold tnD fpD
   show (if (10:Int).toNat<10 then [6,9] else flB [6,9] ((10:Int).toNat - 10))=[7,9]
   rw [if_neg (by decide)]
   unfold flB
   decide
 · rw [pa_mk,d10]
   unfold tnP fpP
   show (if (10:Int).toNat<10 then flB (paK c.K [7,9]) (10:Int).toNat else paK c.K [7,9])=_
   rw [if_neg (by decide)]
end
end Go.Vx
namespace Go.Vx
open Go Go.Proofs
noncomputable section
variable [Gl]
def pickN:Nat→List (Alt C0)→Alt C0
 | 0,a :: _=>a
 | n+1,_ :: l=>pickN n l
 | _,[]=>⟨Unit,fun _=>False,fun _=>.junk,fun _=>[]⟩
def fcOnly {P:Program} (f:Fc P C0) (i:Nat) (pre':f.X→Prop) (hp:∀ x,f.pre x→pre' x→∀ B∈f.alts x,(∀ y,¬ B.post y)∨B=pickN i (f.alts x)) (k:Option Nat):Fc P C0 where
 tg:=f.tg
 X:=f.X
 args:=f.args
 mem:=f.mem
 pre x:=f.pre x∧pre' x
 alts x:=[pickN i (f.alts x)]
 mat vs m:=match k with
  | none=>f.mat vs m
  | some k=>match zi m.length k with
    | true=>f.mat vs m
    | false=>none
 ok x h:=does_pick _ (f.ok x h.1) (hp x h.1 h.2)
def pcSb2:Pc Tryz.prog C0:={ pcSb with mat:=fun vs m=>match vs with
    | [.nils,.nils]=>some (((false,0,0,[],0,0,0),(false,0,0,[],0,0,0)),[m.length,m.length+1])
    | _=>none }
def pcSi2:Pc Tryz.prog C0:={ pcSameInts with mat:=fun vs m=>match vs with
    | [.nils,.nils]=>some (((false,0,0,[],0,0),(false,0,0,[],0,0)),[m.length,m.length+1])
    | _=>none }
section
variable (F:Gf)
def dcPC:(fcDecode F).X→Prop:=fun (_,(_,_,t,d,g,r),_,(o,b,q,l,i,n,c),(o',b',q',l',i',n',c'))=>n=d∧n'=r∧clnB (dcS F t d g ((l.drop i).take n) ((l'.drop i').take n'))=true
def dcPM:(fcDecode F).X→Prop:=fun (_,(_,_,t,d,g,r),_,(o,b,q,l,i,n,c),(o',b',q',l',i',n',c'))=>n=d∧n'=r∧clnB (dcS F t d g ((l.drop i).take n) ((l'.drop i').take n'))=false∧¬ (t<dcN F t d g ((l.drop i).take n) ((l'.drop i').take n')∨(dcL F t d g ((l.drop i).take n) ((l'.drop i').take n')).length≠dcN F t d g ((l.drop i).take n) ((l'.drop i').take n')+1)∧(dcZ F t d g ((l.drop i).take n) ((l'.drop i').take n')).length=dcN F t d g ((l.drop i).take n) ((l'.drop i').take n')
def dcPX:(fcDecode F).X→Prop:=fun (_,(_,_,t,d,g,r),_,(o,b,q,l,i,n,c),(o',b',q',l',i',n',c'))=>n=d∧n'=r∧clnB (dcS F t d g ((l.drop i).take n) ((l'.drop i').take n'))=false∧((t<dcN F t d g ((l.drop i).take n) ((l'.drop i').take n')∨(dcL F t d g ((l.drop i).take n) ((l'.drop i').take n')).length≠dcN F t d g ((l.drop i).take n) ((l'.drop i').take n')+1)∨(dcZ F t d g ((l.drop i).take n) ((l'.drop i').take n')).length≠dcN F t d g ((l.drop i).take n) ((l'.drop i').take n'))
theorem dcPC_ok (x:(fcDecode F).X) (h:(fcDecode F).pre x) (hc:dcPC F x):∀ B∈(fcDecode F).alts x,(∀ y,¬ B.post y)∨B=pickN 2 ((fcDecode F).alts x):=by
 obtain ⟨⟨bd,qd⟩,⟨bC,qC,t,d,g,r⟩,⟨bF,qF,be,qe,bl,ql⟩,⟨o,b,q,l,i,n,c⟩,⟨o',b',q',l',i',n',c'⟩⟩:=x
 obtain ⟨h1,h2,h3⟩:=hc
 intro B hB
 rcases List.mem_cons.1 hB with rfl | hB
 · exact .inl fun _ hp=>by rcases hp with hp | hp;exact hp h1;exact hp h2
 rcases List.mem_cons.1 hB with rfl | hB
 · exact .inl fun _ hp=>by have:=hp.2.1;rw [h3] at this;cases this
 rcases List.mem_cons.1 hB with rfl | hB
 · exact .inr rfl
 · rw [List.mem_singleton.1 hB]
   exact .inl fun _ hp=>by have:=hp.2.1;rw [h3] at this;cases this
theorem dcPM_ok (x:(fcDecode F).X) (h:(fcDecode F).pre x) (hc:dcPM F x):∀ B∈(fcDecode F).alts x,(∀ y,¬ B.post y)∨B=pickN 3 ((fcDecode F).alts x):=by
 obtain ⟨⟨bd,qd⟩,⟨bC,qC,t,d,g,r⟩,⟨bF,qF,be,qe,bl,ql⟩,⟨o,b,q,l,i,n,c⟩,⟨o',b',q',l',i',n',c'⟩⟩:=x
 obtain ⟨h1,h2,h3,h4,h5⟩:=hc
 intro B hB
 rcases List.mem_cons.1 hB with rfl | hB
 · exact .inl fun _ hp=>by rcases hp with hp | hp;exact hp h1;exact hp h2
 rcases List.mem_cons.1 hB with rfl | hB
 · exact .inl fun _ hp=>by rcases hp.2.2 with hp | hp;exact h4 hp;exact hp h5
 rcases List.mem_cons.1 hB with rfl | hB
 · exact .inl fun _ hp=>by have:=hp.2.1;rw [h3] at this;cases this
 · exact .inr (List.mem_singleton.1 hB)
theorem dcPX_ok (x:(fcDecode F).X) (h:(fcDecode F).pre x) (hc:dcPX F x):∀ B∈(fcDecode F).alts x,(∀ y,¬ B.post y)∨B=pickN 1 ((fcDecode F).alts x):=by
 obtain ⟨⟨bd,qd⟩,⟨bC,qC,t,d,g,r⟩,⟨bF,qF,be,qe,bl,ql⟩,⟨o,b,q,l,i,n,c⟩,⟨o',b',q',l',i',n',c'⟩⟩:=x
 obtain ⟨h1,h2,h3,h4⟩:=hc
 intro B hB
 rcases List.mem_cons.1 hB with rfl | hB
 · exact .inl fun _ hp=>by rcases hp with hp | hp;exact hp h1;exact hp h2
 rcases List.mem_cons.1 hB with rfl | hB
 · exact .inr rfl
 rcases List.mem_cons.1 hB with rfl | hB
 · exact .inl fun _ hp=>by have:=hp.2.1;rw [h3] at this;cases this
 · rw [List.mem_singleton.1 hB]
   exact .inl fun _ hp=>by rcases h4 with h4 | h4;exact hp.2.2.1.1 h4;exact h4 hp.2.2.1.2
def fcDecC (k:Option Nat):Fc Tryz.prog C0:=fcOnly (fcDecode F) 2 (dcPC F) (dcPC_ok F) k
def fcDecM (k:Option Nat):Fc Tryz.prog C0:=fcOnly (fcDecode F) 3 (dcPM F) (dcPM_ok F) k
end
theorem first_ok:Tells (C:=C0) Tryz.prog (.fn 9) [] [] (.bool .t):=by
 obtain ⟨c,m5,t2⟩:=code_of 5 2 (by decide) (by decide) (by decide) (by decide)
 obtain ⟨n31,d10,p2⟩:=cd5 m5 t2
 obtain ⟨x1,x2,x3,x4,x5,x6⟩:=ex_two m5 t2
 have pt:=pa_tk c.K [7,9]
 have pl:=paK_len c.K [7,9]
 have pb:=paK_byt c.K [7,9]
 have b79:Byt8 [7,9]:=fun x hx=>by simp at hx;rcases hx with rfl | rfl <;> decide
 have b69:Byt8 [6,9]:=fun x hx=>by simp at hx;rcases hx with rfl | rfl <;> decide
 refine loc_pc (P:=Tryz.prog) (E:=⟨[fcNew c.K,fcDNew,fcSerial c.K,fcDecC c.F (some 11),fcDecM c.F none],[pcSb,pcSameInts,pcDCode],89,[],[],[],none⟩) (L:=[]) mix Tryz.func9 rfl (by kernel_rfl) (by kernel_rfl) rfl rfl ?_
 ((conv=>arg 1;reduce);with_reducible repeat' first | exact ty | refine ta ?_ ?_ | refine ti fun _ => ?_ | refine tf fun _ => ?_ | refine tl ?_)
 all_goals try exact vlf
 · exact ⟨by show 1≤2;decide,by show 2≤2048;decide,by show 8*2+c.K.D≤nF c.F;omega⟩
 · rename_i y hy v hv b0
   change NwY at y
   have hy:NwOK c.K y:=hy
   exact ⟨by show 0+2≤2;decide,by show 2<100000;decide,nofun,b79,hy.2.1,hy.2.2,rfl⟩
 · refine ⟨⟨⟨by show c.K.t≤40;omega,by show 2<100000;decide,by show c.K.D<100000;omega,rfl,by show 1≤2;decide,by show 1≤c.K.D;omega⟩,⟨⟨by show 0+2≤2;decide,by show 2<1000000000;decide,nofun⟩,⟨by show 0+nP c.K≤(paK c.K [7,9]).length;omega,by show nP c.K<1000000000;omega,nofun⟩⟩,b79,?_⟩,rfl,rfl,?_⟩
   · show Byt8 (((paK c.K [7,9]).drop 0).take (nP c.K));rw [pt];exact pb
   · show clnB (dcS c.F c.K.t 2 c.K.D [7,9] (((paK c.K [7,9]).drop 0).take (nP c.K)))=true
     rw [pt];exact pa_clean c.K rfl
 · refine ⟨⟨⟨by show c.K.t≤40;omega,by show 2<100000;decide,by show c.K.D<100000;omega,rfl,by show 1≤2;decide,by show 1≤c.K.D;omega⟩,⟨⟨by show 0+2≤2;decide,by show 2<1000000000;decide,nofun⟩,⟨by show 0+nP c.K≤(paK c.K [7,9]).length;omega,by show nP c.K<1000000000;omega,nofun⟩⟩,b69,?_⟩,rfl,rfl,?_,?_,?_⟩
   · show Byt8 (((paK c.K [7,9]).drop 0).take (nP c.K));rw [pt];exact pb
   · show clnB (dcS c.F c.K.t 2 c.K.D [6,9] (((paK c.K [7,9]).drop 0).take (nP c.K)))=false
     rw [pt];exact x1
   · show ¬ (c.K.t<dcN c.F c.K.t 2 c.K.D [6,9] (((paK c.K [7,9]).drop 0).take (nP c.K))∨(dcL c.F c.K.t 2 c.K.D [6,9] (((paK c.K [7,9]).drop 0).take (nP c.K))).length≠dcN c.F c.K.t 2 c.K.D [6,9] (((paK c.K [7,9]).drop 0).take (nP c.K))+1)
     rw [pt,x2,x3];omega
   · show (dcZ c.F c.K.t 2 c.K.D [6,9] (((paK c.K [7,9]).drop 0).take (nP c.K))).length=dcN c.F c.K.t 2 c.K.D [6,9] (((paK c.K [7,9]).drop 0).take (nP c.K))
     rw [pt,x4,x2];rfl
 all_goals try (
  rename_i y hy v hv b0 s hs w1 A hA w2 B hB w3
  change Os×Os at A
  change Os×Os×Oq at B
  have hA1:Ow [7,9] A.1:=hA.2.2.1
  have hB1:Ow (tnD c.K.D [6,9] (dcZ c.F c.K.t 2 c.K.D [6,9] (((paK c.K [7,9]).drop 0).take (nP c.K)))) B.1:=hB.2.2.2.1.1
  have hB2:Ow (tnP c.K.D (mkR c.K.D (((paK c.K [7,9]).drop 0).take (nP c.K))) (dcZ c.F c.K.t 2 c.K.D [6,9] (((paK c.K [7,9]).drop 0).take (nP c.K)))) B.2.1:=hB.2.2.2.1.2
  have hB3:Oqw (dcZ c.F c.K.t 2 c.K.D [6,9] (((paK c.K [7,9]).drop 0).take (nP c.K))) B.2.2:=hB.2.2.2.2
  have eZ:(dcZ c.F c.K.t 2 c.K.D [6,9] (((paK c.K [7,9]).drop 0).take (nP c.K))).length=1:=by rw [pt,x4];rfl
  rw [pt,x4,x5] at hB1
  rw [pt,x4,x6] at hB2
  rw [pt,x4] at hB3
  have E1:((A.1.2.2.1.drop 0).take 2)=[7,9]:=by rw [zm];exact hA1.eq
  have E2:((B.1.2.2.1.drop 0).take 2)=[7,9]:=by rw [zm];exact hB1.eq
  have E3:((B.2.1.2.2.1.drop 0).take (nP c.K))=paK c.K [7,9]:=by rw [zm,← pl];exact hB2.eq
  have E4:B.2.2.2.2.2.1.take (dcZ c.F c.K.t 2 c.K.D [6,9] (((paK c.K [7,9]).drop 0).take (nP c.K))).length=[10]:=by rw [eZ];exact hB3.eq
  have a1:2≤A.1.2.2.2:=hA1.cap
  have a2:=hA1.len
  have b1:2≤B.1.2.2.2:=hB1.cap
  have b2:=hB1.len
  have b3:(paK c.K [7,9]).length≤B.2.1.2.2.2:=hB2.cap
  have b4:=hB2.len
  have b5:1≤B.2.2.2.2.2.2:=hB3.cap
  have b6:=hB3.len
  exact ⟨by show 0+2≤A.1.2.2.1.length;omega,by show 0+2≤2;decide,hA1.nil,nofun,by show Byt8 ((A.1.2.2.1.drop 0).take 2);rw [E1];exact b79,b79⟩)
 all_goals try (
  rename_i y hy v hv b0 s hs w1 A hA w2 B hB w3 e1
  change Os×Os at A
  change Os×Os×Oq at B
  have hA1:Ow [7,9] A.1:=hA.2.2.1
  have hB1:Ow (tnD c.K.D [6,9] (dcZ c.F c.K.t 2 c.K.D [6,9] (((paK c.K [7,9]).drop 0).take (nP c.K)))) B.1:=hB.2.2.2.1.1
  have hB2:Ow (tnP c.K.D (mkR c.K.D (((paK c.K [7,9]).drop 0).take (nP c.K))) (dcZ c.F c.K.t 2 c.K.D [6,9] (((paK c.K [7,9]).drop 0).take (nP c.K)))) B.2.1:=hB.2.2.2.1.2
  have hB3:Oqw (dcZ c.F c.K.t 2 c.K.D [6,9] (((paK c.K [7,9]).drop 0).take (nP c.K))) B.2.2:=hB.2.2.2.2
  have eZ:(dcZ c.F c.K.t 2 c.K.D [6,9] (((paK c.K [7,9]).drop 0).take (nP c.K))).length=1:=by rw [pt,x4];rfl
  rw [pt,x4,x5] at hB1
  rw [pt,x4,x6] at hB2
  rw [pt,x4] at hB3
  have E1:((A.1.2.2.1.drop 0).take 2)=[7,9]:=by rw [zm];exact hA1.eq
  have E2:((B.1.2.2.1.drop 0).take 2)=[7,9]:=by rw [zm];exact hB1.eq
  have E3:((B.2.1.2.2.1.drop 0).take (nP c.K))=paK c.K [7,9]:=by rw [zm,← pl];exact hB2.eq
  have E4:B.2.2.2.2.2.1.take (dcZ c.F c.K.t 2 c.K.D [6,9] (((paK c.K [7,9]).drop 0).take (nP c.K))).length=[10]:=by rw [eZ];exact hB3.eq
  have a1:2≤A.1.2.2.2:=hA1.cap
  have a2:=hA1.len
  have b1:2≤B.1.2.2.2:=hB1.cap
  have b2:=hB1.len
  have b3:(paK c.K [7,9]).length≤B.2.1.2.2.2:=hB2.cap
  have b4:=hB2.len
  have b5:1≤B.2.2.2.2.2.2:=hB3.cap
  have b6:=hB3.len
  have e1:(ieq ((A.1.2.2.1.drop 0).take 2) [7,9] && true)=false:=e1
  rw [E1,ieq_yes rfl] at e1
  cases e1)
 all_goals try (
  rename_i y hy v hv b0 s hs w1 A hA w2 B hB w3 e1 w4
  change Os×Os at A
  change Os×Os×Oq at B
  have hA1:Ow [7,9] A.1:=hA.2.2.1
  have hB1:Ow (tnD c.K.D [6,9] (dcZ c.F c.K.t 2 c.K.D [6,9] (((paK c.K [7,9]).drop 0).take (nP c.K)))) B.1:=hB.2.2.2.1.1
  have hB2:Ow (tnP c.K.D (mkR c.K.D (((paK c.K [7,9]).drop 0).take (nP c.K))) (dcZ c.F c.K.t 2 c.K.D [6,9] (((paK c.K [7,9]).drop 0).take (nP c.K)))) B.2.1:=hB.2.2.2.1.2
  have hB3:Oqw (dcZ c.F c.K.t 2 c.K.D [6,9] (((paK c.K [7,9]).drop 0).take (nP c.K))) B.2.2:=hB.2.2.2.2
  have eZ:(dcZ c.F c.K.t 2 c.K.D [6,9] (((paK c.K [7,9]).drop 0).take (nP c.K))).length=1:=by rw [pt,x4];rfl
  rw [pt,x4,x5] at hB1
  rw [pt,x4,x6] at hB2
  rw [pt,x4] at hB3
  have E1:((A.1.2.2.1.drop 0).take 2)=[7,9]:=by rw [zm];exact hA1.eq
  have E2:((B.1.2.2.1.drop 0).take 2)=[7,9]:=by rw [zm];exact hB1.eq
  have E3:((B.2.1.2.2.1.drop 0).take (nP c.K))=paK c.K [7,9]:=by rw [zm,← pl];exact hB2.eq
  have E4:B.2.2.2.2.2.1.take (dcZ c.F c.K.t 2 c.K.D [6,9] (((paK c.K [7,9]).drop 0).take (nP c.K))).length=[10]:=by rw [eZ];exact hB3.eq
  have a1:2≤A.1.2.2.2:=hA1.cap
  have a2:=hA1.len
  have b1:2≤B.1.2.2.2:=hB1.cap
  have b2:=hB1.len
  have b3:(paK c.K [7,9]).length≤B.2.1.2.2.2:=hB2.cap
  have b4:=hB2.len
  have b5:1≤B.2.2.2.2.2.2:=hB3.cap
  have b6:=hB3.len
  exact ⟨by show 0+2≤B.1.2.2.1.length;omega,by show 0+2≤2;decide,hB1.nil,nofun,by show Byt8 ((B.1.2.2.1.drop 0).take 2);rw [E2];exact b79,b79⟩)
 all_goals try (
  rename_i y hy v hv b0 s hs w1 A hA w2 B hB w3 e1 w4 e2
  change Os×Os at A
  change Os×Os×Oq at B
  have hA1:Ow [7,9] A.1:=hA.2.2.1
  have hB1:Ow (tnD c.K.D [6,9] (dcZ c.F c.K.t 2 c.K.D [6,9] (((paK c.K [7,9]).drop 0).take (nP c.K)))) B.1:=hB.2.2.2.1.1
  have hB2:Ow (tnP c.K.D (mkR c.K.D (((paK c.K [7,9]).drop 0).take (nP c.K))) (dcZ c.F c.K.t 2 c.K.D [6,9] (((paK c.K [7,9]).drop 0).take (nP c.K)))) B.2.1:=hB.2.2.2.1.2
  have hB3:Oqw (dcZ c.F c.K.t 2 c.K.D [6,9] (((paK c.K [7,9]).drop 0).take (nP c.K))) B.2.2:=hB.2.2.2.2
  have eZ:(dcZ c.F c.K.t 2 c.K.D [6,9] (((paK c.K [7,9]).drop 0).take (nP c.K))).length=1:=by rw [pt,x4];rfl
  rw [pt,x4,x5] at hB1
  rw [pt,x4,x6] at hB2
  rw [pt,x4] at hB3
  have E1:((A.1.2.2.1.drop 0).take 2)=[7,9]:=by rw [zm];exact hA1.eq
  have E2:((B.1.2.2.1.drop 0).take 2)=[7,9]:=by rw [zm];exact hB1.eq
  have E3:((B.2.1.2.2.1.drop 0).take (nP c.K))=paK c.K [7,9]:=by rw [zm,← pl];exact hB2.eq
  have E4:B.2.2.2.2.2.1.take (dcZ c.F c.K.t 2 c.K.D [6,9] (((paK c.K [7,9]).drop 0).take (nP c.K))).length=[10]:=by rw [eZ];exact hB3.eq
  have a1:2≤A.1.2.2.2:=hA1.cap
  have a2:=hA1.len
  have b1:2≤B.1.2.2.2:=hB1.cap
  have b2:=hB1.len
  have b3:(paK c.K [7,9]).length≤B.2.1.2.2.2:=hB2.cap
  have b4:=hB2.len
  have b5:1≤B.2.2.2.2.2.2:=hB3.cap
  have b6:=hB3.len
  refine ⟨by show 0+nP c.K≤B.2.1.2.2.1.length;omega,by show 0+nP c.K≤(paK c.K [7,9]).length;omega,fun h0=>⟨by have:=(hB2.nil h0).1;show nP c.K=0;omega,(hB2.nil h0).2⟩,nofun,?_,?_⟩
  · show Byt8 ((B.2.1.2.2.1.drop 0).take (nP c.K));rw [E3];exact pb
  · show Byt8 (((paK c.K [7,9]).drop 0).take (nP c.K));rw [pt];exact pb)
 all_goals try (
  rename_i y hy v hv b0 s hs w1 A hA w2 B hB w3 e1 w4 e2
  change Os×Os at A
  change Os×Os×Oq at B
  have hA1:Ow [7,9] A.1:=hA.2.2.1
  have hB1:Ow (tnD c.K.D [6,9] (dcZ c.F c.K.t 2 c.K.D [6,9] (((paK c.K [7,9]).drop 0).take (nP c.K)))) B.1:=hB.2.2.2.1.1
  have hB2:Ow (tnP c.K.D (mkR c.K.D (((paK c.K [7,9]).drop 0).take (nP c.K))) (dcZ c.F c.K.t 2 c.K.D [6,9] (((paK c.K [7,9]).drop 0).take (nP c.K)))) B.2.1:=hB.2.2.2.1.2
  have hB3:Oqw (dcZ c.F c.K.t 2 c.K.D [6,9] (((paK c.K [7,9]).drop 0).take (nP c.K))) B.2.2:=hB.2.2.2.2
  have eZ:(dcZ c.F c.K.t 2 c.K.D [6,9] (((paK c.K [7,9]).drop 0).take (nP c.K))).length=1:=by rw [pt,x4];rfl
  rw [pt,x4,x5] at hB1
  rw [pt,x4,x6] at hB2
  rw [pt,x4] at hB3
  have E1:((A.1.2.2.1.drop 0).take 2)=[7,9]:=by rw [zm];exact hA1.eq
  have E2:((B.1.2.2.1.drop 0).take 2)=[7,9]:=by rw [zm];exact hB1.eq
  have E3:((B.2.1.2.2.1.drop 0).take (nP c.K))=paK c.K [7,9]:=by rw [zm,← pl];exact hB2.eq
  have E4:B.2.2.2.2.2.1.take (dcZ c.F c.K.t 2 c.K.D [6,9] (((paK c.K [7,9]).drop 0).take (nP c.K))).length=[10]:=by rw [eZ];exact hB3.eq
  have a1:2≤A.1.2.2.2:=hA1.cap
  have a2:=hA1.len
  have b1:2≤B.1.2.2.2:=hB1.cap
  have b2:=hB1.len
  have b3:(paK c.K [7,9]).length≤B.2.1.2.2.2:=hB2.cap
  have b4:=hB2.len
  have b5:1≤B.2.2.2.2.2.2:=hB3.cap
  have b6:=hB3.len
  have e2:(ieq ((B.1.2.2.1.drop 0).take 2) [7,9] && ieq ((B.2.1.2.2.1.drop 0).take (nP c.K)) (((paK c.K [7,9]).drop 0).take (nP c.K)))=false:=e2
  rw [E2,E3,pt,ieq_yes rfl,ieq_yes rfl] at e2
  cases e2)
 all_goals try (
  rename_i y hy v hv b0 s hs w1 A hA w2 B hB w3 e1 w4 e2 w5
  change Os×Os at A
  change Os×Os×Oq at B
  have hA1:Ow [7,9] A.1:=hA.2.2.1
  have hB1:Ow (tnD c.K.D [6,9] (dcZ c.F c.K.t 2 c.K.D [6,9] (((paK c.K [7,9]).drop 0).take (nP c.K)))) B.1:=hB.2.2.2.1.1
  have hB2:Ow (tnP c.K.D (mkR c.K.D (((paK c.K [7,9]).drop 0).take (nP c.K))) (dcZ c.F c.K.t 2 c.K.D [6,9] (((paK c.K [7,9]).drop 0).take (nP c.K)))) B.2.1:=hB.2.2.2.1.2
  have hB3:Oqw (dcZ c.F c.K.t 2 c.K.D [6,9] (((paK c.K [7,9]).drop 0).take (nP c.K))) B.2.2:=hB.2.2.2.2
  have eZ:(dcZ c.F c.K.t 2 c.K.D [6,9] (((paK c.K [7,9]).drop 0).take (nP c.K))).length=1:=by rw [pt,x4];rfl
  rw [pt,x4,x5] at hB1
  rw [pt,x4,x6] at hB2
  rw [pt,x4] at hB3
  have E1:((A.1.2.2.1.drop 0).take 2)=[7,9]:=by rw [zm];exact hA1.eq
  have E2:((B.1.2.2.1.drop 0).take 2)=[7,9]:=by rw [zm];exact hB1.eq
  have E3:((B.2.1.2.2.1.drop 0).take (nP c.K))=paK c.K [7,9]:=by rw [zm,← pl];exact hB2.eq
  have E4:B.2.2.2.2.2.1.take (dcZ c.F c.K.t 2 c.K.D [6,9] (((paK c.K [7,9]).drop 0).take (nP c.K))).length=[10]:=by rw [eZ];exact hB3.eq
  have a1:2≤A.1.2.2.2:=hA1.cap
  have a2:=hA1.len
  have b1:2≤B.1.2.2.2:=hB1.cap
  have b2:=hB1.len
  have b3:(paK c.K [7,9]).length≤B.2.1.2.2.2:=hB2.cap
  have b4:=hB2.len
  have b5:1≤B.2.2.2.2.2.2:=hB3.cap
  have b6:=hB3.len
  exact ⟨by show (dcZ c.F c.K.t 2 c.K.D [6,9] (((paK c.K [7,9]).drop 0).take (nP c.K))).length≤B.2.2.2.2.2.1.length;omega,by show 1≤1;decide,by show (dcZ c.F c.K.t 2 c.K.D [6,9] (((paK c.K [7,9]).drop 0).take (nP c.K))).length<140737488355000;omega,fun h0=>(by have h1:1=0:=(hB3.nil h0).1;omega),nofun⟩)
 all_goals try (
  rename_i y hy v hv b0 s hs w1 A hA w2 B hB w3 e1 w4 e2 w5 e3
  change Os×Os at A
  change Os×Os×Oq at B
  have hA1:Ow [7,9] A.1:=hA.2.2.1
  have hB1:Ow (tnD c.K.D [6,9] (dcZ c.F c.K.t 2 c.K.D [6,9] (((paK c.K [7,9]).drop 0).take (nP c.K)))) B.1:=hB.2.2.2.1.1
  have hB2:Ow (tnP c.K.D (mkR c.K.D (((paK c.K [7,9]).drop 0).take (nP c.K))) (dcZ c.F c.K.t 2 c.K.D [6,9] (((paK c.K [7,9]).drop 0).take (nP c.K)))) B.2.1:=hB.2.2.2.1.2
  have hB3:Oqw (dcZ c.F c.K.t 2 c.K.D [6,9] (((paK c.K [7,9]).drop 0).take (nP c.K))) B.2.2:=hB.2.2.2.2
  have eZ:(dcZ c.F c.K.t 2 c.K.D [6,9] (((paK c.K [7,9]).drop 0).take (nP c.K))).length=1:=by rw [pt,x4];rfl
  rw [pt,x4,x5] at hB1
  rw [pt,x4,x6] at hB2
  rw [pt,x4] at hB3
  have E1:((A.1.2.2.1.drop 0).take 2)=[7,9]:=by rw [zm];exact hA1.eq
  have E2:((B.1.2.2.1.drop 0).take 2)=[7,9]:=by rw [zm];exact hB1.eq
  have E3:((B.2.1.2.2.1.drop 0).take (nP c.K))=paK c.K [7,9]:=by rw [zm,← pl];exact hB2.eq
  have E4:B.2.2.2.2.2.1.take (dcZ c.F c.K.t 2 c.K.D [6,9] (((paK c.K [7,9]).drop 0).take (nP c.K))).length=[10]:=by rw [eZ];exact hB3.eq
  have a1:2≤A.1.2.2.2:=hA1.cap
  have a2:=hA1.len
  have b1:2≤B.1.2.2.2:=hB1.cap
  have b2:=hB1.len
  have b3:(paK c.K [7,9]).length≤B.2.1.2.2.2:=hB2.cap
  have b4:=hB2.len
  have b5:1≤B.2.2.2.2.2.2:=hB3.cap
  have b6:=hB3.len
  have e3:ieq (B.2.2.2.2.2.1.take (dcZ c.F c.K.t 2 c.K.D [6,9] (((paK c.K [7,9]).drop 0).take (nP c.K))).length) [10]=false:=e3
  rw [E4,ieq_yes rfl] at e3
  cases e3)
 all_goals (
  rename_i y hy v hv b0 s hs w1 A hA w2 B hB w3 e1 w4 e2 w5
  change Os×Os at A
  change Os×Os×Oq at B
  have hA1:Ow [7,9] A.1:=hA.2.2.1
  have hB1:Ow (tnD c.K.D [6,9] (dcZ c.F c.K.t 2 c.K.D [6,9] (((paK c.K [7,9]).drop 0).take (nP c.K)))) B.1:=hB.2.2.2.1.1
  have hB2:Ow (tnP c.K.D (mkR c.K.D (((paK c.K [7,9]).drop 0).take (nP c.K))) (dcZ c.F c.K.t 2 c.K.D [6,9] (((paK c.K [7,9]).drop 0).take (nP c.K)))) B.2.1:=hB.2.2.2.1.2
  have hB3:Oqw (dcZ c.F c.K.t 2 c.K.D [6,9] (((paK c.K [7,9]).drop 0).take (nP c.K))) B.2.2:=hB.2.2.2.2
  have eZ:(dcZ c.F c.K.t 2 c.K.D [6,9] (((paK c.K [7,9]).drop 0).take (nP c.K))).length=1:=by rw [pt,x4];rfl
  rw [pt,x4,x5] at hB1
  rw [pt,x4,x6] at hB2
  rw [pt,x4] at hB3
  have E1:((A.1.2.2.1.drop 0).take 2)=[7,9]:=by rw [zm];exact hA1.eq
  have E2:((B.1.2.2.1.drop 0).take 2)=[7,9]:=by rw [zm];exact hB1.eq
  have E3:((B.2.1.2.2.1.drop 0).take (nP c.K))=paK c.K [7,9]:=by rw [zm,← pl];exact hB2.eq
  have E4:B.2.2.2.2.2.1.take (dcZ c.F c.K.t 2 c.K.D [6,9] (((paK c.K [7,9]).drop 0).take (nP c.K))).length=[10]:=by rw [eZ];exact hB3.eq
  have a1:2≤A.1.2.2.2:=hA1.cap
  have a2:=hA1.len
  have b1:2≤B.1.2.2.2:=hB1.cap
  have b2:=hB1.len
  have b3:(paK c.K [7,9]).length≤B.2.1.2.2.2:=hB2.cap
  have b4:=hB2.len
  have b5:1≤B.2.2.2.2.2.2:=hB3.cap
  have b6:=hB3.len
  show ieq (B.2.2.2.2.2.1.take (dcZ c.F c.K.t 2 c.K.D [6,9] (((paK c.K [7,9]).drop 0).take (nP c.K))).length) [10]=true
  rw [E4];exact ieq_yes rfl)
end
end Go.Vx
namespace Go.Vx
open Go Go.Proofs
noncomputable section
variable [Gl]
section
variable {F:Gf} (K:Kd F)
end
end
end Go.Vx
namespace Go.Vx
open Go Go.Proofs Go.Vx.Fd
noncomputable section
variable [Gl]
theorem does_post {P:Program} {tg:Tg} {mem:List (Ck C0)} {args:List SV} {Y:Type} {post post':Y→Prop} {res:Y→SV} {out:Y→List (Ck C0)} (h:Does P tg mem args [⟨Y,post,res,out⟩]) (hp:∀ y,post y→post' y):Does P tg mem args [⟨Y,post',res,out⟩]:=by
 intro w hm
 obtain ⟨f,vals,hr,hc⟩:=h w hm
 refine ⟨f,vals,hr,hc.mono ?_⟩
 rintro e w' ⟨r,m',he,hm',hx,B,hB,y,hy,h1⟩
 obtain rfl:=List.mem_singleton.1 hB
 exact ⟨r,m',he,hm',hx,_,.head _,y,hp y hy,h1⟩
theorem Ow.sl {L:List Int} {y:Os} (h:Ow L y) {n:Nat} (e:L.length=n) (hb:n<1000000000):Sl3.pre (y.1,y.2.1,0,y.2.2.1,0,n,y.2.2.2)∧(y.2.2.1.drop 0).take n=L:=by
 have h1:=h.cap
 have h2:=h.len
 subst e
 exact ⟨⟨by show 0+L.length≤y.2.2.1.length;omega,hb,h.nil⟩,h.eq⟩
theorem plainE:∀ g,g<6→Plain C0 (Gl.A g)
 | 0,_=>⟨0,_,_,List.Mem.head _⟩
 | 1,_=>⟨1,_,_,List.Mem.head _⟩
 | 2,_=>⟨2,_,_,List.Mem.head _⟩
 | 3,_=>⟨3,_,_,List.Mem.head _⟩
 | 4,_=>⟨4,_,_,List.Mem.head _⟩
 | 5,_=>⟨5,_,_,List.Mem.head _⟩
 | n+6,h=>absurd h (by omega)
section
variable {F:Gf} (K:Kd F) (d:Nat) (A B:List Int)
abbrev DcIs:(fcDecode F).X→Prop:=fun (_,(_,_,t',d',g',r),_,(o,b,q,l,i,n,c),(o',b',q',l',i',n',c'))=>(t'=K.t∧d'=d∧g'=K.D∧r=nP K)∧((n=d∧Sl3.pre (o,b,q,l,i,n,c))∧n'=nP K∧Sl3.pre (o',b',q',l',i',n',c'))∧(l.drop i).take n=A∧(l'.drop i').take n'=B
abbrev mdC:Prop:=clnB (dcS F K.t d K.D A B)=true
abbrev mdM:Prop:=clnB (dcS F K.t d K.D A B)=false∧¬ (K.t<dcN F K.t d K.D A B∨(dcL F K.t d K.D A B).length≠dcN F K.t d K.D A B+1)∧(dcZ F K.t d K.D A B).length=dcN F K.t d K.D A B
abbrev mdX:Prop:=clnB (dcS F K.t d K.D A B)=false∧((K.t<dcN F K.t d K.D A B∨(dcL F K.t d K.D A B).length≠dcN F K.t d K.D A B+1)∨(dcZ F K.t d K.D A B).length≠dcN F K.t d K.D A B)
abbrev mdU:List Int:=tnD K.D A (dcZ F K.t d K.D A B)
abbrev mdV:List Int:=tnP K.D (mkR K.D B) (dcZ F K.t d K.D A B)
theorem md_one:mdC K d A B∨mdM K d A B∨mdX K d A B:=by
 unfold mdC mdM mdX
 cases h:clnB (dcS F K.t d K.D A B) with
 | true=>exact .inl rfl
 | false=>
   by_cases h1:(K.t<dcN F K.t d K.D A B∨(dcL F K.t d K.D A B).length≠dcN F K.t d K.D A B+1)
   · exact .inr (.inr ⟨rfl,.inl h1⟩)
   · by_cases h2:(dcZ F K.t d K.D A B).length=dcN F K.t d K.D A B
     · exact .inr (.inl ⟨rfl,h1,h2⟩)
     · exact .inr (.inr ⟨rfl,.inr h2⟩)
structure DcOK:Prop where
 t:K.t≤40
 d1:1≤d
 d2:d<100000
 g2:K.D<100000
 a:Byt8 A
 b:Byt8 B
 la:A.length=d
 lb:B.length=nP K
variable {K d A B}
theorem dc_pre (H:DcOK K d A B) (x:(fcDecode F).X) (h:DcIs K d A B x):(fcDecode F).pre x:=by
 obtain ⟨_,⟨bC,qC,t',d',g',r⟩,_,⟨o,b,q,l,i,n,c⟩,⟨o',b',q',l',i',n',c'⟩⟩:=x
 obtain ⟨⟨rfl,rfl,rfl,rfl⟩,⟨⟨rfl,h1⟩,rfl,h2⟩,h3,h4⟩:=h
 exact ⟨⟨H.t,H.d2,H.g2,rfl,H.d1,K.D1⟩,⟨h1,h2⟩,by rw [h3];exact H.a,by rw [h4];exact H.b⟩
def fcDcC (H:DcOK K d A B) (hC:mdC K d A B) (k:Option Nat):Fc Tryz.prog C0 where
 tg:=(fcDecode F).tg
 X:=(fcDecode F).X
 args:=(fcDecode F).args
 mem:=(fcDecode F).mem
 pre:=DcIs K d A B
 alts:=fun ((bd,qd),(bC,qC,t,d',g,r),(bF,qF,be,qe,bl,ql),(o,b,q,l,i,n,c),(o',b',q',l',i',n',c'))=>[⟨Os×Os,fun y=>Ow A y.1∧Ow (mkR K.D B) y.2,fun y=>.tup [.sl 7 0 d' y.1.2.2.2,.sl 8 0 r y.2.2.2.2,.nils,.nili],fun y=>dcC F bd qd bC qC t d' g r bF qF be qe bl ql ++ [⟨b,q,1,false,some o,.rows 5 l⟩,⟨b',q',1,false,some o',.rows 5 l'⟩,osB true y.1,osB true y.2]⟩]
 mat vs m:=match k with
  | none=>(fcDecode F).mat vs m
  | some k=>match zi m.length k with
    | true=>(fcDecode F).mat vs m
    | false=>none
 ok x h:=by
  have hp:=dc_pre H x h
  obtain ⟨⟨bd,qd⟩,⟨bC,qC,t',d',g',r⟩,⟨bF,qF,be,qe,bl,ql⟩,⟨o,b,q,l,i,n,c⟩,⟨o',b',q',l',i',n',c'⟩⟩:=x
  obtain ⟨⟨rfl,rfl,rfl,rfl⟩,⟨⟨rfl,h1⟩,rfl,h2⟩,h3,h4⟩:=h
  refine does_post (does_pick _ ((fcDecode F).ok _ hp) (dcPC_ok F _ hp ⟨rfl,rfl,by show clnB (dcS F K.t n K.D _ _)=true;rw [h3,h4];exact hC⟩)) fun y hy => ?_
  obtain ⟨_,_,y1,y2⟩:=hy
  rw [h3] at y1
  rw [h4] at y2
  exact ⟨y1,y2⟩
def fcDcM (H:DcOK K d A B) (hM:mdM K d A B) (k:Option Nat):Fc Tryz.prog C0 where
 tg:=(fcDecode F).tg
 X:=(fcDecode F).X
 args:=(fcDecode F).args
 mem:=(fcDecode F).mem
 pre:=DcIs K d A B
 alts:=fun ((bd,qd),(bC,qC,t,d',g,r),(bF,qF,be,qe,bl,ql),(o,b,q,l,i,n,c),(o',b',q',l',i',n',c'))=>[⟨Os×Os×Oq,fun y=>(Ow (mdU K d A B) y.1∧Ow (mdV K d A B) y.2.1)∧Oqw (dcZ F K.t d K.D A B) y.2.2,fun y=>.tup [.sl 7 0 d' y.1.2.2.2,.sl 8 0 r y.2.1.2.2.2,.sl 9 0 (dcZ F K.t d K.D A B).length y.2.2.2.2.2.2,.nili],fun y=>dcC F bd qd bC qC t d' g r bF qF be qe bl ql ++ [⟨b,q,1,false,some o,.rows 5 l⟩,⟨b',q',1,false,some o',.rows 5 l'⟩,osB true y.1,osB true y.2.1,oqC true y.2.2]⟩]
 mat vs m:=match k with
  | none=>(fcDecode F).mat vs m
  | some k=>match zi m.length k with
    | true=>(fcDecode F).mat vs m
    | false=>none
 ok x h:=by
  have hp:=dc_pre H x h
  obtain ⟨⟨bd,qd⟩,⟨bC,qC,t',d',g',r⟩,⟨bF,qF,be,qe,bl,ql⟩,⟨o,b,q,l,i,n,c⟩,⟨o',b',q',l',i',n',c'⟩⟩:=x
  obtain ⟨⟨rfl,rfl,rfl,rfl⟩,⟨⟨rfl,h1⟩,rfl,h2⟩,h3,h4⟩:=h
  have hh:=does_pick _ ((fcDecode F).ok _ hp) (dcPM_ok F _ hp ⟨rfl,rfl,by show clnB (dcS F K.t n K.D _ _)=false;rw [h3,h4];exact hM.1,by show ¬ (K.t<dcN F K.t n K.D _ _∨(dcL F K.t n K.D _ _).length≠dcN F K.t n K.D _ _+1);rw [h3,h4];exact hM.2.1,by show (dcZ F K.t n K.D _ _).length=dcN F K.t n K.D _ _;rw [h3,h4];exact hM.2.2⟩)
  subst h3 h4
  exact does_post hh fun y hy=>⟨hy.2.2.2.1,hy.2.2.2.2⟩
def fcDcX (H:DcOK K d A B) (hX:mdX K d A B):Fc Tryz.prog C0 where
 tg:=(fcDecode F).tg
 X:=(fcDecode F).X
 args:=(fcDecode F).args
 mem:=(fcDecode F).mem
 pre:=DcIs K d A B
 alts:=fun ((bd,qd),(bC,qC,t,d',g,r),(bF,qF,be,qe,bl,ql),(o,b,q,l,i,n,c),(o',b',q',l',i',n',c'))=>[⟨Unit,fun _=>True,fun _=>.tup [.nils,.nils,.nils,eV 1],fun _=>dcC F bd qd bC qC t d' g r bF qF be qe bl ql ++ [⟨b,q,1,false,some o,.rows 5 l⟩,⟨b',q',1,false,some o',.rows 5 l'⟩]⟩]
 mat:=(fcDecode F).mat
 ok x h:=by
  have hp:=dc_pre H x h
  obtain ⟨⟨bd,qd⟩,⟨bC,qC,t',d',g',r⟩,⟨bF,qF,be,qe,bl,ql⟩,⟨o,b,q,l,i,n,c⟩,⟨o',b',q',l',i',n',c'⟩⟩:=x
  obtain ⟨⟨rfl,rfl,rfl,rfl⟩,⟨⟨rfl,h1⟩,rfl,h2⟩,h3,h4⟩:=h
  exact does_post (does_pick _ ((fcDecode F).ok _ hp) (dcPX_ok F _ hp ⟨rfl,rfl,by show clnB (dcS F K.t n K.D _ _)=false;rw [h3,h4];exact hX.1,by show (K.t<dcN F K.t n K.D _ _∨(dcL F K.t n K.D _ _).length≠dcN F K.t n K.D _ _+1)∨(dcZ F K.t n K.D _ _).length≠dcN F K.t n K.D _ _;rw [h3,h4];exact hX.2⟩)) fun _ _=>trivial
structure RtW (K:Kd F) (d:Nat) (U V:List Int):Prop where
 ok:DcOK K d U V
 cl:mdC K d U V
 pa:paK K U=V
 fx:mkR K.D V=V
theorem rt_of (ht:K.t≤40) (h1:1≤d) (h2:d<100000) (h3:K.D<100000) {U V:List Int} (hU:Byt8 U) (hV:Byt8 V) (lU:U.length=d) (lV:V.length=nP K) (hz:∀ k,K.D≤k→bt V k=false) (hw:Wd K.Q (wdB K.D U V) (8*d+K.D)):RtW K d U V:=by
 have hm:=mk_id hV lV hz
 refine ⟨⟨ht,h1,h2,h3,hU,hV,lU,lV⟩,?_,?_,hm⟩
 · show clnB _=true
   rw [clean_word,hm];exact hw
 · rw [← lU] at hw
   exact (pa_of K hw hV lV hz).symm
theorem rt_C (H:DcOK K d A B) (hC:mdC K d A B):RtW K d A (mkR K.D B):=
 rt_of H.t H.d1 H.d2 H.g2 H.a (mkR_byt H.b) H.la (by rw [mkR_len];exact H.lb) (fun k hk=>by rw [mkR_bt H.b H.lb,decide_eq_false (by omega),yf]) ((clean_word K).1 hC)
theorem rt_M (H:DcOK K d A B) (hn:8*d+K.D≤F.N) (hM:mdM K d A B):RtW K d (mdU K d A B) (mdV K d A B):=by
 obtain ⟨_,h1,h2⟩:=hM
 have yB:Byt8 (mkR K.D B):=mkR_byt H.b
 have lB:(mkR K.D B).length=nP K:=by rw [mkR_len];exact H.lb
 have hP:nP K=(K.D+7) / 8:=rfl
 obtain ⟨dz1,dz2⟩:=dcZ_nodup (F:=F) (t:=K.t) (d:=d) (g:=K.D) (D:=A) (R:=B) hn
 obtain ⟨tb1,tb2,tb3,tb4⟩:=tn_bits (g:=K.D) (d:=d) (dcZ F K.t d K.D A B) A (mkR K.D B) H.a yB H.la (by omega) dz1 dz2
 have hW:=dec_right K (d:=d) (g:=K.D) (D:=A) (R:=B) hn (by omega) h2
 exact rt_of H.t H.d1 H.d2 H.g2 tb2 tb3 (by rw [tnD_len];exact H.la) (by rw [tnP_len];exact lB) (fun k hk=>by rw [tb4 k hk,mkR_bt H.b H.lb,decide_eq_false (by omega),yf]) (fun i h3 h4=>by rw [vl_congr tb1];exact hW i h3 h4)
end
end
end Go.Vx
namespace Go.Vx
open Go Go.Proofs Go.Vx.Fd
noncomputable section
variable [Gl]
theorem sub_len:∀ {P Q:List Nat},P.Nodup→(∀ x∈P,x∈Q)→P.length≤Q.length
 | [],Q,_,_=>zg _
 | x :: P,Q,hn,hs=>by
   obtain ⟨n1,n2⟩:=List.nodup_cons.1 hn
   have hx:=hs x (xp ..)
   have h:=sub_len (P:=P) (Q:=Q.erase x) n2 fun y hy=>(List.mem_erase_of_ne fun e=>by rw [e] at hy;exact n1 hy).2 (hs y (yw _ hy))
   rw [List.length_erase_of_mem hx] at h
   have:=List.length_pos_of_mem hx
   rw [List.length_cons]
   omega
section
variable {F:Gf} (K:Kd F)
def toldL (n:Nat) (S:List Int):List Int:=((xq n).filter fun a=>decide (a∈S.map uh)).map fun a:Nat=>(a:Int)
theorem toldL_nat {n:Nat} {S:List Int}:(toldL n S).map uh=(xq n).filter fun a=>decide (a∈S.map uh):=by
 unfold toldL
 rw [td]
 exact (xm fun a _=>zu a).trans (ni _)
theorem toldL_len {n:Nat} {S:List Int} (hS:(S.map uh).Nodup) (hp:∀ p∈S.map uh,p<n):(toldL n S).length=S.length:=by
 have e:(toldL n S).length=((xq n).filter fun a=>decide (a∈S.map uh)).length:=by unfold toldL;rw [zn]
 rw [e]
 refine Nat.le_antisymm ?_ ?_
 · have:=sub_len (P:=(xq n).filter fun a=>decide (a∈S.map uh)) (Q:=S.map uh) (List.Nodup.sublist qi ox) fun x hx=>ng (List.mem_filter.1 hx).2
   rwa [zn] at this
 · have:=sub_len (P:=S.map uh) (Q:=(xq n).filter fun a=>decide (a∈S.map uh)) hS fun x hx=>List.mem_filter.2 ⟨List.mem_range.2 (hp x hx),decide_eq_true hx⟩
   rwa [zn] at this
variable {d:Nat} {A S:List Int}
end
end
end Go.Vx
namespace Go.Vx
open Go Go.Proofs
noncomputable section
variable [Gl]
theorem xbits_ok (m t:Int) (n:Nat) (o:Bool) (b q:Nat) (l:List Int) (L c:Nat) (D:Nat) (hn:n<1000000) (hD:D<1000000):Tells (C:=C0) Tryz.prog (.fn 24) [⟨b,q,1,false,some o,.rows 5 l⟩] [xcV m t (n:Int) 0 L c (D:Int)] (.int .i64 ((8*n+D:Nat):Int)):=by
 refine loc_pc (P:=Tryz.prog) (E:=⟨[],[],9,[],[],[],none⟩) (L:=[]) mix Tryz.func24 rfl (by kernel_rfl) (by kernel_rfl) rfl rfl ?_
 ((conv=>arg 1;reduce);with_reducible repeat' first | exact ty | refine ta ?_ ?_ | refine ti fun _ => ?_ | refine tf fun _ => ?_ | refine tl ?_)
 all_goals try exact vlf
 all_goals try (refine inR64 ?_ ?_ <;> omega)
 all_goals try (show 8*(n:Int)+(D:Int)=((8*n+D:Nat):Int);omega)
def pcXbits:Pc Tryz.prog C0 where
 tg:=.fn 24
 X:=(Int×Int×Nat)×(Bool×Nat×Nat×List Int×Nat×Nat)×Nat
 args:=fun ((m,t,n),(o,b,q,l,L,c),D)=>[xcV m t (n:Int) 0 L c (D:Int)]
 mem:=fun ((m,t,n),(o,b,q,l,L,c),D)=>[⟨b,q,1,false,some o,.rows 5 l⟩]
 pre:=fun ((m,t,n),(o,b,q,l,L,c),D)=>n<1000000∧D<1000000
 res:=fun ((m,t,n),(o,b,q,l,L,c),D)=>.int .i64 ((8*n+D:Nat):Int)
 mat vs m:=match vs with
  | [.agg [.int _ x,.int _ t,.int _ (n:Nat),.sl s _ L c,.int _ (D:Nat)]]=>match nth m s with
    | ⟨b,q,_,_,g,.rows 5 l⟩=>some (((x,t,n),(onOf g,b,q,l,L,c),D),[s])
    | _=>none
  | _=>none
 ok:=fun ((m,t,n),(o,b,q,l,L,c),D) h=>xbits_ok m t n o b q l L c D h.1 h.2
section
variable {F:Gf} (K:Kd F) (d:Nat)
end
end
end Go.Vx
namespace Go.Vx
open Go Go.Proofs
noncomputable section
variable [Gl]
section
variable {F:Gf} (K:Kd F) (d:Nat)
def ocZ (A B:List Int):List Int:=if clnB (dcS F K.t d K.D A B)=true then [] else dcZ F K.t d K.D A B
theorem ocZ_C {A B:List Int} (h:mdC K d A B):ocZ K d A B=[]:=by unfold ocZ;exact if_pos h
theorem ocZ_M {A B:List Int} (h:mdM K d A B):ocZ K d A B=dcZ F K.t d K.D A B:=by
 unfold ocZ
 exact if_neg fun e=>by rw [h.1] at e;cases e
def fcDeT:Fc Tryz.prog C0 where
 tg:=(fcDecode F).tg
 X:=(fcDecode F).X
 args:=(fcDecode F).args
 mem:=(fcDecode F).mem
 pre:=fun (u,v,x,(o,b,q,l,i,n,c),(o',b',q',l',i',n',c'))=>DcIs K d ((l.drop i).take n) ((l'.drop i').take n') (u,v,x,(o,b,q,l,i,n,c),(o',b',q',l',i',n',c'))∧DcOK K d ((l.drop i).take n) ((l'.drop i').take n')∧(mdC K d ((l.drop i).take n) ((l'.drop i').take n')∨mdM K d ((l.drop i).take n) ((l'.drop i').take n'))
 alts:=fun ((bd,qd),(bC,qC,t,d',g,r),(bF,qF,be,qe,bl,ql),(o,b,q,l,i,n,c),(o',b',q',l',i',n',c'))=>[⟨Os×Os×Oq,fun y=>(Ow (tnD K.D ((l.drop i).take n) (ocZ K d ((l.drop i).take n) ((l'.drop i').take n'))) y.1∧Ow (tnP K.D (mkR K.D ((l'.drop i').take n')) (ocZ K d ((l.drop i).take n) ((l'.drop i').take n'))) y.2.1)∧Oqw (ocZ K d ((l.drop i).take n) ((l'.drop i').take n')) y.2.2,fun y=>.tup [.sl 7 0 d' y.1.2.2.2,.sl 8 0 r y.2.1.2.2.2,.sl 9 0 (ocZ K d ((l.drop i).take n) ((l'.drop i').take n')).length y.2.2.2.2.2.2,.nili],fun y=>dcC F bd qd bC qC t d' g r bF qF be qe bl ql ++ [⟨b,q,1,false,some o,.rows 5 l⟩,⟨b',q',1,false,some o',.rows 5 l'⟩,osB true y.1,osB true y.2.1,oqC true y.2.2]⟩]
 mat:=(fcDecode F).mat
 ok:=fun ((bd,qd),(bC,qC,t,d',g,r),(bF,qF,be,qe,bl,ql),(o,b,q,l,i,n,c),(o',b',q',l',i',n',c')) h=>by
  rcases h.2.2 with hC | hM
  · have hd:=(fcDcC h.2.1 hC none).ok ((bd,qd),(bC,qC,t,d',g,r),(bF,qF,be,qe,bl,ql),(o,b,q,l,i,n,c),(o',b',q',l',i',n',c')) h.1
    intro w hm
    obtain ⟨f,vals,hr,hc⟩:=hd w hm
    refine ⟨f,vals,hr,hc.mono ?_⟩
    rintro e w' ⟨r',m',he,hm',hx,B,hB,y,hy,h1,h2⟩
    obtain rfl:=List.mem_singleton.1 hB
    have hk:memLt m'.length m'=true:=by rw [h2];rfl
    have ho:=(MemOK.offs (o:=[oqC true ((false,0,0,[],0):Oq)]) hm' hk fun x hx=>by
     rw [List.mem_singleton.1 hx]
     exact ⟨rfl,fun t y hy=>(by
      rcases hy with ⟨l,e,hy⟩ | ⟨_,_,_,e,_⟩
      · injection e with e1 e2
        subst e1
        rw [← eq_of_heq e2] at hy
        cases hy
      · cases e),fun n=>rfl⟩).1
    refine ⟨.tup [.sl 7 0 d' y.1.2.2.2,.sl 8 0 r y.2.2.2.2,.sl 9 0 (ocZ K d ((l.drop i).take n) ((l'.drop i').take n')).length 0,.nili],m' ++ [oqC true ((false,0,0,[],0):Oq)],?_,ho,⟨?_,fun k hk => ?_,fun k h3 h4 h5 => ?_⟩,_,.head _,(y.1,y.2,(false,0,0,[],0)),⟨⟨by show Ow (tnD K.D _ (ocZ K d _ _)) _;rw [ocZ_C K d hC,tnD_zero];exact hy.1,by show Ow (tnP K.D _ (ocZ K d _ _)) _;rw [ocZ_C K d hC,tnP_zero];exact hy.2⟩,by show Oqw (ocZ K d _ _) _;rw [ocZ_C K d hC];exact ⟨rfl,zw _,zw _,fun _=>⟨rfl,rfl⟩⟩⟩,rfl,by rw [h2];rfl⟩
    · rw [he,h1,h2,ocZ_C K d hC];rfl
    · exact xl hx.len (by rw [zx];omega)
    · rw [nth_app,if_pos (Nat.lt_of_lt_of_le hk hx.len)]
      exact hx.same k hk
    · rw [nth_app] at h5 ⊢
      by_cases hk:k<m'.length
      · rw [if_pos hk] at h5 ⊢
        exact hx.new k h3 hk h5
      · rw [if_neg hk] at h5 ⊢
        rw [zx] at h4
        have h4:k<m'.length+1:=h4
        rw [show k - m'.length=0 by omega];rfl
  · have hd:=(fcDcM h.2.1 hM none).ok ((bd,qd),(bC,qC,t,d',g,r),(bF,qF,be,qe,bl,ql),(o,b,q,l,i,n,c),(o',b',q',l',i',n',c')) h.1
    intro w hm
    obtain ⟨f,vals,hr,hc⟩:=hd w hm
    refine ⟨f,vals,hr,hc.mono ?_⟩
    rintro e w' ⟨r',m',he,hm',hx,B,hB,y,hy,h1,h2⟩
    obtain rfl:=List.mem_singleton.1 hB
    refine ⟨r',m',he,hm',hx,_,.head _,y,⟨⟨by show Ow (tnD K.D _ (ocZ K d _ _)) _;rw [ocZ_M K d hM];exact hy.1.1,by show Ow (tnP K.D _ (ocZ K d _ _)) _;rw [ocZ_M K d hM];exact hy.1.2⟩,by show Oqw (ocZ K d _ _) _;rw [ocZ_M K d hM];exact hy.2⟩,?_,h2⟩
    rw [h1]
    show SV.tup [_,_,.sl 9 0 _ _,_]=SV.tup [_,_,.sl 9 0 (ocZ K d _ _).length _,_]
    rw [ocZ_M K d hM]
end
end
end Go.Vx
namespace Go.Vx
open Go Go.Proofs Go.Vx.Fd
noncomputable section
variable [Gl]
@[irreducible] def cnN (f:Nat→Bool) (n:Nat):Nat:=((xq n).filter f).length
section
variable {f h:Nat→Bool} {n:Nat}
theorem cnN_zero:cnN f 0=0:=by unfold cnN;rfl
theorem cnN_succ:cnN f (n+1)=cnN f n+(f n).toNat:=by
 unfold cnN
 rw [uc,sk,zx]
 congr 1
 cases e:f n
 · rw [rm (by rw [e];exact ve)];rfl
 · rw [rl e];rfl
theorem cnN_congr (e:∀ k,k<n→f k=h k):cnN f n=cnN h n:=by
 unfold cnN
 rw [nr fun k hk=>e k (List.mem_range.1 hk)]
theorem cnN_le:cnN f n≤n:=by
 unfold cnN
 exact xl (List.length_filter_le ..) (by rw [List.length_range];exact zw _)
end
@[irreducible] def dsL (A B:List Int) (n:Nat):Nat:=cnN (fun k=>bt A k ^^ bt B k) n
theorem dsL_zero {A B:List Int}:dsL A B 0=0:=by unfold dsL;exact cnN_zero
theorem dsL_succ {A B:List Int} {n:Nat}:dsL A B (n+1)=dsL A B n+(bt A n ^^ bt B n).toNat:=by unfold dsL;exact cnN_succ
theorem dsL_le {A B:List Int} {n:Nat}:dsL A B n≤n:=by unfold dsL;exact cnN_le
@[irreducible] def dfL (g d:Nat) (A P U V:List Int):List Nat:=(xq (8*d+g)).filter fun k=>wdB g U V k ^^ wdB g A P k
section
variable {g d r:Nat} {A P U V:List Int}
end
section
variable {F:Gf} (K:Kd F) {d:Nat} {A U V:List Int}
theorem far_few (H:DcOK K d U V) (hn:8*d+K.D≤F.N) (h:mdC K d U V∨mdM K d U V):
 (dfL K.D d (tnD K.D U (ocZ K d U V)) (tnP K.D (mkR K.D V) (ocZ K d U V)) U (mkR K.D V)).length=(ocZ K d U V).length∧(ocZ K d U V).length≤K.t∧RtW K d (tnD K.D U (ocZ K d U V)) (tnP K.D (mkR K.D V) (ocZ K d U V)):=by
 have hP:nP K=(K.D+7) / 8:=rfl
 have yV:Byt8 (mkR K.D V):=mkR_byt H.b
 have lV:(mkR K.D V).length=nP K:=by rw [mkR_len];exact H.lb
 rcases h with hC | hM
 · rw [ocZ_C K d hC,tnD_zero,tnP_zero]
   refine ⟨?_,zg _,rt_C H hC⟩
   have:dfL K.D d U (mkR K.D V) U (mkR K.D V)=[]:=by
    unfold dfL
    rw [List.filter_eq_nil_iff]
    intro k _
    rw [Bool.xor_self]
    exact ve
   rw [this];rfl
 · rw [ocZ_M K d hM]
   obtain ⟨z1,z2⟩:=dcZ_nodup (F:=F) (t:=K.t) (d:=d) (g:=K.D) (D:=U) (R:=V) hn
   obtain ⟨b1,b2,b3,b4⟩:=tn_bits (g:=K.D) (d:=d) (dcZ F K.t d K.D U V) U (mkR K.D V) H.a yV H.la (by omega) z1 z2
   refine ⟨?_,by rw [hM.2.2];have:=hM.2.1;omega,rt_M H hn hM⟩
   have e:dfL K.D d (tnD K.D U (dcZ F K.t d K.D U V)) (tnP K.D (mkR K.D V) (dcZ F K.t d K.D U V)) U (mkR K.D V)=(toldL (8*d+K.D) (dcZ F K.t d K.D U V)).map uh:=by
    rw [toldL_nat]
    unfold dfL
    refine nr fun k hk => ?_
    rw [b1 k (List.mem_range.1 hk)]
    unfold flips
    rw [← Bool.xor_assoc,Bool.xor_self,Bool.false_xor]
   rw [e,zn,toldL_len z1 z2]
theorem mdX_no (h:mdX K d U V):¬ (mdC K d U V∨mdM K d U V):=by
 rintro (hC | hM)
 · have:=h.1;rw [hC] at this;cases this
 · rcases h.2 with h | h
   · exact hM.2.1 h
   · exact h hM.2.2
end
end
end Go.Vx
namespace Go.Vx
open Go Go.Proofs
noncomputable section
variable [Gl]
theorem does_alt {P:Program} {tg:Tg} {mem:List (Ck C0)} {args:List SV} {Y:Type} {post post':Y→Prop} {res:Y→SV} {out:Y→List (Ck C0)} {alts:List (Alt C0)} (h:Does P tg mem args [⟨Y,post,res,out⟩]) (hp:∀ y,post y→post' y) (hm:⟨Y,post',res,out⟩∈alts):Does P tg mem args alts:=by
 intro w hw
 obtain ⟨f,vals,hr,hc⟩:=h w hw
 refine ⟨f,vals,hr,hc.mono ?_⟩
 rintro e w' ⟨r,m',he,hm',hx,B,hB,y,hy,h1⟩
 obtain rfl:=List.mem_singleton.1 hB
 exact ⟨r,m',he,hm',hx,_,hm,y,hp y hy,h1⟩
section
variable {F:Gf} (K:Kd F) (d:Nat)
end
theorem rbitX_ok (o:Bool) (b q:Nat) (l:List Int) (i n c:Nat) (z:Int) (h:pcRbit.pre ((o,b,q,l,i,n,c),z)):Tells (C:=C0) Tryz.prog (.fn 46) [⟨b,q,1,false,some o,.rows 5 l⟩] [.sl 0 i n c,.int .i64 z] (.int .i64 ((bt ((l.drop i).take n) z.toNat).toNat:Int)):=by
 refine loc_pc (P:=Tryz.prog) (E:=⟨[],[pcRbit],8,[],[],[],none⟩) (L:=[]) mix Tryz.func46 rfl (by kernel_rfl) (by kernel_rfl) rfl rfl ?_
 ((conv=>arg 1;reduce);with_reducible repeat' first | exact ty | refine ta ?_ ?_ | refine ti fun _ => ?_ | refine tf fun _ => ?_ | refine tl ?_)
 all_goals try exact vlf
 all_goals exact h
def pcRbitX:Pc Tryz.prog C0 where
 tg:=.fn 46
 X:=Sl3×Int
 args:=fun ((o,b,q,l,i,n,c),z)=>[.sl 0 i n c,.int .i64 z]
 mem:=fun ((o,b,q,l,i,n,c),z)=>[⟨b,q,1,false,some o,.rows 5 l⟩]
 pre:=pcRbit.pre
 res:=fun ((o,b,q,l,i,n,c),z)=>.int .i64 ((bt ((l.drop i).take n) z.toNat).toNat:Int)
 mat:=pcRbit.mat
 ok:=fun ((o,b,q,l,i,n,c),z) h=>rbitX_ok o b q l i n c z h
def Rd3 (P Q:List Int):Inv' C0:=⟨3,Nat,fun i=>[(5,.int .i64 (dsL P Q i:Int)),(6,.int .i64 (i:Int))],fun _ m=>m,fun i=>i≤8*min P.length Q.length,fun i=>8*min P.length Q.length - i⟩
abbrev dsR (P Q:List Int):Nat:=dsL P Q (8*min P.length Q.length)+8*(max P.length Q.length - min P.length Q.length)
theorem rdist_ok (o:Bool) (b q:Nat) (l:List Int) (i n c:Nat) (o2:Bool) (b2 q2:Nat) (l2:List Int) (i2 n2 c2:Nat) (h:Sl3.pre (o,b,q,l,i,n,c)) (h2:Sl3.pre (o2,b2,q2,l2,i2,n2,c2)) (P Q:List Int) (hP:(l.drop i).take n=P) (hQ:(l2.drop i2).take n2=Q) (kP:Byt8 P) (kQ:Byt8 Q):
 Tells (C:=C0) Tryz.prog (.fn 21) [⟨b,q,1,false,some o,.rows 5 l⟩,⟨b2,q2,1,false,some o2,.rows 5 l2⟩] [.sl 0 i n c,.sl 1 i2 n2 c2] (.int .i64 (dsR P Q:Int)):=by
 have lP:P.length=n:=by rw [← hP];exact row_len h.1
 have lQ:Q.length=n2:=by rw [← hQ];exact row_len h2.1
 have n1:=h.2.1
 have n3:=h2.2.1
 refine loc_pc (P:=Tryz.prog) (E:=⟨[],[pcRbitX],40,[],[],[],none⟩) (L:=[Rd3 P Q]) mix Tryz.func21 rfl (by kernel_rfl) (by kernel_rfl) rfl rfl ?_
 ((conv=>arg 1;reduce);with_reducible repeat' first | exact ty | refine ta ?_ ?_ | refine ti fun _ => ?_ | refine tf fun _ => ?_ | refine tl ?_)
 all_goals try exact vlf
 · refine Stands.one (0:Nat) ⟨zg _,?_⟩
   ((conv=>arg 1;reduce);with_reducible repeat' first | exact ty | refine ta ?_ ?_ | refine ti fun _ => ?_ | refine tf fun _ => ?_ | refine tl ?_)
   all_goals first | exact vlf | (show (0:Int)=((dsL P Q 0:Nat):Int);rw [dsL_zero];rfl) | (show ((dsL P Q 0:Nat):Int)=(0:Int);rw [dsL_zero];rfl)
 iterate 2 (focus
  rename_i j hj d
  change Nat at j
  have d:(j:Int)<8*min (n:Int) (n2:Int):=ng d
  first
  | exact ⟨h,⟨by show 0≤(j:Int);omega,by show (j:Int)<_;omega⟩,hP.symm ▸ kP⟩
  | exact ⟨h2,⟨by show 0≤(j:Int);omega,by show (j:Int)<_;omega⟩,hQ.symm ▸ kQ⟩)
 iterate 5 (focus
  rename_i j hj d e
  change Nat at j
  have hj:j≤8*min P.length Q.length:=hj
  have d:(j:Int)<8*min (n:Int) (n2:Int):=ng d
  have dl:=dsL_le (A:=P) (B:=Q) (n:=j)
  have ds:=dsL_succ (A:=P) (B:=Q) (n:=j)
  rw [hP,hQ,zu] at e
  first
  | exact inR64 (n:=(dsL P Q j:Int)+1) (by omega) (by omega)
  | exact inR64 (n:=(j:Int)+1) (by omega) (by omega)
  | (have eV:(bt P j ^^ bt Q j)=true:=by
      have e:=ng e
      cases h1:bt P j <;> cases h2:bt Q j <;> rw [h1,h2] at e <;> first | rfl | exact absurd rfl e
     rw [eV] at ds
     have eD:(dsL P Q j:Int)+1=((dsL P Q (j+1):Nat):Int):=by rw [ds];rfl
     refine Stands.one (j+1:Nat) ⟨by show j+1≤_;omega,by show _ - (j+1)<_ - j;omega,?_⟩
     ((conv=>arg 1;reduce);with_reducible repeat' first | exact ty | refine ta ?_ ?_ | refine ti fun _ => ?_ | refine tf fun _ => ?_ | refine tl ?_)
     all_goals first | exact vlf | exact eD | exact eD.symm)
  | (have eV:(bt P j ^^ bt Q j)=false:=by
      have e:=nf e
      cases h1:bt P j <;> cases h2:bt Q j <;> rw [h1,h2] at e <;> first | rfl | exact absurd (by decide) e
     rw [eV] at ds
     have eD:(dsL P Q j:Int)=((dsL P Q (j+1):Nat):Int):=by rw [ds];rfl
     refine Stands.one (j+1:Nat) ⟨by show j+1≤_;omega,by show _ - (j+1)<_ - j;omega,?_⟩
     ((conv=>arg 1;reduce);with_reducible repeat' first | exact ty | refine ta ?_ ?_ | refine ti fun _ => ?_ | refine tf fun _ => ?_ | refine tl ?_)
     all_goals first | exact vlf | exact eD | exact eD.symm))
 iterate 2 (focus
  rename_i j hj d
  change Nat at j
  have hj:j≤8*min P.length Q.length:=hj
  have d:¬ (j:Int)<8*min (n:Int) (n2:Int):=nf d
  obtain rfl:j=8*min P.length Q.length:=by omega
  have dl:=dsL_le (A:=P) (B:=Q) (n:=8*min P.length Q.length)
  first
  | (refine inR64 ?_ ?_ <;> omega)
  | (show (dsL P Q (8*min P.length Q.length):Int)+8*(max (n:Int) (n2:Int) - min (n:Int) (n2:Int))=((dsL P Q (8*min P.length Q.length)+8*(max P.length Q.length - min P.length Q.length):Nat):Int);omega))
def pcRdist:Pc Tryz.prog C0 where
 tg:=.fn 21
 X:=Sl3×Sl3
 args:=fun ((o,b,q,l,i,n,c),(o2,b2,q2,l2,i2,n2,c2))=>[.sl 0 i n c,.sl 1 i2 n2 c2]
 mem:=fun ((o,b,q,l,i,n,c),(o2,b2,q2,l2,i2,n2,c2))=>[⟨b,q,1,false,some o,.rows 5 l⟩,⟨b2,q2,1,false,some o2,.rows 5 l2⟩]
 pre:=fun ((o,b,q,l,i,n,c),(o2,b2,q2,l2,i2,n2,c2))=>(Sl3.pre (o,b,q,l,i,n,c)∧Byt8 ((l.drop i).take n))∧Sl3.pre (o2,b2,q2,l2,i2,n2,c2)∧Byt8 ((l2.drop i2).take n2)
 res:=fun ((o,b,q,l,i,n,c),(o2,b2,q2,l2,i2,n2,c2))=>.int .i64 (dsR ((l.drop i).take n) ((l2.drop i2).take n2):Int)
 mat vs m:=match vs with
  | [.sl s i n c,.sl s2 i2 n2 c2]=>match nth m s,nth m s2 with
    | ⟨b,q,_,_,g,.rows 5 l⟩,⟨b2,q2,_,_,g2,.rows 5 l2⟩=>some (((onOf g,b,q,l,i,n,c),(onOf g2,b2,q2,l2,i2,n2,c2)),[s,s2])
    | _,_=>none
  | _=>none
 ok:=fun ((o,b,q,l,i,n,c),(o2,b2,q2,l2,i2,n2,c2)) h=>rdist_ok o b q l i n c o2 b2 q2 l2 i2 n2 c2 h.1.1 h.2.1 _ _ rfl rfl h.1.2 h.2.2
section
variable {F:Gf} (K:Kd F) {d:Nat} {A U V:List Int}
end
end
end Go.Vx
namespace Go.Vx
open Go Go.Proofs
noncomputable section
variable [Gl]
theorem rcoef_ok (m t:Int) (n:Nat) (o:Bool) (b q:Nat) (l:List Int) (L c:Nat) (D:Nat) (hD:D<1000000) (o1:Bool) (b1 q1:Nat) (l1:List Int) (i1 n1 c1:Nat) (o2:Bool) (b2 q2:Nat) (l2:List Int) (i2 n2 c2:Nat) (z:Nat) (hz:z<1000000) (h1:Sl3.pre (o1,b1,q1,l1,i1,n1,c1)) (h2:Sl3.pre (o2,b2,q2,l2,i2,n2,c2)) (y1:Byt8 ((l1.drop i1).take n1)) (y2:Byt8 ((l2.drop i2).take n2)):
 Tells (C:=C0) Tryz.prog (.fn 65) [⟨b,q,1,false,some o,.rows 5 l⟩,⟨b1,q1,1,false,some o1,.rows 5 l1⟩,⟨b2,q2,1,false,some o2,.rows 5 l2⟩] [xcV m t (n:Int) 0 L c (D:Int),.sl 1 i1 n1 c1,.sl 2 i2 n2 c2,.int .i64 (z:Int)] (.int .i64 ((wdB D ((l1.drop i1).take n1) ((l2.drop i2).take n2) z).toNat:Int)):=by
 refine loc_pc (P:=Tryz.prog) (E:=⟨[],[pcRbitX],22,[],[],[],none⟩) (L:=[]) mix Tryz.func65 rfl (by kernel_rfl) (by kernel_rfl) rfl rfl ?_
 ((conv=>arg 1;reduce);with_reducible repeat' first | exact ty | refine ta ?_ ?_ | refine ti fun _ => ?_ | refine tf fun _ => ?_ | refine tl ?_)
 all_goals try exact vlf
 iterate 2 (focus
  rename_i d
  have d:(z:Int)<(D:Int):=ng d
  first
  | exact ⟨h2,⟨by show 0≤(z:Int);omega,by show (z:Int)<_;omega⟩,y2⟩
  | (unfold wdB;rw [if_pos (by omega),zu]))
 iterate 2 (focus
  rename_i d
  have d:¬ (z:Int)<(D:Int):=nf d
  first
  | exact ⟨h1,⟨by show 0≤(z:Int) - (D:Int);omega,by show (z:Int) - (D:Int)<_;omega⟩,y1⟩
  | (unfold wdB;rw [if_neg (by omega),show ((z:Int) - (D:Int)).toNat=z - D by omega]))
def pcRcoef:Pc Tryz.prog C0 where
 tg:=.fn 65
 X:=(Int×Int×Nat)×(Bool×Nat×Nat×List Int×Nat×Nat)×Nat×Sl3×Sl3×Nat
 args:=fun ((m,t,n),(o,b,q,l,L,c),D,(o1,b1,q1,l1,i1,n1,c1),(o2,b2,q2,l2,i2,n2,c2),z)=>[xcV m t (n:Int) 0 L c (D:Int),.sl 1 i1 n1 c1,.sl 2 i2 n2 c2,.int .i64 (z:Int)]
 mem:=fun ((m,t,n),(o,b,q,l,L,c),D,(o1,b1,q1,l1,i1,n1,c1),(o2,b2,q2,l2,i2,n2,c2),z)=>[⟨b,q,1,false,some o,.rows 5 l⟩,⟨b1,q1,1,false,some o1,.rows 5 l1⟩,⟨b2,q2,1,false,some o2,.rows 5 l2⟩]
 pre:=fun ((m,t,n),(o,b,q,l,L,c),D,s1,s2,z)=>(D<1000000∧z<1000000)∧(Sl3.pre s1∧Sl3.pre s2)∧Byt8 ((s1.2.2.2.1.drop s1.2.2.2.2.1).take s1.2.2.2.2.2.1)∧Byt8 ((s2.2.2.2.1.drop s2.2.2.2.2.1).take s2.2.2.2.2.2.1)
 res:=fun ((m,t,n),(o,b,q,l,L,c),D,(o1,b1,q1,l1,i1,n1,c1),(o2,b2,q2,l2,i2,n2,c2),z)=>.int .i64 ((wdB D ((l1.drop i1).take n1) ((l2.drop i2).take n2) z).toNat:Int)
 mat vs m:=match vs with
  | [.agg [.int _ x,.int _ t,.int _ (n:Nat),.sl s _ L c,.int _ (D:Nat)],.sl s1 i1 n1 c1,.sl s2 i2 n2 c2,.int _ z]=>match nth m s,nth m s1,nth m s2 with
    | ⟨b,q,_,_,g,.rows 5 l⟩,⟨b1,q1,_,_,g1,.rows 5 l1⟩,⟨b2,q2,_,_,g2,.rows 5 l2⟩=>some (((x,t,n),(onOf g,b,q,l,L,c),D,(onOf g1,b1,q1,l1,i1,n1,c1),(onOf g2,b2,q2,l2,i2,n2,c2),z.toNat),[s,s1,s2])
    | _,_,_=>none
  | _=>none
 ok:=fun ((m,t,n),(o,b,q,l,L,c),D,(o1,b1,q1,l1,i1,n1,c1),(o2,b2,q2,l2,i2,n2,c2),z) h=>rcoef_ok m t n o b q l L c D h.1.1 o1 b1 q1 l1 i1 n1 c1 o2 b2 q2 l2 i2 n2 c2 z h.1.2 h.2.1.1 h.2.1.2 h.2.2.1 h.2.2.2
section
variable (F:Gf)
@[irreducible] def sxI (T g d:Nat) (A B:List Int) (i:Nat):List Int:=vis (mk T fun k=>if k<i then vl (wdB g A B) (8*d+g) (ex F (k+1)) else Fd.zr)
@[irreducible] def wdE (g d:Nat) (A B:List Int):List (El F):=mk (8*d+g) fun k=>bk (wdB g A B k)
variable {F}
theorem sxI_len {T g d i:Nat} {A B:List Int}:(sxI F T g d A B i).length=T:=by unfold sxI;rw [zn,mk_len]
theorem sxI_zero {T g d:Nat} {A B:List Int}:sxI F T g d A B 0=zo T 0:=by
 unfold sxI
 refine List.ext_getElem (by simp [mk_len]) fun j h1 h2 => ?_
 simp [mk];rfl
theorem sxI_at {T g d i k:Nat} {A B:List Int} (h:k<i) (hT:k<T):(sxI F T g d A B i).getD k 0=vi (vl (wdB g A B) (8*d+g) (ex F (k+1))):=by
 unfold sxI;rw [vis_getD,mk_cf,if_pos hT,if_pos h]
theorem sxI_set {T g d i:Nat} {A B:List Int} (h:i<T) {v:Int} (hv:v=vi (vl (wdB g A B) (8*d+g) (ex F (i+1)))):(sxI F T g d A B i).set i v=sxI F T g d A B (i+1):=by
 subst hv
 unfold sxI vis mk
 rw [td,td,set_map h]
 refine xm fun j _ => ?_
 by_cases hj:j=i
 · subst hj
   rw [if_pos rfl]
   show _=vi (if j<j+1 then _ else _)
   rw [if_pos (by omega)]
 · rw [if_neg hj]
   show vi (if j<i then _ else _)=vi (if j<i+1 then _ else _)
   by_cases h2:j<i
   · rw [if_pos h2,if_pos (by omega)]
   · rw [if_neg h2,if_neg (by omega)]
theorem sxI_end {t g d:Nat} {A B:List Int} (hB:Byt8 B) (hl:B.length=(g+7) / 8):sxI F (2*t) g d A B (2*t)=dcS F t d g A B:=by
 have e:dcS F t d g A B=vis (els F (dcS F t d g A B)):=by
  have:∀ l:List (El F),vis (els F (vis l))=vis l:=fun l=>by rw [els_vis]
  unfold dcS svL
  rw [show ((xq (2*t)).map fun i=>vi (Fd.su (psL g A (mkR g B) (8*d+g)) fun p=>Fd.pw (exF F p) (i+1)))=vis ((xq (2*t)).map fun i=>(Fd.su (psL g A (mkR g B) (8*d+g)) fun p=>Fd.pw (exF F p) (i+1))) from (td (f:=fun i=>(Fd.su (psL g A (mkR g B) (8*d+g)) fun p=>Fd.pw (exF F p) (i+1))) (g:=vi) (l:=xq (2*t))).symm]
  exact (this _).symm
 rw [e]
 unfold sxI
 congr 1
 refine cf_ext (by rw [mk_len,zn,dcS_len]) fun i hi => ?_
 rw [mk_len] at hi
 rw [mk_cf,if_pos hi,if_pos hi,dcS_cf hi]
 exact vl_congr fun k _=>(mk_wd hB hl k).symm
theorem wdE_len {g d:Nat} {A B:List Int}:(wdE F g d A B).length=8*d+g:=by unfold wdE;exact mk_len _ _
theorem wdE_cf {g d k:Nat} {A B:List Int} (h:k<8*d+g):vi (cf (wdE F g d A B) k)=((wdB g A B k).toNat:Int):=by
 unfold wdE
 rw [mk_cf,if_pos h]
 cases wdB g A B k <;> rfl
theorem wdE_end {g d:Nat} {A B:List Int} {x:El F}:hrN (wdE F g d A B) x 0=vl (wdB g A B) (8*d+g) x:=by
 rw [hrN_all,wdE_len]
 unfold vl
 exact Fd.sm_congr fun i hi=>by unfold wdE;rw [mk_cf,if_pos hi]
theorem sx_sq {g d i:Nat} {A B:List Int} (h:i % 2=1):vl (wdB g A B) (8*d+g) (ex F (i / 2+1))*vl (wdB g A B) (8*d+g) (ex F (i / 2+1))=vl (wdB g A B) (8*d+g) (ex F (i+1)):=by
 rw [← vl_sq,← ex_add,show i / 2+1+(i / 2+1)=i+1 by omega]
variable (F)
def Sx3 (T g d:Nat) (A B:List Int):Inv' C0:=⟨3,Nat,fun i=>[(8,.int .i64 (i:Int))],fun i m=>match m with
 | [a0,a1,a2,a3,t]=>[a0,a1,a2,a3,⟨t.block,t.base,1,true,none,.rows 3 (sxI F T g d A B i)⟩]
 | m=>m,fun i=>i≤T,fun i=>T - i⟩
def Sx10 (T g d:Nat) (A B:List Int):Inv' C0:=⟨10,Nat×Nat,fun x=>[(8,.int .i64 (x.1:Int)),(10,.int .i64 (vi (hrN (wdE F g d A B) (ex F (x.1+1)) x.2))),(11,.int .i64 ((x.2:Int) - 1))],fun x m=>match m with
 | [a0,a1,a2,a3,t]=>[a0,a1,a2,a3,⟨t.block,t.base,1,true,none,.rows 3 (sxI F T g d A B x.1)⟩]
 | m=>m,fun x=>x.1<T∧x.2≤8*d+g,fun x=>x.2⟩
set_option maxHeartbeats 4000000 in
theorem rsyn_ok (t n:Nat) (ht:t≤40) (hn:n<100000) (o:Bool) (b q:Nat) (l:List Int) (L c:Nat) (D:Nat) (hD:D<100000) (o1:Bool) (b1 q1:Nat) (l1:List Int) (i1 n1 c1:Nat) (o2:Bool) (b2 q2:Nat) (l2:List Int) (i2 n2 c2:Nat) (h1:Sl3.pre (o1,b1,q1,l1,i1,n1,c1)) (h2:Sl3.pre (o2,b2,q2,l2,i2,n2,c2)) (A B:List Int) (hA:(l1.drop i1).take n1=A) (hB:(l2.drop i2).take n2=B) (y1:Byt8 A) (y2:Byt8 B) (hl:n2=(D+7) / 8):
 Does (C:=C0) Tryz.prog (.fn 38) [⟨b,q,1,false,some o,.rows 5 l⟩,⟨b1,q1,1,false,some o1,.rows 5 l1⟩,⟨b2,q2,1,false,some o2,.rows 5 l2⟩] [xcV (F.m:Int) (t:Int) (n:Int) 0 L c (D:Int),.sl 1 i1 n1 c1,.sl 2 i2 n2 c2]
  [⟨Nat,fun _=>True,fun _=>.sl 3 0 (2*t) (2*t),fun y=>[⟨b,q,1,false,some o,.rows 5 l⟩,⟨b1,q1,1,false,some o1,.rows 5 l1⟩,⟨b2,q2,1,false,some o2,.rows 5 l2⟩,⟨y,0,1,true,none,.rows 3 (dcS F t n D A B)⟩]⟩]:=by
 have hby:(Tryz.prog.types[3].bytes:Int)=8:=by kernel_rfl
 refine loc_fn (P:=Tryz.prog) (E:=⟨[],[pcXbits,pcRcoef,pcRmul F,pcRexp F],69,[(6,[],[.p 0,.p 1,.p 2,.p 4,.p 5,.p 6,.p 7,.p 9,.p 10,.p 11,.p 12,.q 3,.q 8,.q 13,.q 14,.p 15,.e 16])],[],[],none⟩) (L:=[Sx3 F (2*t) D n A B,Sx10 F (2*t) D n A B]) mix Tryz.func38 rfl (by kernel_rfl) (by kernel_rfl) rfl rfl ?_
 ((conv=>arg 1;reduce);with_reducible repeat' first | exact ty | refine ta ?_ ?_ | refine ti fun _ => ?_ | refine tf fun _ => ?_ | refine tl ?_)
 all_goals try exact vlf
 · rw [hby];omega
 · refine Stands.one (0:Nat) ⟨zg _,?_⟩
   ((conv=>arg 1;reduce);with_reducible repeat' first | exact ty | refine ta ?_ ?_ | refine ti fun _ => ?_ | refine tf fun _ => ?_ | refine tl ?_)
   all_goals first | exact vlf | (show zo _ (0:Int)=sxI F (2*t) D n A B 0;rw [sxI_zero];congr 1) | (show sxI F (2*t) D n A B 0=zo _ (0:Int);rw [sxI_zero];congr 1)
 all_goals have q2:∀ j:Nat,(j:Int).tdiv 2=((j / 2:Nat):Int):=fun j=>(yj j 2).symm
 all_goals have m2:∀ j:Nat,(j:Int).tmod 2=((j % 2:Nat):Int):=fun j=>(zb j 2).symm
 iterate 12 (focus
  rename_i b0 b3 j hj d e
  change Nat at j
  have hj:j≤2*t:=hj
  have d:(j:Int)<((2*(t:Int)).toNat:Int):=ng d
  have e:(j:Int).tmod 2=1:=ng e
  rw [m2] at e
  have xl:=sxI_len (F:=F) (T:=2*t) (g:=D) (d:=n) (A:=A) (B:=B) (i:=j)
  first
  | (rw [q2];exact inR64 (n:=((j / 2:Nat):Int)) (by omega) (by omega))
  | (rw [q2];omega)
  | (show ((j:Int).tdiv 2).toNat+0<(sxI F (2*t) D n A B j).length;rw [q2];omega)
  | exact d
  | (show (j:Int).toNat+0<(sxI F (2*t) D n A B j).length;omega)
  | exact inR64 (n:=(j:Int)+1) (by omega) (by omega)
  | (have eV:(sxI F (2*t) D n A B j).set ((j:Int).toNat+0) (muI F ((sxI F (2*t) D n A B j).getD (((j:Int).tdiv 2).toNat+0) 0) ((sxI F (2*t) D n A B j).getD (((j:Int).tdiv 2).toNat+0) 0))=sxI F (2*t) D n A B (j+1):=by
      rw [q2,zu,zu,za,za,sxI_at (by omega) (by omega),muI_eq,el_vi,sx_sq (by omega)]
      exact sxI_set (by omega) rfl
     refine Stands.one (j+1:Nat) ⟨by show j+1≤_;omega,by show _ - (j+1)<_ - j;omega,?_⟩
     ((conv=>arg 1;reduce);with_reducible repeat' first | exact ty | refine ta ?_ ?_ | refine ti fun _ => ?_ | refine tf fun _ => ?_ | refine tl ?_)
     all_goals first | exact vlf | exact eV | exact eV.symm))
 iterate 4 (focus
  rename_i b0 b3 j hj d e
  change Nat at j
  have hj:j≤2*t:=hj
  have d:(j:Int)<((2*(t:Int)).toNat:Int):=ng d
  have wl:=wdE_len (F:=F) (g:=D) (d:=n) (A:=A) (B:=B)
  first
  | exact inR64 (n:=(j:Int)+1) (by omega) (by omega)
  | exact ⟨by show -1000000000<(j:Int)+1;omega,by show (j:Int)+1<1000000000;omega⟩
  | exact ⟨by show n<1000000;omega,by show D<1000000;omega⟩
  | (have hz:vi (hrN (wdE F D n A B) (ex F (j+1)) (8*n+D))=0:=by rw [← wl,hrN_top];rfl
     refine Stands.one ((j,8*n+D):Nat×Nat) ⟨⟨by show j<2*t;omega,zw _⟩,?_⟩
     ((conv=>arg 1;reduce);with_reducible repeat' first | exact ty | refine ta ?_ ?_ | refine ti fun _ => ?_ | refine tf fun _ => ?_ | refine tl ?_)
     all_goals first | exact vlf | exact hz | exact hz.symm | (show ((8*n+D:Nat):Int) - 1=((8*n+D:Nat):Int) - 1;rfl)))
 iterate 4 (focus
  rename_i b0 b3 i0 hi d0 e0 x hx e1 d
  change Nat at i0
  change Nat×Nat at x
  obtain ⟨i,j⟩:=x
  obtain ⟨k1,k2⟩:i<2*t∧j≤8*n+D:=hx
  have e1:(i0:Int)=(i:Int):=e1
  obtain rfl:i0=i:=by omega
  have d:0≤(j:Int) - 1:=ng d
  have wl:=wdE_len (F:=F) (g:=D) (d:=n) (A:=A) (B:=B)
  first
  | (show (((j:Int) - 1).toNat:Int)=(j:Int) - 1;omega)
  | exact ⟨⟨by show D<1000000;omega,by show ((j:Int) - 1).toNat<1000000;omega⟩,⟨h1,h2⟩,hA.symm ▸ y1,hB.symm ▸ y2⟩
  | exact inR64 (n:=(j:Int) - 1 - 1) (by omega) (by omega)
  | (have eX:vi (exF F ((i0:Int)+1))=vi (ex F (i0+1)):=congrArg vi (exF_nat (i0+1))
     have eV:ibit .xor .i64 (muI F (vi (hrN (wdE F D n A B) (ex F (i0+1)) j)) (vi (exF F ((i0:Int)+1)))) ((wdB D ((l1.drop i1).take n1) ((l2.drop i2).take n2) ((j:Int) - 1).toNat).toNat:Int)=vi (hrN (wdE F D n A B) (ex F (i0+1)) (j - 1)):=by
      rw [hA,hB,eX,show ((j:Int) - 1).toNat=j - 1 by omega,← wdE_cf (F:=F) (d:=n) (by omega),muI_eq,el_vi,el_vi,xor_vi,← hrN_step (j:=j - 1) (by omega),show j - 1+1=j by omega]
     refine Stands.one ((i0,j - 1):Nat×Nat) ⟨⟨k1,by show j - 1≤_;omega⟩,by show j - 1<j;omega,?_⟩
     ((conv=>arg 1;reduce);with_reducible repeat' first | exact ty | refine ta ?_ ?_ | refine ti fun _ => ?_ | refine tf fun _ => ?_ | refine tl ?_)
     all_goals first | exact vlf | exact eV | exact eV.symm | (show (j:Int) - 1 - 1=((j - 1:Nat):Int) - 1;omega) | (show ((j - 1:Nat):Int) - 1=(j:Int) - 1 - 1;omega)))
 iterate 4 (focus
  rename_i b0 b3 i0 hi d0 e0 x hx e1 d
  change Nat at i0
  change Nat×Nat at x
  obtain ⟨i,j⟩:=x
  obtain ⟨k1,k2⟩:i<2*t∧j≤8*n+D:=hx
  have e1:(i0:Int)=(i:Int):=e1
  obtain rfl:i0=i:=by omega
  have d:¬ 0≤(j:Int) - 1:=nf d
  obtain rfl:j=0:=by omega
  have xl:=sxI_len (F:=F) (T:=2*t) (g:=D) (d:=n) (A:=A) (B:=B) (i:=i0)
  first
  | (show (i0:Int)<((2*(t:Int)).toNat:Int);omega)
  | (show (i0:Int).toNat+0<(sxI F (2*t) D n A B i0).length;omega)
  | exact inR64 (n:=(i0:Int)+1) (by omega) (by omega)
  | (have eV:(sxI F (2*t) D n A B i0).set ((i0:Int).toNat+0) (vi (hrN (wdE F D n A B) (ex F (i0+1)) 0))=sxI F (2*t) D n A B (i0+1):=by
      rw [show (i0:Int).toNat+0=i0 by omega,wdE_end]
      exact sxI_set k1 rfl
     refine Stands.one (i0+1:Nat) ⟨by show i0+1≤_;omega,by show _ - (i0+1)<_ - i0;omega,?_⟩
     ((conv=>arg 1;reduce);with_reducible repeat' first | exact ty | refine ta ?_ ?_ | refine ti fun _ => ?_ | refine tf fun _ => ?_ | refine tl ?_)
     all_goals first | exact vlf | exact eV | exact eV.symm))
 · rename_i b0 b3 j hj d
   change Nat at j
   have hj:j≤2*t:=hj
   have d:¬ (j:Int)<((2*(t:Int)).toNat:Int):=nf d
   obtain rfl:j=2*t:=by omega
   have lB:B.length=(D+7) / 8:=by rw [← hB,row_len h2.1];exact hl
   have eE:=sxI_end (F:=F) (t:=t) (g:=D) (d:=n) (A:=A) y2 lB
   refine Ends.one (b3:Nat) trivial ?_
   ((conv=>arg 1;reduce);with_reducible repeat' first | exact ty | refine ta ?_ ?_ | refine ti fun _ => ?_ | refine tf fun _ => ?_ | refine tl ?_)
   all_goals first | exact vlf | exact eE | exact eE.symm | (show (2*(t:Int)).toNat=2*t;omega) | (show 2*t=(2*(t:Int)).toNat;omega)
def fcRsyn:Fc Tryz.prog C0 where
 tg:=.fn 38
 X:=(Nat×Nat)×(Bool×Nat×Nat×List Int×Nat×Nat)×Nat×Sl3×Sl3
 args:=fun ((t,n),(o,b,q,l,L,c),D,(o1,b1,q1,l1,i1,n1,c1),(o2,b2,q2,l2,i2,n2,c2))=>[xcV (F.m:Int) (t:Int) (n:Int) 0 L c (D:Int),.sl 1 i1 n1 c1,.sl 2 i2 n2 c2]
 mem:=fun ((t,n),(o,b,q,l,L,c),D,(o1,b1,q1,l1,i1,n1,c1),(o2,b2,q2,l2,i2,n2,c2))=>[⟨b,q,1,false,some o,.rows 5 l⟩,⟨b1,q1,1,false,some o1,.rows 5 l1⟩,⟨b2,q2,1,false,some o2,.rows 5 l2⟩]
 pre:=fun ((t,n),(o,b,q,l,L,c),D,(o1,b1,q1,l1,i1,n1,c1),(o2,b2,q2,l2,i2,n2,c2))=>(t≤40∧n<100000∧D<100000)∧(Sl3.pre (o1,b1,q1,l1,i1,n1,c1)∧Sl3.pre (o2,b2,q2,l2,i2,n2,c2))∧(Byt8 ((l1.drop i1).take n1)∧Byt8 ((l2.drop i2).take n2))∧n2=(D+7) / 8
 alts:=fun ((t,n),(o,b,q,l,L,c),D,(o1,b1,q1,l1,i1,n1,c1),(o2,b2,q2,l2,i2,n2,c2))=>[⟨Nat,fun _=>True,fun _=>.sl 3 0 (2*t) (2*t),fun y=>[⟨b,q,1,false,some o,.rows 5 l⟩,⟨b1,q1,1,false,some o1,.rows 5 l1⟩,⟨b2,q2,1,false,some o2,.rows 5 l2⟩,⟨y,0,1,true,none,.rows 3 (dcS F t n D ((l1.drop i1).take n1) ((l2.drop i2).take n2))⟩]⟩]
 mat vs m:=match vs with
  | [.agg [.int _ _,.int _ (t:Nat),.int _ (n:Nat),.sl s _ L c,.int _ (D:Nat)],.sl s1 i1 n1 c1,.sl s2 i2 n2 c2]=>match nth m s,nth m s1,nth m s2 with
    | ⟨b,q,_,_,g,.rows 5 l⟩,⟨b1,q1,_,_,g1,.rows 5 l1⟩,⟨b2,q2,_,_,g2,.rows 5 l2⟩=>some (((t,n),(onOf g,b,q,l,L,c),D,(onOf g1,b1,q1,l1,i1,n1,c1),(onOf g2,b2,q2,l2,i2,n2,c2)),[s,s1,s2])
    | _,_,_=>none
  | _=>none
 ok:=fun ((t,n),(o,b,q,l,L,c),D,(o1,b1,q1,l1,i1,n1,c1),(o2,b2,q2,l2,i2,n2,c2)) h=>rsyn_ok F t n h.1.1 h.1.2.1 o b q l L c D h.1.2.2 o1 b1 q1 l1 i1 n1 c1 o2 b2 q2 l2 i2 n2 c2 h.2.1.1 h.2.1.2 _ _ rfl rfl h.2.2.1.1 h.2.2.1.2 h.2.2.2
end
end
end Go.Vx
namespace Go.Vx
open Go Go.Proofs
noncomputable section
variable [Gl]
def Xc2 (P:List Int):Inv' C0:=⟨2,Nat,fun i=>[(3,.int .i64 (i:Int))],fun i m=>m,fun i=>i≤P.length∧∀ j,j<i→P.getD j 0=0,fun i=>P.length - i⟩
theorem xclean_ok (o:Bool) (b q:Nat) (l:List Int) (i n c:Nat) (h:i+n≤l.length) (hn:n<1000000000) (ho:o=false→n=0∧c=0) (P:List Int) (hP:(l.drop i).take n=P):
 Tells (C:=C0) Tryz.prog (.fn 39) [⟨b,q,1,false,some o,.rows 3 l⟩] [.sl 0 i n c] (.bool (SB.tm (clnB P))):=by
 have hL:P.length=n:=by rw [← hP];exact row_len h
 have pv:∀ j,j<n→l.getD (j+i) 0=P.getD j 0:=by rw [← hP];exact row_at
 refine loc_pc (P:=Tryz.prog) (E:=⟨[],[],15,[],[],[],none⟩) (L:=[Xc2 P]) mix Tryz.func39 rfl (by kernel_rfl) (by kernel_rfl) rfl rfl ?_
 ((conv=>arg 1;reduce);with_reducible repeat' first | exact ty | refine ta ?_ ?_ | refine ti fun _ => ?_ | refine tf fun _ => ?_ | refine tl ?_)
 all_goals try exact vlf
 · refine Stands.one (0:Nat) ⟨⟨zg _,fun j hj=>absurd hj (Nat.not_lt_zero j)⟩,?_⟩
   exact vgo
 all_goals try (
  rename_i j hj d
  change Nat at j
  obtain ⟨k1,k2⟩:j≤P.length∧∀ a,a<j→P.getD a 0=0:=hj
  have d:(j:Int)<(n:Int):=ng d
  first
  | exact on_of ho (by omega)
  | exact d
  | (show (j:Int).toNat+i<l.length;omega))
 all_goals try (
  rename_i j hj d e
  change Nat at j
  obtain ⟨k1,k2⟩:j≤P.length∧∀ a,a<j→P.getD a 0=0:=hj
  have d:(j:Int)<(n:Int):=ng d
  first
  | exact inR64 (n:=(j:Int)+1) (by omega) (by omega)
  | (have e:l.getD ((j:Int).toNat+i) 0≠0:=ng e
     rw [zu,pv j (by omega)] at e
     exact (clnB_no (by omega) e).symm)
  | (have e:¬ l.getD ((j:Int).toNat+i) 0≠0:=nf e
     rw [zu,pv j (by omega)] at e
     have e:=Classical.not_not.1 e
     refine Stands.one (j+1:Nat) ⟨⟨by show j+1≤P.length;omega,fun a ha => ?_⟩,by show P.length - (j+1)<P.length - j;omega,?_⟩
     · by_cases h9:a=j
       · rw [h9];exact e
       · exact k2 a (by omega)
     exact vgo))
 · rename_i j hj d
   change Nat at j
   obtain ⟨k1,k2⟩:j≤P.length∧∀ a,a<j→P.getD a 0=0:=hj
   have d:¬ (j:Int)<(n:Int):=nf d
   exact (clnB_yes fun a ha=>k2 a (by omega)).symm
def pcXclean:Pc Tryz.prog C0 where
 tg:=.fn 39
 X:=Sl3
 args:=fun (o,b,q,l,i,n,c)=>[.sl 0 i n c]
 mem:=fun (o,b,q,l,i,n,c)=>[⟨b,q,1,false,some o,.rows 3 l⟩]
 pre:=Sl3.pre
 res:=fun (o,b,q,l,i,n,c)=>.bool (SB.tm (clnB ((l.drop i).take n)))
 mat vs m:=match vs with
  | [.sl s i n c]=>match nth m s with
    | ⟨b,q,_,_,g,.rows 3 l⟩=>some ((onOf g,b,q,l,i,n,c),[s])
    | _=>none
  | _=>none
 ok:=fun (o,b,q,l,i,n,c) h=>xclean_ok o b q l i n c h.1 h.2.1 h.2.2 _ rfl
theorem xflip_ok (m t:Int) (n:Nat) (o:Bool) (b q:Nat) (l:List Int) (L c:Nat) (D:Nat) (hD:D<1000000) (o1:Bool) (b1 q1:Nat) (l1:List Int) (n1 c1:Nat) (o2:Bool) (b2 q2:Nat) (l2:List Int) (n2 c2:Nat) (z:Nat) (hz:z<8*n1+D) (hp:D≤8*n2) (h1:n1≤l1.length) (h2:n2≤l2.length) (ho1:o1=false→n1=0∧c1=0) (ho2:o2=false→n2=0∧c2=0) (hn1:n1<1000000):
 Does (C:=C0) Tryz.prog (.fn 42) [⟨b,q,1,false,some o,.rows 5 l⟩,⟨b1,q1,1,true,some o1,.rows 5 l1⟩,⟨b2,q2,1,true,some o2,.rows 5 l2⟩] [xcV m t (n:Int) 0 L c (D:Int),.sl 1 0 n1 c1,.sl 2 0 n2 c2,.int .i64 (z:Int)]
  [⟨Unit,fun _=>True,fun _=>.tup [],fun _=>[⟨b,q,1,false,some o,.rows 5 l⟩,⟨b1,q1,1,true,some o1,.rows 5 (fpD D l1 z)⟩,⟨b2,q2,1,true,some o2,.rows 5 (fpP D l2 z)⟩]⟩]:=by
 have q8:∀ j:Nat,(j:Int).tdiv 8=((j / 8:Nat):Int):=fun j=>(yj j 8).symm
 have m8:∀ j:Nat,(j:Int).tmod 8=((j % 8:Nat):Int):=fun j=>(zb j 8).symm
 refine loc_fn (P:=Tryz.prog) (E:=⟨[],[],44,[],[],[],none⟩) (L:=[]) mix Tryz.func42 rfl (by kernel_rfl) (by kernel_rfl) rfl rfl ?_
 ((conv=>arg 1;reduce);with_reducible repeat' first | exact ty | refine ta ?_ ?_ | refine ti fun _ => ?_ | refine tf fun _ => ?_ | refine tl ?_)
 all_goals try exact vlf
 iterate 14 (focus
  rename_i d
  have d:(z:Int)<(D:Int):=ng d
  first
  | (rw [q8];exact inR64 (n:=((z / 8:Nat):Int)) (by omega) (by omega))
  | exact on_of ho2 (by omega)
  | (rw [q8];omega)
  | (show ((z:Int).tdiv 8).toNat+0<l2.length;rw [q8];omega)
  | (rw [m8,wu (by omega)];omega)
  | (have e1:fpD D l1 z=l1:=by unfold fpD;rw [if_pos (by omega)]
     have e2:l2.set (((z:Int).tdiv 8).toNat+0) (ibit .xor .u8 (l2.getD (((z:Int).tdiv 8).toNat+0) 0) (ishl .u8 1 (IntKind.u64.wrap ((z:Int).tmod 8))))=fpP D l2 z:=by
      rw [q8,zu,m8,wu (by omega),shl1_8 (by omega)]
      unfold fpP flB
      rw [if_pos (by omega)];rfl
     refine Ends.one () trivial ?_
     ((conv=>arg 1;reduce);with_reducible repeat' first | exact ty | refine ta ?_ ?_ | refine ti fun _ => ?_ | refine tf fun _ => ?_ | refine tl ?_)
     all_goals first | exact vlf | exact e1 | exact e1.symm | exact e2 | exact e2.symm))
 iterate 14 (focus
  rename_i d
  have d:¬ (z:Int)<(D:Int):=nf d
  have eZ:(z:Int) - (D:Int)=((z - D:Nat):Int):=by omega
  first
  | (rw [eZ,q8];exact inR64 (n:=(((z - D) / 8:Nat):Int)) (by omega) (by omega))
  | exact on_of ho1 (by omega)
  | (rw [eZ,q8];omega)
  | (show (((z:Int) - (D:Int)).tdiv 8).toNat+0<l1.length;rw [eZ,q8];omega)
  | (rw [eZ,m8,wu (by omega)];omega)
  | (have e1:fpP D l2 z=l2:=by unfold fpP;rw [if_neg (by omega)]
     have e2:l1.set ((((z:Int) - (D:Int)).tdiv 8).toNat+0) (ibit .xor .u8 (l1.getD ((((z:Int) - (D:Int)).tdiv 8).toNat+0) 0) (ishl .u8 1 (IntKind.u64.wrap (((z:Int) - (D:Int)).tmod 8))))=fpD D l1 z:=by
      rw [eZ,q8,zu,m8,wu (by omega),shl1_8 (by omega)]
      unfold fpD flB
      rw [if_neg (by omega)];rfl
     refine Ends.one () trivial ?_
     ((conv=>arg 1;reduce);with_reducible repeat' first | exact ty | refine ta ?_ ?_ | refine ti fun _ => ?_ | refine tf fun _ => ?_ | refine tl ?_)
     all_goals first | exact vlf | exact e1 | exact e1.symm | exact e2 | exact e2.symm))
def fcXflip:Fc Tryz.prog C0 where
 tg:=.fn 42
 X:=(Int×Int×Nat)×(Bool×Nat×Nat×List Int×Nat×Nat)×Nat×(Bool×Nat×Nat×List Int×Nat×Nat)×(Bool×Nat×Nat×List Int×Nat×Nat)×Nat
 args:=fun ((m,t,n),(o,b,q,l,L,c),D,(o1,b1,q1,l1,n1,c1),(o2,b2,q2,l2,n2,c2),z)=>[xcV m t (n:Int) 0 L c (D:Int),.sl 1 0 n1 c1,.sl 2 0 n2 c2,.int .i64 (z:Int)]
 mem:=fun ((m,t,n),(o,b,q,l,L,c),D,(o1,b1,q1,l1,n1,c1),(o2,b2,q2,l2,n2,c2),z)=>[⟨b,q,1,false,some o,.rows 5 l⟩,⟨b1,q1,1,true,some o1,.rows 5 l1⟩,⟨b2,q2,1,true,some o2,.rows 5 l2⟩]
 pre:=fun ((m,t,n),(o,b,q,l,L,c),D,(o1,b1,q1,l1,n1,c1),(o2,b2,q2,l2,n2,c2),z)=>D<1000000∧(z<8*n1+D∧D≤8*n2)∧(n1≤l1.length∧n2≤l2.length)∧((o1=false→n1=0∧c1=0)∧(o2=false→n2=0∧c2=0))∧n1<1000000
 alts:=fun ((m,t,n),(o,b,q,l,L,c),D,(o1,b1,q1,l1,n1,c1),(o2,b2,q2,l2,n2,c2),z)=>[⟨Unit,fun _=>True,fun _=>.tup [],fun _=>[⟨b,q,1,false,some o,.rows 5 l⟩,⟨b1,q1,1,true,some o1,.rows 5 (fpD D l1 z)⟩,⟨b2,q2,1,true,some o2,.rows 5 (fpP D l2 z)⟩]⟩]
 mat vs m:=match vs with
  | [.agg [.int _ x,.int _ t,.int _ (n:Nat),.sl s _ L c,.int _ (D:Nat)],.sl s1 _ n1 c1,.sl s2 _ n2 c2,.int _ z]=>match nth m s,nth m s1,nth m s2 with
    | ⟨b,q,_,_,g,.rows 5 l⟩,⟨b1,q1,_,_,g1,.rows 5 l1⟩,⟨b2,q2,_,_,g2,.rows 5 l2⟩=>some (((x,t,n),(onOf g,b,q,l,L,c),D,(onOf g1,b1,q1,l1,n1,c1),(onOf g2,b2,q2,l2,n2,c2),z.toNat),[s,s1,s2])
    | _,_,_=>none
  | _=>none
 ok:=fun ((m,t,n),(o,b,q,l,L,c),D,(o1,b1,q1,l1,n1,c1),(o2,b2,q2,l2,n2,c2),z) h=>xflip_ok m t n o b q l L c D h.1 o1 b1 q1 l1 n1 c1 o2 b2 q2 l2 n2 c2 z h.2.1.1 h.2.1.2 h.2.2.1.1 h.2.2.1.2 h.2.2.2.1.1 h.2.2.2.1.2 h.2.2.2.2
end
end Go.Vx
namespace Go.Vx
open Go Go.Proofs
noncomputable section
variable [Gl]
section
variable {F:Gf}
theorem tv_iv (P:List Int) (a k:Nat):tv F P a k=cf (els F P) k*Fd.pw (Fd.iv (ex F a)) k:=by
 unfold tv
 rw [exF_neg,pw_ivx (ex_ne k),pw_ivx (ex_ne a),ex_pw,ex_pw,xn]
theorem iv_ex_succ (j:Nat):Fd.iv (ex F j)*Fd.iv (ex F 1)=Fd.iv (ex F (j+1)):=by
 have h:∀ k,Fd.iv (ex F k)=Fd.pw (Fd.iv (ex F 1)) k:=fun k=>by rw [pw_ivx (ex_ne 1),ex_pw,Nat.one_mul]
 rw [h (j+1),h j];rfl
theorem yS_hr (P:List Int) (a:Nat):yS F P a P.length=vi (hrN (els F P) (Fd.iv (ex F a)) 0):=by
 unfold yS
 rw [hrN_all,zn]
 congr 1
 exact Fd.sm_congr fun k _=>tv_iv P a k
theorem rtL_more {P:List Int} {i:Nat}:rtL F P (i+1)=if vi (hrN (els F P) (Fd.iv (ex F i)) 0)=0 then rtL F P i ++ [(i:Int)] else rtL F P i:=by
 unfold rtL
 rw [uc,sk,vq,← yS_hr]
 by_cases h:yS F P i P.length=0
 · rw [if_pos h,rl (by simp [h])];rfl
 · rw [if_neg h,rm (by simp [h])];exact List.append_nil _
end
section
variable (F:Gf)
def Sr6 (P:List Int) (N:Nat):Inv' C0:=⟨6,Nat×Oq,fun x=>[(10,.int .i64 (x.1:Int)),(8,.int .i64 (vi (Fd.iv (ex F x.1)))),(7,.sl 1 0 (rtL F P x.1).length x.2.2.2.2.2)],fun x m=>match m with
 | p :: _=>[p,oqC true x.2]
 | m=>m,fun x=>x.1≤N∧Oqw (rtL F P x.1) x.2,fun x=>N - x.1⟩
set_option maxHeartbeats 4000000 in
theorem rsearch_ok (o:Bool) (b q:Nat) (l:List Int) (i n c:Nat) (h:i+n≤l.length) (hc:n≤c) (hn:n<100000000) (ho:o=false→n=0∧c=0) (k:Nat) (hk:k<1000000) (P:List Int) (hP:(l.drop i).take (min n 2048)=P):
 Does (C:=C0) Tryz.prog (.fn 41) [⟨b,q,1,false,some o,.rows 3 l⟩] [.int .i64 (F.m:Int),.sl 0 i n c,.int .i64 (k:Int)]
  [⟨Oq,fun y=>Oqw (rtL F P (min k (nF F))) y,fun y=>.sl 1 0 (rtL F P (min k (nF F))).length y.2.2.2.2,fun y=>[⟨b,q,1,false,some o,.rows 3 l⟩,oqC true y]⟩]:=by
 have hby:Tryz.prog.types[3].bytes=8:=by kernel_rfl
 have hL:P.length=min n 2048:=by rw [← hP];exact row_len (by omega)
 obtain ⟨hs,h7,hh⟩:=nF_sz F
 have es:=shl_sz F
 have e1:(szF F:Int) - 1=(nF F:Int):=by omega
 have eM:ishl .i64 1 (IntKind.u64.wrap (F.m:Int)) - 1=(nF F:Int):=by rw [wm,es,e1]
 refine loc_fn (P:=Tryz.prog) (E:=⟨[],[pcReval F,pcRinv F,pcRmul F],42,[],[],[],none⟩) (L:=[Sr6 F P (min k (nF F))]) mix Tryz.func41 rfl (by kernel_rfl) (by kernel_rfl) rfl rfl ?_
 ((conv=>arg 1;reduce);with_reducible repeat' first | exact ty | refine ta ?_ ?_ | refine ti fun _ => ?_ | refine tf fun _ => ?_ | refine tl ?_)
 all_goals try exact vlf
 all_goals have hR:(l.drop i).take (min (n:Int) 2048).toNat=P:=by rw [show (min (n:Int) 2048).toNat=min n 2048 by omega];exact hP
 · show el F 2≠Fd.zr
   rw [el_two];exact ex_ne 1
 · have e0:(1:Int)=vi (Fd.iv (ex F 0)):=by
    have:(Fd.un:El F)=Fd.iv Fd.un:=Fd.iv_uniq (Fd.umul _)
    rw [ex_zero,← this];rfl
   refine Stands.one ((0,(false,0,0,[],0)):Nat×Oq) ⟨⟨zg _,by show Oqw (rtL F P 0) _;rw [rtL_zero];exact Oqw.none⟩,?_⟩
   ((conv=>arg 1;reduce);with_reducible repeat' first | exact ty | refine ta ?_ ?_ | refine ti fun _ => ?_ | refine tf fun _ => ?_ | refine tl ?_)
   all_goals first | exact vlf | exact e0 | exact e0.symm | (show 0=(rtL F P 0).length;rw [rtL_zero];rfl) | (show (rtL F P 0).length=0;rw [rtL_zero];rfl)
 · rw [wm];omega
 · exact ⟨⟨by show i+(min (n:Int) 2048).toNat≤l.length;omega,by show (min (n:Int) 2048).toNat<1000000000;omega,fun h0=>⟨by have:=(ho h0).1;show (min (n:Int) 2048).toNat=0;omega,(ho h0).2⟩⟩,by show (min (n:Int) 2048).toNat<100000000;omega⟩
 iterate 2 (focus
  rename_i x hx d e g0
  change Nat×Oq at x
  obtain ⟨j,y⟩:=x
  obtain ⟨k1,k2⟩:j≤min k (nF F)∧Oqw (rtL F P j) y:=hx
  have hl:=rtL_len (F:=F) (P:=P) (i:=j)
  have c1:=k2.cap
  have c2:=k2.len
  first
  | (rw [hby];exact ⟨by show (rtL F P j).length≤y.2.2.2.2;omega,by show 0+y.2.2.2.2≤y.2.2.2.1.length;omega,zw _,by show ((rtL F P j).length+1)*8≤_;omega⟩)
  | exact fun h0=>k2.nil h0)
 iterate 2 (focus
  rename_i x hx d e g0 g2 g3 sp cc u1 u2
  change Nat×Oq at x
  change List Int at sp
  obtain ⟨j,y⟩:=x
  obtain ⟨k1,k2⟩:j≤min k (nF F)∧Oqw (rtL F P j) y:=hx
  rw [eM] at d
  have d:(j:Int)<min (k:Int) (nF F:Int):=ng d
  rw [hR,el_vi] at e
  have e:=ng e
  have em:=rtL_more (F:=F) (P:=P) (i:=j)
  rw [if_pos e] at em
  have eL:(rtL F P (j+1)).length=(rtL F P j).length+1:=by rw [em,zx];rfl
  have eX:muI F (vi (Fd.iv (ex F j))) (ivI F 2)=vi (Fd.iv (ex F (j+1))):=by
   rw [muI_eq,ivI_eq,el_vi,el_vi,el_two,iv_ex_succ]
  first
  | exact inR64 (n:=(j:Int)+1) (by omega) (by omega)
  | (refine Stands.one ((j+1,(true,g2,g3,y.2.2.2.1.take (rtL F P j).length ++ [(j:Int)] ++ sp,cc)):Nat×Oq) ⟨⟨by show j+1≤min k (nF F);omega,?_⟩,by show _ - (j+1)<_ - j;omega,?_⟩
     · show Oqw (rtL F P (j+1)) _
       rw [em]
       exact k2.snoc _ _ _ _ _ sp _ rfl u1 u2 rfl
     ((conv=>arg 1;reduce);with_reducible repeat' first | exact ty | refine ta ?_ ?_ | refine ti fun _ => ?_ | refine tf fun _ => ?_ | refine tl ?_)
     all_goals first | exact vlf | exact eX | exact eX.symm | exact eL | exact eL.symm))
 iterate 2 (focus
  rename_i x hx d e
  change Nat×Oq at x
  obtain ⟨j,y⟩:=x
  obtain ⟨k1,k2⟩:j≤min k (nF F)∧Oqw (rtL F P j) y:=hx
  rw [eM] at d
  have d:(j:Int)<min (k:Int) (nF F:Int):=ng d
  rw [hR,el_vi] at e
  have e:=nf e
  have em:=rtL_more (F:=F) (P:=P) (i:=j)
  rw [if_neg e] at em
  have eL:(rtL F P (j+1)).length=(rtL F P j).length:=by rw [em]
  have eX:muI F (vi (Fd.iv (ex F j))) (ivI F 2)=vi (Fd.iv (ex F (j+1))):=by
   rw [muI_eq,ivI_eq,el_vi,el_vi,el_two,iv_ex_succ]
  first
  | exact inR64 (n:=(j:Int)+1) (by omega) (by omega)
  | (refine Stands.one ((j+1,y):Nat×Oq) ⟨⟨by show j+1≤min k (nF F);omega,by show Oqw (rtL F P (j+1)) y;rw [em];exact k2⟩,by show _ - (j+1)<_ - j;omega,?_⟩
     ((conv=>arg 1;reduce);with_reducible repeat' first | exact ty | refine ta ?_ ?_ | refine ti fun _ => ?_ | refine tf fun _ => ?_ | refine tl ?_)
     all_goals first | exact vlf | exact eX | exact eX.symm | exact eL | exact eL.symm))
 · rename_i x hx d
   change Nat×Oq at x
   obtain ⟨j,y⟩:=x
   obtain ⟨k1,k2⟩:j≤min k (nF F)∧Oqw (rtL F P j) y:=hx
   rw [eM] at d
   have d:¬ (j:Int)<min (k:Int) (nF F:Int):=nf d
   obtain rfl:j=min k (nF F):=by omega
   refine Ends.one (y:Oq) k2 ?_
   exact vgo
def fcRsearch:Fc Tryz.prog C0 where
 tg:=.fn 41
 X:=Sl3×Nat
 args:=fun ((o,b,q,l,i,n,c),k)=>[.int .i64 (F.m:Int),.sl 0 i n c,.int .i64 (k:Int)]
 mem:=fun ((o,b,q,l,i,n,c),k)=>[⟨b,q,1,false,some o,.rows 3 l⟩]
 pre:=fun ((o,b,q,l,i,n,c),k)=>Sl3.pre (o,b,q,l,i,n,c)∧n≤c∧n<100000000∧k<1000000
 alts:=fun ((o,b,q,l,i,n,c),k)=>[⟨Oq,fun y=>Oqw (rtL F ((l.drop i).take (min n 2048)) (min k (nF F))) y,fun y=>.sl 1 0 (rtL F ((l.drop i).take (min n 2048)) (min k (nF F))).length y.2.2.2.2,fun y=>[⟨b,q,1,false,some o,.rows 3 l⟩,oqC true y]⟩]
 mat vs m:=match vs with
  | [_,.sl s i n c,.int _ k]=>match nth m s with
    | ⟨b,q,_,_,g,.rows 3 l⟩=>some (((onOf g,b,q,l,i,n,c),k.toNat),[s])
    | _=>none
  | _=>none
 ok:=fun ((o,b,q,l,i,n,c),k) h=>rsearch_ok F o b q l i n c h.1.1 h.2.1 h.2.2.1 h.1.2.2 k h.2.2.2 _ rfl
end
end
end Go.Vx
namespace Go.Vx
open Go Go.Proofs
noncomputable section
variable [Gl]
section
variable (F:Gf)
@[irreducible] def dxI (S:List Int) (n i:Nat):Int:=vi (Fd.sm i fun j=>cf (bmN (els F S) n).C j*cf (els F S) (n - j))
abbrev LoX:=Nat×Oq×Oq
abbrev loT (S:List Int) (n:Nat):List Int:=zo (bK F S n) 0 ++ tmL F (bB F S n) [muI F (bD F S n) (ivI F (bE F S n))]
def Lo20 (S:List Int):Inv' C0:=⟨1000020,Nat×Oq,fun x=>[(11,.int .i64 (x.1:Int)),(12,.int .i64 (bD F S x.1)),(15,.sl 3 0 (loT F S x.1).length x.2.2.2.2.2),(70,.junk),(74,.junk),(75,.junk),(76,.junk)],fun x m=>match m with
 | [s,c,b]=>[s,c,b,oqC true x.2]
 | m=>m,fun x=>x.1<S.length∧bD F S x.1≠0∧Oqw (loT F S x.1) x.2,fun _=>0⟩
def Lo8 (S:List Int):Inv' C0:=⟨8,LoX,fun x=>[(11,.int .i64 (x.1:Int)),(6,.sl 1 0 (bC F S x.1).length x.2.1.2.2.2.2),(7,.sl 2 0 (bB F S x.1).length x.2.2.2.2.2.2),(8,.int .i64 (bL F S x.1:Int)),(9,.int .i64 (bK F S x.1:Int)),(10,.int .i64 (bE F S x.1)),(22,.junk),(23,.junk)],fun x m=>match m with
 | s :: _=>[s,oqC true x.2.1,oqC true x.2.2]
 | m=>m,fun x=>x.1≤S.length∧Oqw (bC F S x.1) x.2.1∧Oqw (bB F S x.1) x.2.2,fun x=>S.length - x.1⟩
theorem loK {S:List Int} {j:Nat} {yC yB:Oq} (hx:(Lo8 F S).inv ((j,yC,yB):LoX)):j≤S.length∧Oqw (bC F S j) yC∧Oqw (bB F S j) yB∧bL F S j≤j∧1≤bK F S j∧bK F S j≤j+1∧(bC F S j).length≤j+1∧(bB F S j).length≤j+1∧loI F (bE F S j)≠0∧(bC F S j).length≤yC.2.2.2.2∧yC.2.2.2.2≤yC.2.2.2.1.length∧(bB F S j).length≤yB.2.2.2.2∧yB.2.2.2.2≤yB.2.2.2.1.length:=by
 obtain ⟨k1,kC,kB⟩:=hx
 obtain ⟨f1,f2,f3,f4,f5,f6⟩:=bm_fit' (F:=F) (S:=S) (n:=j)
 exact ⟨k1,kC,kB,f1,f2,f3,f4,f5,f6,kC.cap,kC.len,kB.cap,kB.len⟩
def Lo12 (S:List Int):Inv' C0:=⟨12,Nat×Nat,fun x=>[(11,.int .i64 (x.1:Int)),(13,.int .i64 (x.2:Int)),(12,.int .i64 (dxI F S x.1 x.2))],fun _ m=>m,fun x=>x.1<S.length∧1≤x.2∧x.2≤bL F S x.1+1,fun x=>bL F S x.1+1 - x.2⟩
variable {F}
theorem dxI_one {S:List Int} {n:Nat} (h:n<S.length):loI F (S.getD n 0)=dxI F S n 1:=by
 obtain ⟨b0,H⟩:=bmN_ok (els F S) n
 unfold dxI
 rw [loI_eq]
 congr 1
 show _=Fd.zr+cf (bmN (els F S) n).C 0*cf (els F S) (n - 0)
 rw [H.c0,Fd.umul,Fd.addC,Fd.add0,Nat.sub_zero,els_cf,if_pos h]
theorem dxI_more {S:List Int} {n i:Nat} (hi:i≤n) (hn:n<S.length):ibit .xor .i64 (dxI F S n i) (muI F ((bC F S n).getD i 0) (S.getD (n - i) 0))=dxI F S n (i+1):=by
 unfold dxI bC
 rw [muI_eq,vis_getD,el_vi,xor_vi]
 congr 1
 show _=_+cf (bmN (els F S) n).C i*cf (els F S) (n - i)
 rw [els_cf,if_pos (by omega)]
theorem dxI_none {S:List Int} {n i:Nat} (hi:(bC F S n).length≤i):dxI F S n i=dxI F S n (i+1):=by
 unfold bC at hi
 rw [zn] at hi
 unfold dxI
 congr 1
 show _=_+cf (bmN (els F S) n).C i*cf (els F S) (n - i)
 rw [cf_of hi,Fd.zmul,Fd.add0]
theorem dxI_end {S:List Int} {n:Nat}:dxI F S n (bL F S n+1)=bD F S n:=by unfold dxI bD bmD Fd.phi bL;rfl
theorem lo_st {S:List Int} {n:Nat}:adL F (bC F S n) (loT F S n)=stL F (bC F S n) (zo (bK F S n) 0 ++ bB F S n) (bD F S n) (bE F S n):=by
 unfold stL adL scL
 rw [els_vis]
 congr 1
 refine trim_ext fun i => ?_
 have e0:el F 0=Fd.zr:=El.ext (by show lw F.m 0=0;unfold lw;simp)
 have e1:∀ (k:Nat) (B:List Int),els F (zo k 0 ++ B)=shP k (els F B):=fun k B=>by
  show (zo k (0:Int) ++ B).map (el F)=_
  rw [vq,qb,e0];rfl
 rw [addP_cf,addP_cf,trim_cf,mulS_cf,e1,e1,shP_cf,shP_cf]
 congr 1
 by_cases h:i<bK F S n
 · rw [if_pos h,if_pos h,Fd.zmul]
 · rw [if_neg h,if_neg h,tmL_one]
abbrev loM (F:Gf) (S:List Int) (j i2:Nat) (yB:Oq):List Int:=tmL F ((yB.2.2.2.1.drop 0).take (bB F S j).length) [muI F (dxI F S j i2) (ivI F (bE F S j))]
theorem lo_M {S:List Int} {j i2:Nat} {yB:Oq} (kB:Oqw (bB F S j) yB) (e2:i2=bL F S j+1):loM F S j i2 yB=tmL F (bB F S j) [muI F (bD F S j) (ivI F (bE F S j))]:=by
 unfold loM
 rw [zm,kB.eq,← dxI_end,show i2=bL F S j+1 from e2]
theorem elw_vis (l:List (El F)):Elw F (vis l):=(congrArg vis (els_vis l)).symm
theorem elw_app {P Q:List Int} (h:Elw F P) (h':Elw F Q):Elw F (P ++ Q):=by
 show P ++ Q=((P ++ Q).map (el F)).map vi
 rw [vq,vq]
 exact congr (congrArg _ h) h'
theorem elw_T {S:List Int} {n:Nat}:Elw F (loT F S n):=by
 refine elw_app ?_ (by unfold tmL;exact elw_vis _)
 have e0:vi (el F 0)=0:=by rw [← loI_eq];unfold loI;exact vi_zero.2 (El.ext (by show lw F.m 0=0;unfold lw;simp))
 show _=((zo _ (0:Int)).map (el F)).map vi
 rw [qb,qb,e0]
theorem tmL_le {P Q:List Int}:(tmL F P Q).length≤P.length+Q.length:=by
 unfold tmL
 have h1:=top_le (els F P)
 have h2:=top_le (els F Q)
 rw [zn] at h1 h2
 have h3:(tmE (trim (els F P)) (trim (els F Q))).length≤(trim (els F P)).length+(trim (els F Q)).length:=by
  unfold tmE
  rw [trim_len]
  exact xl (top_le _) (by rw [mk_len];exact zw _)
 rw [trim_len,trim_len] at h3
 rw [zn]
 omega
theorem loT_len {S:List Int} {n:Nat}:(loT F S n).length≤2*n+3:=by
 obtain ⟨f1,f2,f3,f4,f5,f6⟩:=bm_fit' (F:=F) (S:=S) (n:=n)
 have h:=tmL_le (F:=F) (P:=bB F S n) (Q:=[muI F (bD F S n) (ivI F (bE F S n))])
 rw [zx,xz]
 have:[muI F (bD F S n) (ivI F (bE F S n))].length=1:=rfl
 omega
theorem lo_tw {k:Nat} {T:List Int} {y:Oq} (h:Oqw T y) (a b:Nat) (sp:List Int) (cap:Nat) (u1:(k:Int).toNat+T.length≤cap) (u2:cap≤(k:Int).toNat+T.length+sp.length):
 Oqw (zo k 0 ++ T) (true,a,b,((zo (k:Int).toNat (0:Int)).drop 0).take (k:Int).toNat ++ (y.2.2.2.1.drop 0).take T.length ++ sp,cap):=by
 have e:((zo (k:Int).toNat (0:Int)).drop 0).take (k:Int).toNat ++ (y.2.2.2.1.drop 0).take T.length ++ sp=(zo k 0 ++ T) ++ sp:=by
  rw [zm,zm,h.eq,zu,zc (by rw [xz];exact zw _)]
 have l1:(zo k (0:Int) ++ T).length=k+T.length:=by rw [zx,xz]
 rw [e]
 exact ⟨List.take_left' rfl,by show _≤cap;omega,by show cap≤((zo k (0:Int) ++ T) ++ sp).length;rw [zx];omega,nofun⟩
variable (F)
set_option maxHeartbeats 8000000 in
theorem rloc_ok (o:Bool) (b q:Nat) (l:List Int) (i n c:Nat) (h:i+n≤l.length) (hc:n≤c) (hn:n<100000000) (ho:o=false→n=0∧c=0) (S:List Int) (hP:(l.drop i).take (min n 80)=S):
 Does (C:=C0) Tryz.prog (.fn 40) [⟨b,q,1,false,some o,.rows 3 l⟩] [.int .i64 (F.m:Int),.sl 0 i n c]
  [⟨Oq,fun y=>Oqw (wkL F S) y,fun y=>.tup [.sl 1 0 (wkL F S).length y.2.2.2.2,.int .i64 (wkN F S:Int)],fun y=>[⟨b,q,1,false,some o,.rows 3 l⟩,oqC true y]⟩]:=by
 have hby:(Tryz.prog.types[3].bytes:Int)=8:=by kernel_rfl
 have hL:S.length=min n 80:=by rw [← hP];exact row_len (by omega)
 refine loc_fn (P:=Tryz.prog) (E:=⟨[fcRtimes F,fcRadd F,fcRtrim F],[pcRlow F,pcRmul F,pcRinv F],99,[(19,[],[.p 0,.p 2,.p 3,.p 4,.t (.two 1 (PTree.of [.e 5,.e 6,.e 7,.p 8]) 5 (PTree.of [.t (.two 1 (PTree.of [.e 6,.e 7,.p 8]) 6 (PTree.of [.e 1,.e 7,.p 8]))]))])],[],[],none⟩) (L:=[Lo8 F S,Lo12 F S,Lo20 F S]) mix Tryz.func40 rfl (by kernel_rfl) (by kernel_rfl) rfl rfl ?_
 ((conv=>arg 1;reduce);with_reducible repeat' first | exact ty | refine ta ?_ ?_ | refine ti fun _ => ?_ | refine tf fun _ => ?_ | refine tl ?_)
 all_goals try exact vlf
 · rename_i p1 p2
   obtain ⟨z1,z2,z3,z4,z5⟩:=bm_zero (F:=F) (S:=S)
   refine Stands.one ((0,(true,p1,0,[1],1),(true,p2,0,[1],1)):LoX) ⟨⟨zg _,?_,?_⟩,?_⟩
   · show Oqw (bC F S 0) _
     rw [z1];exact ⟨rfl,zw _,zw _,nofun⟩
   · show Oqw (bB F S 0) _
     rw [z2];exact ⟨rfl,zw _,zw _,nofun⟩
   ((conv=>arg 1;reduce);with_reducible repeat' first | exact ty | refine ta ?_ ?_ | refine ti fun _ => ?_ | refine tf fun _ => ?_ | refine tl ?_)
   all_goals first | exact vlf | (show 1=(bC F S 0).length;rw [z1];rfl) | (show 1=(bB F S 0).length;rw [z2];rfl) | (show (1:Int)=(bK F S 0:Int);rw [z4];rfl) | (show (0:Int)=(bL F S 0:Int);rw [z3];rfl) | (show (1:Int)=bE F S 0;rw [z5])
 iterate 5
  focus
   rename_i p1 p2 x hx d1
   change LoX at x
   obtain ⟨j,yC,yB⟩:=x
   obtain ⟨k1,kC,kB,f1,f2,f3,f4,f5,f6,c1,c2,c3,c4⟩:=loK F hx
   have d1:(j:Int)<((min (n:Int) 80).toNat:Int):=ng d1
   first
   | exact on_of ho (by omega)
   | exact d1
   | (show (j:Int).toNat+i<l.length;omega)
   | (have eD:loI F (l.getD ((j:Int).toNat+i) 0)=dxI F S j 1:=by rw [← dxI_one (by omega),zu,← hP,row_at (n:=min n 80) j (by omega)]
      refine Stands.one ((j,1):Nat×Nat) ⟨⟨by show j<S.length;omega,zw _,by show 1≤_;omega⟩,?_⟩
      ((conv=>arg 1;reduce);with_reducible repeat' first | exact ty | refine ta ?_ ?_ | refine ti fun _ => ?_ | refine tf fun _ => ?_ | refine tl ?_)
      all_goals first | exact vlf | exact eD | exact eD.symm)
 iterate 12
  focus
   rename_i p1 p2 x hx d1 z hz e1 d2 d3
   change LoX at x
   obtain ⟨j,yC,yB⟩:=x
   obtain ⟨k1,kC,kB,f1,f2,f3,f4,f5,f6,c1,c2,c3,c4⟩:=loK F hx
   have d1:(j:Int)<((min (n:Int) 80).toNat:Int):=ng d1
   change Nat×Nat at z
   obtain ⟨j2,i2⟩:=z
   obtain ⟨z1,z2,z3⟩:j2<S.length∧1≤i2∧i2≤bL F S j2+1:=hz
   have e1:(j:Int)=(j2:Int):=e1
   obtain rfl:j=j2:=by omega
   have d2:(i2:Int)≤(bL F S j:Int):=ng d2
   have d3:(i2:Int)<((bC F S j).length:Int):=ng d3
   first
   | exact on_of kC.nil (by omega)
   | exact on_of ho (by omega)
   | exact d3
   | (show (i2:Int).toNat+0<yC.2.2.2.1.length;omega)
   | exact inR64 (n:=(j:Int) - (i2:Int)) (by omega) (by omega)
   | (show (0:Int)≤(j:Int) - (i2:Int);omega)
   | (show (j:Int) - (i2:Int)<((min (n:Int) 80).toNat:Int);omega)
   | (show ((j:Int) - (i2:Int)).toNat+i<l.length;omega)
   | exact inR64 (n:=(i2:Int)+1) (by omega) (by omega)
   | (have eD:ibit .xor .i64 (dxI F S j i2) (muI F (yC.2.2.2.1.getD ((i2:Int).toNat+0) 0) (l.getD (((j:Int) - (i2:Int)).toNat+i) 0))=dxI F S j (i2+1):=by
       rw [← dxI_more (by omega) (by omega),show (i2:Int).toNat+0=i2 by omega,kC.at (by omega),show ((j:Int) - (i2:Int)).toNat+i=(j - i2)+i by omega,row_at (n:=min n 80) (j - i2) (by omega),hP]
      refine Stands.one ((j,i2+1):Nat×Nat) ⟨⟨z1,by show 1≤i2+1;omega,by show i2+1≤bL F S j+1;omega⟩,by show bL F S j+1 - (i2+1)<bL F S j+1 - i2;omega,?_⟩
      ((conv=>arg 1;reduce);with_reducible repeat' first | exact ty | refine ta ?_ ?_ | refine ti fun _ => ?_ | refine tf fun _ => ?_ | refine tl ?_)
      all_goals first | exact vlf | exact eD | exact eD.symm)
 iterate 2
  focus
   rename_i p1 p2 x hx d1 z hz e1 d2 d3
   change LoX at x
   obtain ⟨j,yC,yB⟩:=x
   obtain ⟨k1,kC,kB,f1,f2,f3,f4,f5,f6,c1,c2,c3,c4⟩:=loK F hx
   have d1:(j:Int)<((min (n:Int) 80).toNat:Int):=ng d1
   change Nat×Nat at z
   obtain ⟨j2,i2⟩:=z
   obtain ⟨z1,z2,z3⟩:j2<S.length∧1≤i2∧i2≤bL F S j2+1:=hz
   have e1:(j:Int)=(j2:Int):=e1
   obtain rfl:j=j2:=by omega
   have d2:(i2:Int)≤(bL F S j:Int):=ng d2
   have d3:¬ (i2:Int)<((bC F S j).length:Int):=nf d3
   first
   | exact inR64 (n:=(i2:Int)+1) (by omega) (by omega)
   | (have eD:dxI F S j i2=dxI F S j (i2+1):=dxI_none (by omega)
      refine Stands.one ((j,i2+1):Nat×Nat) ⟨⟨z1,by show 1≤i2+1;omega,by show i2+1≤bL F S j+1;omega⟩,by show bL F S j+1 - (i2+1)<bL F S j+1 - i2;omega,?_⟩
      ((conv=>arg 1;reduce);with_reducible repeat' first | exact ty | refine ta ?_ ?_ | refine ti fun _ => ?_ | refine tf fun _ => ?_ | refine tl ?_)
      all_goals first | exact vlf | exact eD | exact eD.symm)
 iterate 3
  focus
   rename_i p1 p2 x hx d1 z hz e1 d2 d3
   change LoX at x
   obtain ⟨j,yC,yB⟩:=x
   obtain ⟨k1,kC,kB,f1,f2,f3,f4,f5,f6,c1,c2,c3,c4⟩:=loK F hx
   have d1:(j:Int)<((min (n:Int) 80).toNat:Int):=ng d1
   change Nat×Nat at z
   obtain ⟨j2,i2⟩:=z
   obtain ⟨z1,z2,z3⟩:j2<S.length∧1≤i2∧i2≤bL F S j2+1:=hz
   have e1:(j:Int)=(j2:Int):=e1
   obtain rfl:j=j2:=by omega
   have d2:¬ (i2:Int)≤(bL F S j:Int):=nf d2
   obtain rfl:i2=bL F S j+1:=by omega
   have d3:decide (dxI F S j (bL F S j+1)=0)=true:=d3
   rw [dxI_end] at d3
   first
   | exact inR64 (n:=(bK F S j:Int)+1) (by omega) (by omega)
   | exact inR64 (n:=(j:Int)+1) (by omega) (by omega)
   | (obtain ⟨s1,s2,s3,s4,s5⟩:=bm_skip (ng d3)
      refine Stands.one ((j+1,yC,yB):LoX) ⟨⟨by show j+1≤S.length;omega,by show Oqw (bC F S (j+1)) yC;rw [s1];exact kC,by show Oqw (bB F S (j+1)) yB;rw [s2];exact kB⟩,by show S.length - (j+1)<S.length - j;omega,?_⟩
      ((conv=>arg 1;reduce);with_reducible repeat' first | exact ty | refine ta ?_ ?_ | refine ti fun _ => ?_ | refine tf fun _ => ?_ | refine tl ?_)
      all_goals first
       | exact vlf
       | (show (bC F S j).length=(bC F S (j+1)).length;rw [s1])
       | (show (bB F S j).length=(bB F S (j+1)).length;rw [s2])
       | (show (bL F S j:Int)=(bL F S (j+1):Int);rw [s3])
       | (show (bK F S j:Int)+1=(bK F S (j+1):Int);rw [s4];rfl)
       | (show bE F S j=bE F S (j+1);rw [s5]))
 · rename_i p1 p2 x hx d1 z hz e1 d2 d3
   change LoX at x
   obtain ⟨j,yC,yB⟩:=x
   obtain ⟨k1,kC,kB,f1,f2,f3,f4,f5,f6,c1,c2,c3,c4⟩:=loK F hx
   show el F (bE F S j)≠Fd.zr
   intro h0
   rw [loI_eq] at f6
   exact f6 (vi_zero.2 h0)
 all_goals try (
  rename_i p1 p2 x hx d1 z hz e1 d2 d3 m1
  change LoX at x
  obtain ⟨j,yC,yB⟩:=x
  obtain ⟨k1,kC,kB,f1,f2,f3,f4,f5,f6,c1,c2,c3,c4⟩:=loK F hx
  have d1:(j:Int)<((min (n:Int) 80).toNat:Int):=ng d1
  first
  | ((show 0≤(bK F S j:Int)∧(bK F S j:Int)≤(bK F S j:Int)∧(Tryz.prog.types[3].bytes:Int)*(bK F S j:Int)≤281474976710656∧(bK F S j:Int)≤9223372036854775807);rw [hby];omega)
  | exact ⟨⟨⟨by show 0+(bB F S j).length≤yB.2.2.2.1.length;omega,by show (bB F S j).length<1000000000;omega,kB.nil⟩,by show (bB F S j).length<100000000;omega⟩,⟨zw _,by show 1<1000000000;decide,nofun⟩,by show 1<100000000;decide⟩)
 all_goals try (
  rename_i p1 p2 x hx d1 z hz e1 d2 d3
  change LoX at x
  obtain ⟨j,yC,yB⟩:=x
  obtain ⟨k1,kC,kB,f1,f2,f3,f4,f5,f6,c1,c2,c3,c4⟩:=loK F hx
  have d1:(j:Int)<((min (n:Int) 80).toNat:Int):=ng d1
  (show 0≤(bK F S j:Int)∧(bK F S j:Int)≤(bK F S j:Int)∧(Tryz.prog.types[3].bytes:Int)*(bK F S j:Int)≤281474976710656∧(bK F S j:Int)≤9223372036854775807);rw [hby];omega)
 all_goals try (
  rename_i p1 p2 x hx d1 z hz e1 d2 d3 m1 m2
  change LoX at x
  obtain ⟨j,yC,yB⟩:=x
  obtain ⟨k1,kC,kB,f1,f2,f3,f4,f5,f6,c1,c2,c3,c4⟩:=loK F hx
  have d1:(j:Int)<((min (n:Int) 80).toNat:Int):=ng d1
  exact ⟨⟨⟨by show 0+(bB F S j).length≤yB.2.2.2.1.length;omega,by show (bB F S j).length<1000000000;omega,kB.nil⟩,by show (bB F S j).length<100000000;omega⟩,⟨zw _,by show 1<1000000000;decide,nofun⟩,by show 1<100000000;decide⟩)
 all_goals try (
  rename_i p1 p2 x hx d1 z hz e1 d2 d3 m1 m2 m3
  change LoX at x
  obtain ⟨j,yC,yB⟩:=x
  obtain ⟨k1,kC,kB,f1,f2,f3,f4,f5,f6,c1,c2,c3,c4⟩:=loK F hx
  have d1:(j:Int)<((min (n:Int) 80).toNat:Int):=ng d1
  (show 0≤(bK F S j:Int)∧(bK F S j:Int)≤(bK F S j:Int)∧(Tryz.prog.types[3].bytes:Int)*(bK F S j:Int)≤281474976710656∧(bK F S j:Int)≤9223372036854775807);rw [hby];omega)
 all_goals try (
  rename_i p1 p2 x hx d1 z hz e1 d2 d3 m1 m2 y hy
  change LoX at x
  obtain ⟨j,yC,yB⟩:=x
  obtain ⟨k1,kC,kB,f1,f2,f3,f4,f5,f6,c1,c2,c3,c4⟩:=loK F hx
  have d1:(j:Int)<((min (n:Int) 80).toNat:Int):=ng d1
  change Nat×Nat at z
  obtain ⟨j2,i2⟩:=z
  obtain ⟨z1,z2,z3⟩:j2<S.length∧1≤i2∧i2≤bL F S j2+1:=hz
  have e1:(j:Int)=(j2:Int):=e1
  obtain rfl:j=j2:=by omega
  have d2:¬ (i2:Int)≤(bL F S j:Int):=nf d2
  have e2:i2=bL F S j+1:=by omega
  have lT:=loT_len (F:=F) (S:=S) (n:=j)
  change Oq at y
  have hy:Oqw (loM F S j i2 yB) y:=hy
  have eT:(loM F S j i2 yB)=tmL F (bB F S j) [muI F (bD F S j) (ivI F (bE F S j))]:=lo_M kB e2
  first
  | (rw [show Tryz.prog.types[3].bytes=8 by kernel_rfl]
     have l1:(loT F S j).length=bK F S j+(tmL F (bB F S j) [muI F (bD F S j) (ivI F (bE F S j))]).length:=by rw [zx,xz]
     have h3:=hy.cap
     have h4:=hy.len
     rw [eT] at h3
     refine ⟨zw _,by simp only [xz];omega,by show 0+((loM F S j i2 yB)).length≤y.2.2.2.1.length;rw [eT];omega,by show ((bK F S j:Int).toNat+((loM F S j i2 yB)).length)*8≤_;rw [eT];omega⟩)
  | exact fun h0=>⟨(hy.nil h0).1,(hy.nil h0).1⟩)
 all_goals try (
  rename_i p1 p2 x hx d1 z hz e1 d2 d3 m1 y hy m2
  change LoX at x
  obtain ⟨j,yC,yB⟩:=x
  obtain ⟨k1,kC,kB,f1,f2,f3,f4,f5,f6,c1,c2,c3,c4⟩:=loK F hx
  have d1:(j:Int)<((min (n:Int) 80).toNat:Int):=ng d1
  change Nat×Nat at z
  obtain ⟨j2,i2⟩:=z
  obtain ⟨z1,z2,z3⟩:j2<S.length∧1≤i2∧i2≤bL F S j2+1:=hz
  have e1:(j:Int)=(j2:Int):=e1
  obtain rfl:j=j2:=by omega
  have d2:¬ (i2:Int)≤(bL F S j:Int):=nf d2
  have e2:i2=bL F S j+1:=by omega
  have lT:=loT_len (F:=F) (S:=S) (n:=j)
  change Oq at y
  have hy:Oqw (loM F S j i2 yB) y:=hy
  have eT:(loM F S j i2 yB)=tmL F (bB F S j) [muI F (bD F S j) (ivI F (bE F S j))]:=lo_M kB e2
  first
  | (rw [show Tryz.prog.types[3].bytes=8 by kernel_rfl]
     have l1:(loT F S j).length=bK F S j+(tmL F (bB F S j) [muI F (bD F S j) (ivI F (bE F S j))]).length:=by rw [zx,xz]
     have h3:=hy.cap
     have h4:=hy.len
     rw [eT] at h3
     refine ⟨zw _,by simp only [xz];omega,by show 0+((loM F S j i2 yB)).length≤y.2.2.2.1.length;rw [eT];omega,by show ((bK F S j:Int).toNat+((loM F S j i2 yB)).length)*8≤_;rw [eT];omega⟩)
  | exact fun h0=>⟨(hy.nil h0).1,(hy.nil h0).1⟩)
 all_goals try (
  rename_i p1 p2 x hx d1 z hz e1 d2 d3 m1 m2 y hy a1 a2 sp cap u1 u2
  change LoX at x
  obtain ⟨j,yC,yB⟩:=x
  obtain ⟨k1,kC,kB,f1,f2,f3,f4,f5,f6,c1,c2,c3,c4⟩:=loK F hx
  have d1:(j:Int)<((min (n:Int) 80).toNat:Int):=ng d1
  change Nat×Nat at z
  obtain ⟨j2,i2⟩:=z
  obtain ⟨z1,z2,z3⟩:j2<S.length∧1≤i2∧i2≤bL F S j2+1:=hz
  have e1:(j:Int)=(j2:Int):=e1
  obtain rfl:j=j2:=by omega
  have d2:¬ (i2:Int)≤(bL F S j:Int):=nf d2
  have e2:i2=bL F S j+1:=by omega
  have lT:=loT_len (F:=F) (S:=S) (n:=j)
  change Oq at y
  have hy:Oqw (loM F S j i2 yB) y:=hy
  have eT:(loM F S j i2 yB)=tmL F (bB F S j) [muI F (bD F S j) (ivI F (bE F S j))]:=lo_M kB e2
  change List Int at sp
  have d3:decide (dxI F S j i2=0)=false:=d3
  rw [e2,dxI_end] at d3
  have tw:=lo_tw (k:=bK F S j) hy a1 a2 sp cap u1 u2
  rw [eT] at tw
  have eD:dxI F S j i2=bD F S j:=by rw [e2,dxI_end]
  have eL:(loT F S j).length=(bK F S j:Int).toNat+(loM F S j i2 yB).length:=by rw [eT,zx,xz,zu]
  have eW:((zo (bK F S j:Int).toNat (0:Int)).drop 0).take (bK F S j:Int).toNat ++ (y.2.2.2.1.drop 0).take (tmL F (bB F S j) [muI F (bD F S j) (ivI F (bE F S j))]).length ++ sp=((zo (bK F S j:Int).toNat (0:Int)).drop 0).take (bK F S j:Int).toNat ++ (y.2.2.2.1.drop 0).take (loM F S j i2 yB).length ++ sp:=by rw [eT]
  refine Stands.one ((j,(true,a1,a2,_,cap)):Nat×Oq) ⟨⟨by show j<S.length;omega,nf d3,tw⟩,?_⟩
  ((conv=>arg 1;reduce);with_reducible repeat' first | exact ty | refine ta ?_ ?_ | refine ti fun _ => ?_ | refine tf fun _ => ?_ | refine tl ?_)
  all_goals first | exact vlf | exact eD | exact eD.symm | exact eL | exact eL.symm | exact eW | exact eW.symm)
 all_goals try (
  rename_i p1 p2 x hx d1 z hz e1 d2 d3 m1 y hy m2 a1 a2 sp cap u1 u2
  change LoX at x
  obtain ⟨j,yC,yB⟩:=x
  obtain ⟨k1,kC,kB,f1,f2,f3,f4,f5,f6,c1,c2,c3,c4⟩:=loK F hx
  have d1:(j:Int)<((min (n:Int) 80).toNat:Int):=ng d1
  change Nat×Nat at z
  obtain ⟨j2,i2⟩:=z
  obtain ⟨z1,z2,z3⟩:j2<S.length∧1≤i2∧i2≤bL F S j2+1:=hz
  have e1:(j:Int)=(j2:Int):=e1
  obtain rfl:j=j2:=by omega
  have d2:¬ (i2:Int)≤(bL F S j:Int):=nf d2
  have e2:i2=bL F S j+1:=by omega
  have lT:=loT_len (F:=F) (S:=S) (n:=j)
  change Oq at y
  have hy:Oqw (loM F S j i2 yB) y:=hy
  have eT:(loM F S j i2 yB)=tmL F (bB F S j) [muI F (bD F S j) (ivI F (bE F S j))]:=lo_M kB e2
  change List Int at sp
  have d3:decide (dxI F S j i2=0)=false:=d3
  rw [e2,dxI_end] at d3
  have tw:=lo_tw (k:=bK F S j) hy a1 a2 sp cap u1 u2
  rw [eT] at tw
  have eD:dxI F S j i2=bD F S j:=by rw [e2,dxI_end]
  have eL:(loT F S j).length=(bK F S j:Int).toNat+(loM F S j i2 yB).length:=by rw [eT,zx,xz,zu]
  have eW:((zo (bK F S j:Int).toNat (0:Int)).drop 0).take (bK F S j:Int).toNat ++ (y.2.2.2.1.drop 0).take (tmL F (bB F S j) [muI F (bD F S j) (ivI F (bE F S j))]).length ++ sp=((zo (bK F S j:Int).toNat (0:Int)).drop 0).take (bK F S j:Int).toNat ++ (y.2.2.2.1.drop 0).take (loM F S j i2 yB).length ++ sp:=by rw [eT]
  refine Stands.one ((j,(true,a1,a2,_,cap)):Nat×Oq) ⟨⟨by show j<S.length;omega,nf d3,tw⟩,?_⟩
  ((conv=>arg 1;reduce);with_reducible repeat' first | exact ty | refine ta ?_ ?_ | refine ti fun _ => ?_ | refine tf fun _ => ?_ | refine tl ?_)
  all_goals first | exact vlf | exact eD | exact eD.symm | exact eL | exact eL.symm | exact eW | exact eW.symm)
 · rename_i p1 p2 x hx d1 z hz e1 d2 d3 v hv e4 e5
   change LoX at x
   obtain ⟨j,yC,yB⟩:=x
   obtain ⟨k1,kC,kB,f1,f2,f3,f4,f5,f6,c1,c2,c3,c4⟩:=loK F hx
   have d1:(j:Int)<((min (n:Int) 80).toNat:Int):=ng d1
   change Nat×Nat at z
   obtain ⟨j2,i2⟩:=z
   have e1:(j:Int)=(j2:Int):=e1
   obtain rfl:j=j2:=by omega
   change Nat×Oq at v
   obtain ⟨j3,v⟩:=v
   obtain ⟨v1,v2,v3⟩:j3<S.length∧bD F S j3≠0∧Oqw (loT F S j3) v:=hv
   have e4:(j:Int)=(j3:Int):=e4
   obtain rfl:j=j3:=by omega
   have lT:=loT_len (F:=F) (S:=S) (n:=j)
   have c5:=v3.cap
   have c6:=v3.len
   refine ⟨⟨⟨by show 0+(bC F S j).length≤yC.2.2.2.1.length;omega,by show (bC F S j).length<1000000000;omega,kC.nil⟩,by show (bC F S j).length<100000000;omega,?_⟩,⟨by show 0+(loT F S j).length≤v.2.2.2.1.length;omega,by show (loT F S j).length<1000000000;omega,v3.nil⟩,by show (loT F S j).length<100000000;omega,?_⟩
   · show Elw F ((yC.2.2.2.1.drop 0).take (bC F S j).length)
     rw [zm,kC.eq];unfold bC;exact elw_vis _
   · show Elw F ((v.2.2.2.1.drop 0).take (loT F S j).length)
     rw [zm,v3.eq];exact elw_T
 iterate 1
  focus
   rename_i p1 p2 x hx d1 z hz e1 d2 d3 v hv e4 e5 w hw
   change LoX at x
   obtain ⟨j,yC,yB⟩:=x
   obtain ⟨k1,kC,kB,f1,f2,f3,f4,f5,f6,c1,c2,c3,c4⟩:=loK F hx
   have d1:(j:Int)<((min (n:Int) 80).toNat:Int):=ng d1
   change Nat×Nat at z
   obtain ⟨j2,i2⟩:=z
   have e1:(j:Int)=(j2:Int):=e1
   obtain rfl:j=j2:=by omega
   change Nat×Oq at v
   obtain ⟨j3,v⟩:=v
   obtain ⟨v1,v2,v3⟩:j3<S.length∧bD F S j3≠0∧Oqw (loT F S j3) v:=hv
   have e4:(j:Int)=(j3:Int):=e4
   obtain rfl:j=j3:=by omega
   have lT:=loT_len (F:=F) (S:=S) (n:=j)
   have c5:=v3.cap
   have c6:=v3.len
   first
   | exact inR64 (n:=2*(bL F S j:Int)) (by omega) (by omega)
 iterate 3
  focus
   rename_i p1 p2 x hx d1 z hz e1 d2 d3 v hv e4 e5 w hw d4
   change LoX at x
   obtain ⟨j,yC,yB⟩:=x
   obtain ⟨k1,kC,kB,f1,f2,f3,f4,f5,f6,c1,c2,c3,c4⟩:=loK F hx
   have d1:(j:Int)<((min (n:Int) 80).toNat:Int):=ng d1
   change Nat×Nat at z
   obtain ⟨j2,i2⟩:=z
   have e1:(j:Int)=(j2:Int):=e1
   obtain rfl:j=j2:=by omega
   change Nat×Oq at v
   obtain ⟨j3,v⟩:=v
   obtain ⟨v1,v2,v3⟩:j3<S.length∧bD F S j3≠0∧Oqw (loT F S j3) v:=hv
   have e4:(j:Int)=(j3:Int):=e4
   obtain rfl:j=j3:=by omega
   have lT:=loT_len (F:=F) (S:=S) (n:=j)
   have c5:=v3.cap
   have c6:=v3.len
   change Oq at w
   have hw:Oqw (adL F ((yC.2.2.2.1.drop 0).take (bC F S j).length) ((v.2.2.2.1.drop 0).take (loT F S j).length)) w:=hw
   have eA:adL F ((yC.2.2.2.1.drop 0).take (bC F S j).length) ((v.2.2.2.1.drop 0).take (loT F S j).length)=stL F (bC F S j) (zo (bK F S j) 0 ++ bB F S j) (bD F S j) (bE F S j):=by rw [zm,kC.eq,zm,v3.eq,lo_st]
   rw [eA] at hw
   have d4:(j:Int)<2*(bL F S j:Int):=ng d4
   first
   | exact inR64 (n:=(bK F S j:Int)+1) (by omega) (by omega)
   | exact inR64 (n:=(j:Int)+1) (by omega) (by omega)
   | exact inR64 (n:=(j:Int)+1 - (bL F S j:Int)) (by omega) (by omega)
   | (obtain ⟨s1,s2,s3,s4,s5⟩:=bm_near v2 (show j<2*bL F S j by omega)
      refine Stands.one ((j+1,w,yB):LoX) ⟨⟨by show j+1≤S.length;omega,by show Oqw (bC F S (j+1)) w;rw [s1];exact hw,by show Oqw (bB F S (j+1)) yB;rw [s2];exact kB⟩,by show S.length - (j+1)<S.length - j;omega,?_⟩
      ((conv=>arg 1;reduce);with_reducible repeat' first | exact ty | refine ta ?_ ?_ | refine ti fun _ => ?_ | refine tf fun _ => ?_ | refine tl ?_)
      all_goals first
       | exact vlf
       | (show _=(bC F S (j+1)).length;rw [s1];exact congrArg wi eA)
       | (show (bB F S j).length=(bB F S (j+1)).length;rw [s2])
       | (show (bL F S j:Int)=(bL F S (j+1):Int);rw [s3])
       | (show (bK F S j:Int)+1=(bK F S (j+1):Int);rw [s4];rfl)
       | (show bE F S j=bE F S (j+1);rw [s5]))
 iterate 4
  focus
   rename_i p1 p2 x hx d1 z hz e1 d2 d3 v hv e4 e5 w hw d4
   change LoX at x
   obtain ⟨j,yC,yB⟩:=x
   obtain ⟨k1,kC,kB,f1,f2,f3,f4,f5,f6,c1,c2,c3,c4⟩:=loK F hx
   have d1:(j:Int)<((min (n:Int) 80).toNat:Int):=ng d1
   change Nat×Nat at z
   obtain ⟨j2,i2⟩:=z
   have e1:(j:Int)=(j2:Int):=e1
   obtain rfl:j=j2:=by omega
   change Nat×Oq at v
   obtain ⟨j3,v⟩:=v
   obtain ⟨v1,v2,v3⟩:j3<S.length∧bD F S j3≠0∧Oqw (loT F S j3) v:=hv
   have e4:(j:Int)=(j3:Int):=e4
   obtain rfl:j=j3:=by omega
   have lT:=loT_len (F:=F) (S:=S) (n:=j)
   have c5:=v3.cap
   have c6:=v3.len
   change Oq at w
   have hw:Oqw (adL F ((yC.2.2.2.1.drop 0).take (bC F S j).length) ((v.2.2.2.1.drop 0).take (loT F S j).length)) w:=hw
   have eA:adL F ((yC.2.2.2.1.drop 0).take (bC F S j).length) ((v.2.2.2.1.drop 0).take (loT F S j).length)=stL F (bC F S j) (zo (bK F S j) 0 ++ bB F S j) (bD F S j) (bE F S j):=by rw [zm,kC.eq,zm,v3.eq,lo_st]
   rw [eA] at hw
   have d4:¬ (j:Int)<2*(bL F S j:Int):=nf d4
   first
   | exact inR64 (n:=(bK F S j:Int)+1) (by omega) (by omega)
   | exact inR64 (n:=(j:Int)+1) (by omega) (by omega)
   | exact inR64 (n:=(j:Int)+1 - (bL F S j:Int)) (by omega) (by omega)
   | (obtain ⟨s1,s2,s3,s4,s5⟩:=bm_far v2 (show ¬ j<2*bL F S j by omega)
      refine Stands.one ((j+1,w,yC):LoX) ⟨⟨by show j+1≤S.length;omega,by show Oqw (bC F S (j+1)) w;rw [s1];exact hw,by show Oqw (bB F S (j+1)) yC;rw [s2];exact kC⟩,by show S.length - (j+1)<S.length - j;omega,?_⟩
      ((conv=>arg 1;reduce);with_reducible repeat' first | exact ty | refine ta ?_ ?_ | refine ti fun _ => ?_ | refine tf fun _ => ?_ | refine tl ?_)
      all_goals first
       | exact vlf
       | (show _=(bC F S (j+1)).length;rw [s1];exact congrArg wi eA)
       | (show (bC F S j).length=(bB F S (j+1)).length;rw [s2])
       | (show (j:Int)+1 - (bL F S j:Int)=(bL F S (j+1):Int);rw [s3];omega)
       | (show (1:Int)=(bK F S (j+1):Int);rw [s4];rfl)
       | (show bD F S j=bE F S (j+1);rw [s5]))
 · rename_i p1 p2 x hx d1
   change LoX at x
   obtain ⟨j,yC,yB⟩:=x
   obtain ⟨k1,kC,kB,f1,f2,f3,f4,f5,f6,c1,c2,c3,c4⟩:=loK F hx
   exact ⟨by show 0+(bC F S j).length≤yC.2.2.2.1.length;omega,by show (bC F S j).length<1000000000;omega,kC.nil⟩
 · rename_i p1 p2 x hx d1 y hy
   change LoX at x
   obtain ⟨j,yC,yB⟩:=x
   obtain ⟨k1,kC,kB,f1,f2,f3,f4,f5,f6,c1,c2,c3,c4⟩:=loK F hx
   have d1:¬ (j:Int)<((min (n:Int) 80).toNat:Int):=nf d1
   obtain rfl:j=S.length:=by omega
   have hy:Oqw (trL F (yu (bC F S S.length).length (yp 0 yC.2.2.2.1))) y:=hy
   have e:trL F (yu (bC F S S.length).length (yp 0 yC.2.2.2.1))=wkL F S:=by
    rw [zm,kC.eq];unfold wkL;rfl
   have e2:bL F S S.length=wkN F S:=by unfold wkN;rfl
   rw [e] at hy
   refine Ends.one (y:Oq) hy ?_
   ((conv=>arg 1;reduce);with_reducible repeat' first | exact ty | refine ta ?_ ?_ | refine ti fun _ => ?_ | refine tf fun _ => ?_ | refine tl ?_)
   all_goals first | exact vlf | exact congrArg wi e | exact (congrArg wi e).symm | exact congrArg (fun k:Nat=>(k:Int)) e2 | exact congrArg (fun k:Nat=>(k:Int)) e2.symm
def fcRloc:Fc Tryz.prog C0 where
 tg:=.fn 40
 X:=Sl3
 args:=fun (o,b,q,l,i,n,c)=>[.int .i64 (F.m:Int),.sl 0 i n c]
 mem:=fun (o,b,q,l,i,n,c)=>[⟨b,q,1,false,some o,.rows 3 l⟩]
 pre:=fun (o,b,q,l,i,n,c)=>Sl3.pre (o,b,q,l,i,n,c)∧n≤c∧n<100000000
 alts:=fun (o,b,q,l,i,n,c)=>[⟨Oq,fun y=>Oqw (wkL F ((l.drop i).take (min n 80))) y,fun y=>.tup [.sl 1 0 (wkL F ((l.drop i).take (min n 80))).length y.2.2.2.2,.int .i64 (wkN F ((l.drop i).take (min n 80)):Int)],fun y=>[⟨b,q,1,false,some o,.rows 3 l⟩,oqC true y]⟩]
 mat vs m:=match vs with
  | [_,.sl s i n c]=>match nth m s with
    | ⟨b,q,_,_,g,.rows 3 l⟩=>some ((onOf g,b,q,l,i,n,c),[s])
    | _=>none
  | _=>none
 ok:=fun (o,b,q,l,i,n,c) h=>rloc_ok F o b q l i n c h.1.1 h.2.1 h.2.2 h.1.2.2 _ rfl
end
end
end Go.Vx
namespace Go.Vx
open Go Go.Proofs
noncomputable section
variable [Gl]
theorem Oqw.flB {L:List Int} {y:Oq} (h:Oqw L y) {z:Nat} (hz:z / 8<L.length):Oqw (flB L z) (y.1,y.2.1,y.2.2.1,Go.Vx.flB y.2.2.2.1 z,y.2.2.2.2):=by
 have:=h.put hz (ibit .xor .u8 (L.getD (z / 8) 0) ((2 ^ (z % 8):Nat):Int))
 unfold Go.Vx.flB
 rw [h.at hz]
 exact this
theorem Oqw.fpD {L:List Int} {y:Oq} (h:Oqw L y) {g z:Nat} (hz:z<8*L.length+g):Oqw (Go.Vx.fpD g L z) (y.1,y.2.1,y.2.2.1,Go.Vx.fpD g y.2.2.2.1 z,y.2.2.2.2):=by
 unfold Go.Vx.fpD
 by_cases e:z<g
 · rw [if_pos e,if_pos e];exact h
 · rw [if_neg e,if_neg e];exact h.flB (by omega)
theorem Oqw.fpP {L:List Int} {y:Oq} (h:Oqw L y) {g z:Nat} (hg:g≤8*L.length):Oqw (Go.Vx.fpP g L z) (y.1,y.2.1,y.2.2.1,Go.Vx.fpP g y.2.2.2.1 z,y.2.2.2.2):=by
 unfold Go.Vx.fpP
 by_cases e:z<g
 · rw [if_pos e,if_pos e];exact h.flB (by omega)
 · rw [if_neg e,if_neg e];exact h
section
variable {F:Gf} (K:Kd F) {d:Nat} {A B:List Int}
theorem dcZ_rt (hn:8*d+K.D≤nF F):rtL F (dcL F K.t d K.D A B) (min (8*d+K.D) (nF F))=dcZ F K.t d K.D A B:=by
 obtain ⟨hs,h7,hh⟩:=nF_sz F
 have e:trL F (dcL F K.t d K.D A B)=dcL F K.t d K.D A B:=by rw [dcL_C];unfold trL;rw [els_vis,trim_trim]
 rw [dcZ_eq]
 unfold srL
 rw [e]
 congr 1
 omega
def Rd13 (g:Nat) (A V Z:List Int):Inv' C0:=⟨13,Nat×Oq×Oq,fun x=>[(16,.int .i64 (x.1:Int)),(11,.sl 5 0 A.length x.2.1.2.2.2.2),(12,.sl 6 0 V.length x.2.2.2.2.2.2),(22,.junk),(25,.junk)],fun x m=>match m with
 | a0 :: a1 :: a2 :: a3 :: a4 :: _ :: _ :: r=>a0 :: a1 :: a2 :: a3 :: a4 :: obC true x.2.1 :: obC true x.2.2 :: r
 | m=>m,fun x=>x.1≤Z.length∧Oqw (tnD g A (Z.take x.1)) x.2.1∧Oqw (tnP g V (Z.take x.1)) x.2.2,fun x=>Z.length - x.1⟩
abbrev rwL (l:List Int) (i n:Nat):List Int:=(l.drop i).take n
abbrev s8L (S:List Int) (t:Nat):List Int:=(S.drop 0).take (min (2*t) 80)
theorem rdS (t40:K.t≤40):s8L (dcS F K.t d K.D A B) K.t=dcS F K.t d K.D A B:=by
 have lS:(dcS F K.t d K.D A B).length=2*K.t:=dcS_len F
 unfold s8L
 rw [zm,zc (by omega)]
abbrev rdR (K:Kd F) (d:Nat) (A B:List Int) (y:Oq):List Int:=rtL F ((y.2.2.2.1.drop 0).take (min (wkL F (s8L (dcS F K.t d K.D A B) K.t)).length 2048)) (min (((8*d+K.D:Nat):Int)).toNat (nF F))
theorem rdZ (hn:8*d+K.D≤nF F) (t40:K.t≤40) {y z:Oq} (hy:Oqw (wkL F (s8L (dcS F K.t d K.D A B) K.t)) y) (hz:Oqw (rdR K d A B y) z):rdR K d A B y=dcZ F K.t d K.D A B∧Oqw (dcZ F K.t d K.D A B) z:=by
 have lL:=dcL_len F (t:=K.t) (d:=d) (g:=K.D) (D:=A) (R:=B)
 rw [rdS K t40,← dcL_eq] at hy
 have eZ:rdR K d A B y=dcZ F K.t d K.D A B:=by
  unfold rdR
  rw [rdS K t40,← dcL_eq,Nat.min_eq_left (a:=(dcL F K.t d K.D A B).length) (by omega),zm,hy.eq,zu,dcZ_rt K hn]
 rw [eZ] at hz
 exact ⟨eZ,hz⟩
abbrev AltT (d:Nat) (A B:List Int) (r:List (Ck C0)):Alt C0:=⟨Oq×Oq×Oq,fun y=>(mdC K d A B∨mdM K d A B)∧(Oqw (tnD K.D A (ocZ K d A B)) y.1∧Oqw (tnP K.D (mkR K.D B) (ocZ K d A B)) y.2.1)∧Oqw (ocZ K d A B) y.2.2,fun y=>.tup [.sl 3 0 d y.1.2.2.2.2,.sl 4 0 (nP K) y.2.1.2.2.2.2,.sl 5 0 (ocZ K d A B).length y.2.2.2.2.2.2,.int .i64 0],fun y=>r ++ [obC true y.1,obC true y.2.1,oqC true y.2.2]⟩
abbrev AltX (d:Nat) (A B:List Int) (r:List (Ck C0)):Alt C0:=⟨Unit,fun _=>mdX K d A B,fun _=>.tup [.nils,.nils,.nils,.int .i64 106],fun _=>r⟩
set_option maxHeartbeats 8000000 in
theorem rdec_ok (hn:8*d+K.D≤nF F) (o:Bool) (b q:Nat) (l:List Int) (L c:Nat) (o1:Bool) (b1 q1:Nat) (l1:List Int) (i1 c1:Nat) (o2:Bool) (b2 q2:Nat) (l2:List Int) (i2 c2:Nat) (h1:Sl3.pre (o1,b1,q1,l1,i1,d,c1)) (h2:Sl3.pre (o2,b2,q2,l2,i2,nP K,c2)) (H:DcOK K d (rwL l1 i1 d) (rwL l2 i2 (nP K))):
 Does (C:=C0) Tryz.prog (.fn 18) [⟨b,q,1,false,some o,.rows 5 l⟩,⟨b1,q1,1,false,some o1,.rows 5 l1⟩,⟨b2,q2,1,false,some o2,.rows 5 l2⟩] [xcV (F.m:Int) (K.t:Int) (d:Int) 0 L c (K.D:Int),.sl 1 i1 d c1,.sl 2 i2 (nP K) c2]
  [AltT K d (rwL l1 i1 d) (rwL l2 i2 (nP K)) [⟨b,q,1,false,some o,.rows 5 l⟩,⟨b1,q1,1,false,some o1,.rows 5 l1⟩,⟨b2,q2,1,false,some o2,.rows 5 l2⟩],AltX K d (rwL l1 i1 d) (rwL l2 i2 (nP K)) [⟨b,q,1,false,some o,.rows 5 l⟩,⟨b1,q1,1,false,some o1,.rows 5 l1⟩,⟨b2,q2,1,false,some o2,.rows 5 l2⟩]]:=by
 have t40:=H.t
 have d2:=H.d2
 have g2:=H.g2
 have hP:nP K=(K.D+7) / 8:=rfl
 have lS:(dcS F K.t d K.D (rwL l1 i1 d) (rwL l2 i2 (nP K))).length=2*K.t:=dcS_len F
 have eS:((dcS F K.t d K.D (rwL l1 i1 d) (rwL l2 i2 (nP K))).drop 0).take (2*K.t)=(dcS F K.t d K.D (rwL l1 i1 d) (rwL l2 i2 (nP K))):=by rw [zm,zc (by rw [lS];exact zw _)]
 have eS8:(s8L (dcS F K.t d K.D (rwL l1 i1 d) (rwL l2 i2 (nP K))) K.t)=(dcS F K.t d K.D (rwL l1 i1 d) (rwL l2 i2 (nP K))):=rdS K t40
 have lL:=dcL_len F (t:=K.t) (d:=d) (g:=K.D) (D:=(rwL l1 i1 d)) (R:=(rwL l2 i2 (nP K)))
 have mk:=mk_cl H.b H.lb
 have lA:=H.la
 have lB:=H.lb
 refine loc_fn (P:=Tryz.prog) (E:=⟨[fcRsyn F,fcRbytes,fcXclear,fcRloc F,fcRsearch F,fcXflip],[pcXclean,pcXbits],75,[(9,[],[.p 0,.p 2,.q 1,.q 3,.q 4,.e 5,.p 6]),(15,[],[.p 1,.p 2,.p 3,.p 4,.p 5,.q 0,.q 6,.e 7])],[],[],none⟩) (L:=[Rd13 K.D (rwL l1 i1 d) (mkR K.D (rwL l2 i2 (nP K))) (dcZ F K.t d K.D (rwL l1 i1 d) (rwL l2 i2 (nP K)))]) mix Tryz.func18 rfl (by kernel_rfl) (by kernel_rfl) rfl rfl ?_
 ((conv=>arg 1;reduce);with_reducible repeat' first | exact ty | refine ta ?_ ?_ | refine ti fun _ => ?_ | refine tf fun _ => ?_ | refine tl ?_)
 all_goals try exact vlf
 all_goals try exact ⟨by show d<1000000;omega,by show K.D<1000000;omega⟩
 · exact ⟨⟨H.t,H.d2,H.g2⟩,⟨h1,h2⟩,⟨H.a,H.b⟩,rfl⟩
 · exact h1
 · exact ⟨by show K.D<1000000;omega,h2,H.b⟩
 · exact ⟨by show 0+2*K.t≤(dcS F K.t d K.D (rwL l1 i1 d) (rwL l2 i2 (nP K))).length;omega,by show 2*K.t<1000000000;omega,nofun⟩
 · rename_i b0 s hs u hu v hv e
   have hC:mdC K d (rwL l1 i1 d) (rwL l2 i2 (nP K)):=by rw [eS] at e;exact e
   change Oq at u
   change Oq at v
   have hu:Oqw (rwL l1 i1 d) u:=hu
   have hv:Oqw (clL K.D (rwL l2 i2 (nP K))) v:=hv
   refine Ends.one ((u,v,(false,0,0,[],0)):Oq×Oq×Oq) ⟨.inl hC,⟨by show Oqw (tnD K.D _ (ocZ K d _ _)) u;rw [ocZ_C K d hC,tnD_zero];exact hu,by show Oqw (tnP K.D _ (ocZ K d _ _)) v;rw [ocZ_C K d hC,tnP_zero,mk];exact hv⟩,by show Oqw (ocZ K d _ _) _;rw [ocZ_C K d hC];exact Oqw.none⟩ ?_
   ((conv=>arg 1;reduce);with_reducible repeat' first | exact ty | refine ta ?_ ?_ | refine ti fun _ => ?_ | refine tf fun _ => ?_ | refine tl ?_)
   all_goals first | exact vlf | exact lA | exact lA.symm | exact lB | exact lB.symm | (show _=_;rw [ocZ_C K d hC];rfl)
 · exact ⟨⟨by show 0+2*K.t≤(dcS F K.t d K.D (rwL l1 i1 d) (rwL l2 i2 (nP K))).length;omega,by show 2*K.t<1000000000;omega,nofun⟩,zw _,by show 2*K.t<100000000;omega⟩
 · rename_i b0 s hs u hu v hv e y hy g
   have e:clnB (dcS F K.t d K.D (rwL l1 i1 d) (rwL l2 i2 (nP K)))=false:=by rw [eS] at e;exact e
   change Oq at u
   change Oq at v
   change Oq at y
   have hy:Oqw (wkL F (s8L (dcS F K.t d K.D (rwL l1 i1 d) (rwL l2 i2 (nP K))) K.t)) y:=hy
   rw [eS8,← dcL_eq] at hy
   have y1:=hy.cap
   have y2:=hy.len
   show inR .i64 (((wkL F (s8L (dcS F K.t d K.D (rwL l1 i1 d) (rwL l2 i2 (nP K))) K.t)).length:Int) - 1)
   rw [eS8,← dcL_eq]
   exact inR64 (by omega) (by omega)
 · rename_i b0 s hs u hu v hv e y hy g
   have e:clnB (dcS F K.t d K.D (rwL l1 i1 d) (rwL l2 i2 (nP K)))=false:=by rw [eS] at e;exact e
   change Oq at u
   change Oq at v
   change Oq at y
   have hy:Oqw (wkL F (s8L (dcS F K.t d K.D (rwL l1 i1 d) (rwL l2 i2 (nP K))) K.t)) y:=hy
   rw [eS8,← dcL_eq] at hy
   have y1:=hy.cap
   have y2:=hy.len
   have g:(decide ((K.t:Int)<(wkN F (s8L (dcS F K.t d K.D (rwL l1 i1 d) (rwL l2 i2 (nP K))) K.t):Int)) || decide (((wkL F (s8L (dcS F K.t d K.D (rwL l1 i1 d) (rwL l2 i2 (nP K))) K.t)).length:Int) - 1≠(wkN F (s8L (dcS F K.t d K.D (rwL l1 i1 d) (rwL l2 i2 (nP K))) K.t):Int)))=true:=g
   rw [eS8,← dcL_eq,← dcN_eq] at g
   simp only [Bool.or_eq_true,decide_eq_true_eq,decide_eq_false_iff_not] at g
   refine Ends.next (Ends.one () ⟨e,.inl (by omega)⟩ ?_)
   exact vgo
 · rename_i b0 s hs u hu v hv e y hy g
   have e:clnB (dcS F K.t d K.D (rwL l1 i1 d) (rwL l2 i2 (nP K)))=false:=by rw [eS] at e;exact e
   change Oq at u
   change Oq at v
   change Oq at y
   have hy:Oqw (wkL F (s8L (dcS F K.t d K.D (rwL l1 i1 d) (rwL l2 i2 (nP K))) K.t)) y:=hy
   rw [eS8,← dcL_eq] at hy
   have y1:=hy.cap
   have y2:=hy.len
   refine ⟨⟨by show 0+(wkL F (s8L (dcS F K.t d K.D (rwL l1 i1 d) (rwL l2 i2 (nP K))) K.t)).length≤y.2.2.2.1.length;rw [eS8,← dcL_eq];omega,by show (wkL F (s8L (dcS F K.t d K.D (rwL l1 i1 d) (rwL l2 i2 (nP K))) K.t)).length<1000000000;rw [eS8,← dcL_eq];omega,by show y.1=false→(wkL F (s8L (dcS F K.t d K.D (rwL l1 i1 d) (rwL l2 i2 (nP K))) K.t)).length=0∧_;rw [eS8,← dcL_eq];exact hy.nil⟩,by show (wkL F (s8L (dcS F K.t d K.D (rwL l1 i1 d) (rwL l2 i2 (nP K))) K.t)).length≤y.2.2.2.2;rw [eS8,← dcL_eq];exact y1,by show (wkL F (s8L (dcS F K.t d K.D (rwL l1 i1 d) (rwL l2 i2 (nP K))) K.t)).length<100000000;rw [eS8,← dcL_eq];omega,by show (((8*d+K.D:Nat):Int)).toNat<1000000;omega⟩
 · rename_i b0 s hs u hu v hv e y hy g z hz e2
   have e:clnB (dcS F K.t d K.D (rwL l1 i1 d) (rwL l2 i2 (nP K)))=false:=by rw [eS] at e;exact e
   change Oq at u
   change Oq at v
   change Oq at y
   change Oq at z
   obtain ⟨eZ,hz⟩:=rdZ K hn t40 (A:=(rwL l1 i1 d)) (B:=(rwL l2 i2 (nP K))) (y:=y) (z:=z) hy hz
   have g:(decide ((K.t:Int)<(wkN F (s8L (dcS F K.t d K.D (rwL l1 i1 d) (rwL l2 i2 (nP K))) K.t):Int)) || decide (((wkL F (s8L (dcS F K.t d K.D (rwL l1 i1 d) (rwL l2 i2 (nP K))) K.t)).length:Int) - 1≠(wkN F (s8L (dcS F K.t d K.D (rwL l1 i1 d) (rwL l2 i2 (nP K))) K.t):Int)))=false:=g
   rw [eS8,← dcL_eq,← dcN_eq] at g
   simp only [xf,decide_eq_true_eq,decide_eq_false_iff_not] at g
   have z1:=hz.cap
   have z2:=hz.len
   have e2:decide (((rdR K d (rwL l1 i1 d) (rwL l2 i2 (nP K)) y).length:Int)≠(wkN F (s8L (dcS F K.t d K.D (rwL l1 i1 d) (rwL l2 i2 (nP K))) K.t):Int))=true:=e2
   rw [eZ,eS8,← dcN_eq] at e2
   refine Ends.next (Ends.one () ⟨e,.inr (fun h9=>ng e2 (by rw [h9]))⟩ ?_)
   exact vgo
 · rename_i b0 s hs u hu v hv e y hy g z hz e2
   have e:clnB (dcS F K.t d K.D (rwL l1 i1 d) (rwL l2 i2 (nP K)))=false:=by rw [eS] at e;exact e
   change Oq at u
   change Oq at v
   change Oq at y
   change Oq at z
   obtain ⟨eZ,hz⟩:=rdZ K hn t40 (A:=(rwL l1 i1 d)) (B:=(rwL l2 i2 (nP K))) (y:=y) (z:=z) hy hz
   have g:(decide ((K.t:Int)<(wkN F (s8L (dcS F K.t d K.D (rwL l1 i1 d) (rwL l2 i2 (nP K))) K.t):Int)) || decide (((wkL F (s8L (dcS F K.t d K.D (rwL l1 i1 d) (rwL l2 i2 (nP K))) K.t)).length:Int) - 1≠(wkN F (s8L (dcS F K.t d K.D (rwL l1 i1 d) (rwL l2 i2 (nP K))) K.t):Int)))=false:=g
   rw [eS8,← dcL_eq,← dcN_eq] at g
   simp only [xf,decide_eq_true_eq,decide_eq_false_iff_not] at g
   have z1:=hz.cap
   have z2:=hz.len
   have hu:Oqw (rwL l1 i1 d) u:=hu
   have hv:Oqw (clL K.D (rwL l2 i2 (nP K))) v:=hv
   refine Stands.one ((0,u,v):Nat×Oq×Oq) ⟨⟨zg _,by show Oqw (tnD K.D _ []) u;rw [tnD_zero];exact hu,by show Oqw (tnP K.D _ []) v;rw [tnP_zero,mk];exact hv⟩,?_⟩
   ((conv=>arg 1;reduce);with_reducible repeat' first | exact ty | refine ta ?_ ?_ | refine ti fun _ => ?_ | refine tf fun _ => ?_ | refine tl ?_)
   all_goals first | exact vlf | exact mkR_len | exact mkR_len.symm
 all_goals try (
  rename_i b0 s hs u hu v hv e y hy g z hz e2 x hx e3
  have e:clnB (dcS F K.t d K.D (rwL l1 i1 d) (rwL l2 i2 (nP K)))=false:=by rw [eS] at e;exact e
  change Oq at u
  change Oq at v
  change Oq at y
  change Oq at z
  obtain ⟨eZ,hz⟩:=rdZ K hn t40 (A:=(rwL l1 i1 d)) (B:=(rwL l2 i2 (nP K))) (y:=y) (z:=z) hy hz
  have g:(decide ((K.t:Int)<(wkN F (s8L (dcS F K.t d K.D (rwL l1 i1 d) (rwL l2 i2 (nP K))) K.t):Int)) || decide (((wkL F (s8L (dcS F K.t d K.D (rwL l1 i1 d) (rwL l2 i2 (nP K))) K.t)).length:Int) - 1≠(wkN F (s8L (dcS F K.t d K.D (rwL l1 i1 d) (rwL l2 i2 (nP K))) K.t):Int)))=false:=g
  rw [eS8,← dcL_eq,← dcN_eq] at g
  simp only [xf,decide_eq_true_eq,decide_eq_false_iff_not] at g
  have z1:=hz.cap
  have z2:=hz.len
  change Nat×Oq×Oq at x
  obtain ⟨j,p,r⟩:=x
  obtain ⟨k1,k2,k3⟩:j≤(dcZ F K.t d K.D (rwL l1 i1 d) (rwL l2 i2 (nP K))).length∧Oqw (tnD K.D (rwL l1 i1 d) ((dcZ F K.t d K.D (rwL l1 i1 d) (rwL l2 i2 (nP K))).take j)) p∧Oqw (tnP K.D (mkR K.D (rwL l2 i2 (nP K))) ((dcZ F K.t d K.D (rwL l1 i1 d) (rwL l2 i2 (nP K))).take j)) r:=hx
  have lD:(tnD K.D (rwL l1 i1 d) ((dcZ F K.t d K.D (rwL l1 i1 d) (rwL l2 i2 (nP K))).take j)).length=d:=by rw [tnD_len];exact lA
  have lP:(tnP K.D (mkR K.D (rwL l2 i2 (nP K))) ((dcZ F K.t d K.D (rwL l1 i1 d) (rwL l2 i2 (nP K))).take j)).length=nP K:=by rw [tnP_len,mkR_len];exact lB
  have e3:(j:Int)<((rdR K d (rwL l1 i1 d) (rwL l2 i2 (nP K)) y).length:Int):=ng e3
  have e4:=e3
  rw [eZ] at e4
  have tg:z.2.2.2.1.getD ((j:Int).toNat+0) 0=(dcZ F K.t d K.D (rwL l1 i1 d) (rwL l2 i2 (nP K))).getD j 0:=by rw [show (j:Int).toNat+0=j by omega];exact hz.at (by omega)
  have rg:=dcZ_rng F (t:=K.t) (d:=d) (g:=K.D) (D:=(rwL l1 i1 d)) (R:=(rwL l2 i2 (nP K))) ((dcZ F K.t d K.D (rwL l1 i1 d) (rwL l2 i2 (nP K))).getD j 0) (getD_mem (d:=0) (by omega))
  have zl:=dcZ_len F (t:=K.t) (d:=d) (g:=K.D) (D:=(rwL l1 i1 d)) (R:=(rwL l2 i2 (nP K)))
  have p1:=k2.cap
  have p2:=k2.len
  have p3:=k3.cap
  have p4:=k3.len
  first
  | exact on_of hz.nil (by omega)
  | exact e3
  | (show (j:Int).toNat+0<z.2.2.2.1.length;omega)
  | (show ((z.2.2.2.1.getD ((j:Int).toNat+0) 0).toNat:Int)=z.2.2.2.1.getD ((j:Int).toNat+0) 0;rw [tg];omega)
  | (show z.2.2.2.1.getD ((j:Int).toNat+0) 0=((z.2.2.2.1.getD ((j:Int).toNat+0) 0).toNat:Int);rw [tg];omega)
  | exact ⟨by show K.D<1000000;omega,⟨by show (z.2.2.2.1.getD ((j:Int).toNat+0) 0).toNat<8*(rwL l1 i1 d).length+K.D;rw [tg,lA];omega,by show K.D≤8*(mkR K.D (rwL l2 i2 (nP K))).length;rw [mkR_len,lB];omega⟩,⟨by show (rwL l1 i1 d).length≤p.2.2.2.1.length;omega,by show (mkR K.D (rwL l2 i2 (nP K))).length≤r.2.2.2.1.length;rw [mkR_len];omega⟩,⟨fun h0=>⟨by have:=(k2.nil h0).1;show (rwL l1 i1 d).length=0;omega,(k2.nil h0).2⟩,fun h0=>⟨by have:=(k3.nil h0).1;show (mkR K.D (rwL l2 i2 (nP K))).length=0;rw [mkR_len];omega,(k3.nil h0).2⟩⟩,by show (rwL l1 i1 d).length<1000000;omega⟩)
 iterate 2 (focus
  rename_i b0 s hs u hu v hv e y hy g z hz e2 x hx e3 f hf
  have e:clnB (dcS F K.t d K.D (rwL l1 i1 d) (rwL l2 i2 (nP K)))=false:=by rw [eS] at e;exact e
  change Oq at u
  change Oq at v
  change Oq at y
  change Oq at z
  obtain ⟨eZ,hz⟩:=rdZ K hn t40 (A:=(rwL l1 i1 d)) (B:=(rwL l2 i2 (nP K))) (y:=y) (z:=z) hy hz
  have g:(decide ((K.t:Int)<(wkN F (s8L (dcS F K.t d K.D (rwL l1 i1 d) (rwL l2 i2 (nP K))) K.t):Int)) || decide (((wkL F (s8L (dcS F K.t d K.D (rwL l1 i1 d) (rwL l2 i2 (nP K))) K.t)).length:Int) - 1≠(wkN F (s8L (dcS F K.t d K.D (rwL l1 i1 d) (rwL l2 i2 (nP K))) K.t):Int)))=false:=g
  rw [eS8,← dcL_eq,← dcN_eq] at g
  simp only [xf,decide_eq_true_eq,decide_eq_false_iff_not] at g
  have z1:=hz.cap
  have z2:=hz.len
  change Nat×Oq×Oq at x
  obtain ⟨j,p,r⟩:=x
  obtain ⟨k1,k2,k3⟩:j≤(dcZ F K.t d K.D (rwL l1 i1 d) (rwL l2 i2 (nP K))).length∧Oqw (tnD K.D (rwL l1 i1 d) ((dcZ F K.t d K.D (rwL l1 i1 d) (rwL l2 i2 (nP K))).take j)) p∧Oqw (tnP K.D (mkR K.D (rwL l2 i2 (nP K))) ((dcZ F K.t d K.D (rwL l1 i1 d) (rwL l2 i2 (nP K))).take j)) r:=hx
  have lD:(tnD K.D (rwL l1 i1 d) ((dcZ F K.t d K.D (rwL l1 i1 d) (rwL l2 i2 (nP K))).take j)).length=d:=by rw [tnD_len];exact lA
  have lP:(tnP K.D (mkR K.D (rwL l2 i2 (nP K))) ((dcZ F K.t d K.D (rwL l1 i1 d) (rwL l2 i2 (nP K))).take j)).length=nP K:=by rw [tnP_len,mkR_len];exact lB
  have e3:(j:Int)<((rdR K d (rwL l1 i1 d) (rwL l2 i2 (nP K)) y).length:Int):=ng e3
  have e4:=e3
  rw [eZ] at e4
  have tg:z.2.2.2.1.getD ((j:Int).toNat+0) 0=(dcZ F K.t d K.D (rwL l1 i1 d) (rwL l2 i2 (nP K))).getD j 0:=by rw [show (j:Int).toNat+0=j by omega];exact hz.at (by omega)
  have rg:=dcZ_rng F (t:=K.t) (d:=d) (g:=K.D) (D:=(rwL l1 i1 d)) (R:=(rwL l2 i2 (nP K))) ((dcZ F K.t d K.D (rwL l1 i1 d) (rwL l2 i2 (nP K))).getD j 0) (getD_mem (d:=0) (by omega))
  have zl:=dcZ_len F (t:=K.t) (d:=d) (g:=K.D) (D:=(rwL l1 i1 d)) (R:=(rwL l2 i2 (nP K)))
  have p1:=k2.cap
  have p2:=k2.len
  have p3:=k3.cap
  have p4:=k3.len
  have s1:=tnD_succ (g:=K.D) (D:=(rwL l1 i1 d)) (zs:=dcZ F K.t d K.D (rwL l1 i1 d) (rwL l2 i2 (nP K))) (j:=j) (by omega)
  have s2:=tnP_succ (g:=K.D) (D:=mkR K.D (rwL l2 i2 (nP K))) (zs:=dcZ F K.t d K.D (rwL l1 i1 d) (rwL l2 i2 (nP K))) (j:=j) (by omega)
  rw [← tg] at s1 s2
  first
  | exact inR64 (n:=(j:Int)+1) (by omega) (by omega)
  | (refine Stands.one ((j+1,(p.1,p.2.1,p.2.2.1,Go.Vx.fpD K.D p.2.2.2.1 (z.2.2.2.1.getD ((j:Int).toNat+0) 0).toNat,p.2.2.2.2),(r.1,r.2.1,r.2.2.1,Go.Vx.fpP K.D r.2.2.2.1 (z.2.2.2.1.getD ((j:Int).toNat+0) 0).toNat,r.2.2.2.2)):Nat×Oq×Oq) ⟨⟨by show j+1≤(dcZ F K.t d K.D (rwL l1 i1 d) (rwL l2 i2 (nP K))).length;omega,by show Oqw (tnD K.D _ (yu (j+1) _)) _;rw [s1];exact k2.fpD (by rw [tg];omega),by show Oqw (tnP K.D _ (yu (j+1) _)) _;rw [s2];exact k3.fpP (by omega)⟩,by show (dcZ F K.t d K.D (rwL l1 i1 d) (rwL l2 i2 (nP K))).length - (j+1)<(dcZ F K.t d K.D (rwL l1 i1 d) (rwL l2 i2 (nP K))).length - j;omega,?_⟩
     exact vgo))
 · rename_i b0 s hs u hu v hv e y hy g z hz e2 x hx e3
   have e:clnB (dcS F K.t d K.D (rwL l1 i1 d) (rwL l2 i2 (nP K)))=false:=by rw [eS] at e;exact e
   change Oq at u
   change Oq at v
   change Oq at y
   change Oq at z
   obtain ⟨eZ,hz⟩:=rdZ K hn t40 (A:=(rwL l1 i1 d)) (B:=(rwL l2 i2 (nP K))) (y:=y) (z:=z) hy hz
   have g:(decide ((K.t:Int)<(wkN F (s8L (dcS F K.t d K.D (rwL l1 i1 d) (rwL l2 i2 (nP K))) K.t):Int)) || decide (((wkL F (s8L (dcS F K.t d K.D (rwL l1 i1 d) (rwL l2 i2 (nP K))) K.t)).length:Int) - 1≠(wkN F (s8L (dcS F K.t d K.D (rwL l1 i1 d) (rwL l2 i2 (nP K))) K.t):Int)))=false:=g
   rw [eS8,← dcL_eq,← dcN_eq] at g
   simp only [xf,decide_eq_true_eq,decide_eq_false_iff_not] at g
   have z1:=hz.cap
   have z2:=hz.len
   change Nat×Oq×Oq at x
   obtain ⟨j,p,r⟩:=x
   obtain ⟨k1,k2,k3⟩:j≤(dcZ F K.t d K.D (rwL l1 i1 d) (rwL l2 i2 (nP K))).length∧Oqw (tnD K.D (rwL l1 i1 d) ((dcZ F K.t d K.D (rwL l1 i1 d) (rwL l2 i2 (nP K))).take j)) p∧Oqw (tnP K.D (mkR K.D (rwL l2 i2 (nP K))) ((dcZ F K.t d K.D (rwL l1 i1 d) (rwL l2 i2 (nP K))).take j)) r:=hx
   have lD:(tnD K.D (rwL l1 i1 d) ((dcZ F K.t d K.D (rwL l1 i1 d) (rwL l2 i2 (nP K))).take j)).length=d:=by rw [tnD_len];exact lA
   have lP:(tnP K.D (mkR K.D (rwL l2 i2 (nP K))) ((dcZ F K.t d K.D (rwL l1 i1 d) (rwL l2 i2 (nP K))).take j)).length=nP K:=by rw [tnP_len,mkR_len];exact lB
   have e3:¬ (j:Int)<((rdR K d (rwL l1 i1 d) (rwL l2 i2 (nP K)) y).length:Int):=nf e3
   rw [eZ] at e3
   obtain rfl:j=(dcZ F K.t d K.D (rwL l1 i1 d) (rwL l2 i2 (nP K))).length:=by omega
   rw [zc (zw _)] at k2 k3
   have e2:decide (((rdR K d (rwL l1 i1 d) (rwL l2 i2 (nP K)) y).length:Int)≠(wkN F (s8L (dcS F K.t d K.D (rwL l1 i1 d) (rwL l2 i2 (nP K))) K.t):Int))=false:=e2
   rw [eZ,eS8,← dcN_eq] at e2
   have e2:(dcZ F K.t d K.D (rwL l1 i1 d) (rwL l2 i2 (nP K))).length=dcN F K.t d K.D (rwL l1 i1 d) (rwL l2 i2 (nP K)):=by have:=nf e2;omega
   have hM:mdM K d (rwL l1 i1 d) (rwL l2 i2 (nP K)):=⟨e,by omega,e2⟩
   refine Ends.one ((p,r,z):Oq×Oq×Oq) ⟨.inr hM,⟨by show Oqw (tnD K.D _ (ocZ K d _ _)) p;rw [ocZ_M K d hM];exact k2,by show Oqw (tnP K.D _ (ocZ K d _ _)) r;rw [ocZ_M K d hM];exact k3⟩,by show Oqw (ocZ K d _ _) z;rw [ocZ_M K d hM];exact hz⟩ ?_
   ((conv=>arg 1;reduce);with_reducible repeat' first | exact ty | refine ta ?_ ?_ | refine ti fun _ => ?_ | refine tf fun _ => ?_ | refine tl ?_)
   all_goals first | exact vlf | exact lA | exact lA.symm | (show (mkR K.D (rwL l2 i2 (nP K))).length=nP K;rw [mkR_len];exact lB) | (show nP K=(mkR K.D (rwL l2 i2 (nP K))).length;rw [mkR_len];exact lB.symm) | (show (rdR K d (rwL l1 i1 d) (rwL l2 i2 (nP K)) y).length=(ocZ K d (rwL l1 i1 d) (rwL l2 i2 (nP K))).length;rw [eZ,ocZ_M K d hM]) | (show (ocZ K d (rwL l1 i1 d) (rwL l2 i2 (nP K))).length=(rdR K d (rwL l1 i1 d) (rwL l2 i2 (nP K)) y).length;rw [eZ,ocZ_M K d hM])
def fcRdec:Fc Tryz.prog C0 where
 tg:=.fn 18
 X:=(Bool×Nat×Nat×List Int×Nat×Nat)×(Bool×Nat×Nat×List Int×Nat×Nat)×(Bool×Nat×Nat×List Int×Nat×Nat)
 args:=fun ((o,b,q,l,L,c),(o1,b1,q1,l1,i1,c1),(o2,b2,q2,l2,i2,c2))=>[xcV (F.m:Int) (K.t:Int) (d:Int) 0 L c (K.D:Int),.sl 1 i1 d c1,.sl 2 i2 (nP K) c2]
 mem:=fun ((o,b,q,l,L,c),(o1,b1,q1,l1,i1,c1),(o2,b2,q2,l2,i2,c2))=>[⟨b,q,1,false,some o,.rows 5 l⟩,⟨b1,q1,1,false,some o1,.rows 5 l1⟩,⟨b2,q2,1,false,some o2,.rows 5 l2⟩]
 pre:=fun ((o,b,q,l,L,c),(o1,b1,q1,l1,i1,c1),(o2,b2,q2,l2,i2,c2))=>8*d+K.D≤nF F∧(Sl3.pre (o1,b1,q1,l1,i1,d,c1)∧Sl3.pre (o2,b2,q2,l2,i2,nP K,c2))∧DcOK K d (rwL l1 i1 d) (rwL l2 i2 (nP K))
 alts:=fun ((o,b,q,l,L,c),(o1,b1,q1,l1,i1,c1),(o2,b2,q2,l2,i2,c2))=>[AltT K d (rwL l1 i1 d) (rwL l2 i2 (nP K)) [⟨b,q,1,false,some o,.rows 5 l⟩,⟨b1,q1,1,false,some o1,.rows 5 l1⟩,⟨b2,q2,1,false,some o2,.rows 5 l2⟩],AltX K d (rwL l1 i1 d) (rwL l2 i2 (nP K)) [⟨b,q,1,false,some o,.rows 5 l⟩,⟨b1,q1,1,false,some o1,.rows 5 l1⟩,⟨b2,q2,1,false,some o2,.rows 5 l2⟩]]
 mat vs m:=match vs with
  | [.agg [_,_,_,.sl s _ L c,_],.sl s1 i1 _ c1,.sl s2 i2 _ c2]=>match nth m s,nth m s1,nth m s2 with
    | ⟨b,q,_,_,g,.rows 5 l⟩,⟨b1,q1,_,_,g1,.rows 5 l1⟩,⟨b2,q2,_,_,g2,.rows 5 l2⟩=>some (((onOf g,b,q,l,L,c),(onOf g1,b1,q1,l1,i1,c1),(onOf g2,b2,q2,l2,i2,c2)),[s,s1,s2])
    | _,_,_=>none
  | _=>none
 ok:=fun ((o,b,q,l,L,c),(o1,b1,q1,l1,i1,c1),(o2,b2,q2,l2,i2,c2)) h=>rdec_ok K h.1 o b q l L c o1 b1 q1 l1 i1 c1 o2 b2 q2 l2 i2 c2 h.2.1.1 h.2.1.2 h.2.2
end
end
end Go.Vx
namespace Go.Vx
open Go Go.Proofs
noncomputable section
variable [Gl]
def oc8 (n:Nat):Nat:=(n.testBit 0).toNat+(n.testBit 1).toNat+(n.testBit 2).toNat+(n.testBit 3).toNat+(n.testBit 4).toNat+(n.testBit 5).toNat+(n.testBit 6).toNat+(n.testBit 7).toNat
theorem oc8_le (n:Nat):oc8 n≤8:=by
 unfold oc8
 have h:∀ b:Bool,b.toNat≤1:=fun b=>by cases b <;> decide
 have h0:=h (n.testBit 0)
 have h1:=h (n.testBit 1)
 have h2:=h (n.testBit 2)
 have h3:=h (n.testBit 3)
 have h4:=h (n.testBit 4)
 have h5:=h (n.testBit 5)
 have h6:=h (n.testBit 6)
 have h7:=h (n.testBit 7)
 omega
theorem ones_ok (x:Int) (h:0≤x∧x<256):Tells (C:=C0) Tryz.prog (.fn 45) [] [.int .u8 x] (.int .i64 (oc8 x.toNat:Int)):=by
 refine loc_pc (P:=Tryz.prog) (E:=⟨[],[],6,[],[],[],none⟩) (L:=[]) mix Tryz.func45 rfl (by kernel_rfl) (by kernel_rfl) rfl rfl ?_
 ((conv=>arg 1;reduce);with_reducible repeat' first | exact ty | refine ta ?_ ?_ | refine ti fun _ => ?_ | refine tf fun _ => ?_ | refine tl ?_)
 · exact h.1
 · exact tab_lt (by kernel_rfl) h
 · rw [strI_tab _ (fun n=>(oc8 n:Int)) (by kernel_rfl) h]
   have:=oc8_le x.toNat
   exact inR64 (n:=(oc8 x.toNat:Int)) (by omega) (by omega)
 · exact strI_tab _ (fun n=>(oc8 n:Int)) (by kernel_rfl) h
def pcOnes:Pc Tryz.prog C0 where
 tg:=.fn 45
 X:=Int
 args x:=[.int .u8 x]
 mem _:=[]
 pre x:=0≤x∧x<256
 res x:=.int .i64 (oc8 x.toNat:Int)
 mat vs _:=match vs with
  | [.int _ x]=>some (x,[])
  | _=>none
 ok x h:=ones_ok x h
theorem oc8_ds {P Q:List Int} (kP:Byt8 P) (kQ:Byt8 Q) {i:Nat} (h1:i<P.length) (h2:i<Q.length):
 (0≤ibit .xor .u8 (P.getD i 0) (Q.getD i 0)∧ibit .xor .u8 (P.getD i 0) (Q.getD i 0)<256)∧dsL P Q (8*(i+1))=dsL P Q (8*i)+oc8 (ibit .xor .u8 (P.getD i 0) (Q.getD i 0)).toNat:=by
 obtain ⟨x,ex,x1,x2⟩:=byt_at kP h1
 obtain ⟨y,ey,y1,y2⟩:=byt_at kQ h2
 rw [ex,ey,xor8 x1 y1]
 have hb:x ^^^ y<256:=Nat.xor_lt_two_pow (n:=8) x1 y1
 refine ⟨⟨by omega,by omega⟩,?_⟩
 have hx:∀ j,j<8→(x ^^^ y).testBit j=(bt P (8*i+j) ^^ bt Q (8*i+j)):=fun j hj=>by rw [Nat.testBit_xor,x2 j hj,y2 j hj]
 rw [show 8*(i+1)=8*i+7+1 by omega,dsL_succ,dsL_succ,dsL_succ,dsL_succ,dsL_succ,dsL_succ,dsL_succ,dsL_succ]
 unfold oc8
 rw [zu,hx 0 (by omega),hx 1 (by omega),hx 2 (by omega),hx 3 (by omega),hx 4 (by omega),hx 5 (by omega),hx 6 (by omega),hx 7 (by omega)]
 simp only [za,Nat.add_assoc]
theorem dsL_comm {P Q:List Int} {n:Nat}:dsL P Q n=dsL Q P n:=by
 unfold dsL
 exact cnN_congr fun k _=>Bool.xor_comm _ _
abbrev ddN (P Q:List Int) (i:Nat):Nat:=dsL P Q (8*i)+8*(max P.length Q.length - min P.length Q.length)
def Dd5 (P Q:List Int):Inv' C0:=⟨5,Nat,fun i=>[(22,.int .i64 (i:Int)),(5,.int .i64 (ddN P Q i:Int))],fun _ m=>m,fun i=>i≤min P.length Q.length,fun i=>min P.length Q.length - i⟩
set_option maxHeartbeats 4000000 in
theorem dist_ok (o:Bool) (b q:Nat) (l:List Int) (i n c:Nat) (o2:Bool) (b2 q2:Nat) (l2:List Int) (i2 n2 c2:Nat) (h:Sl3.pre (o,b,q,l,i,n,c)) (h2:Sl3.pre (o2,b2,q2,l2,i2,n2,c2)) (P Q:List Int) (hP:(l.drop i).take n=P) (hQ:(l2.drop i2).take n2=Q) (kP:Byt8 P) (kQ:Byt8 Q):
 Tells (C:=C0) Tryz.prog (.fn 20) [⟨b,q,1,false,some o,.rows 5 l⟩,⟨b2,q2,1,false,some o2,.rows 5 l2⟩] [.sl 0 i n c,.sl 1 i2 n2 c2] (.int .i64 (dsR P Q:Int)):=by
 have lP:P.length=n:=by rw [← hP];exact row_len h.1
 have lQ:Q.length=n2:=by rw [← hQ];exact row_len h2.1
 have n1:=h.2.1
 have n3:=h2.2.1
 have pv:∀ j,j<n→l.getD (j+i) 0=P.getD j 0:=fun j hj=>by rw [row_at j hj,hP]
 have qv:∀ j,j<n2→l2.getD (j+i2) 0=Q.getD j 0:=fun j hj=>by rw [row_at j hj,hQ]
 refine loc_pc (P:=Tryz.prog) (E:=⟨[],[pcOnes],39,[],[],[],none⟩) (L:=[Dd5 P Q]) mix Tryz.func20 rfl (by kernel_rfl) (by kernel_rfl) rfl rfl ?_
 ((conv=>arg 1;reduce);with_reducible repeat' first | exact ty | refine ta ?_ ?_ | refine ti fun _ => ?_ | refine tf fun _ => ?_ | refine tl ?_)
 all_goals try exact vlf
 · have d0:(n:Int)<(n2:Int):=by rename_i d0;first | exact ng d0 | exact nf d0
   have e0:((8*((n2:Int) - (n:Int)):Int))=((ddN P Q 0:Nat):Int):=by show _=((dsL P Q 0+8*(max P.length Q.length - min P.length Q.length):Nat):Int);rw [dsL_zero];omega
   refine Stands.one (0:Nat) ⟨zg _,?_⟩
   ((conv=>arg 1;reduce);with_reducible repeat' first | exact ty | refine ta ?_ ?_ | refine ti fun _ => ?_ | refine tf fun _ => ?_ | refine tl ?_)
   all_goals first | exact vlf | exact e0 | exact e0.symm
 iterate 12 (focus
  rename_i d0 j hj d
  change Nat at j
  have hj:j≤min P.length Q.length:=hj
  have d0:(n:Int)<(n2:Int):=by first | exact ng d0 | exact nf d0
  have d:(j:Int)<(n:Int):=ng d
  have dl:=dsL_le (A:=P) (B:=Q) (n:=8*j)
  obtain ⟨oc1,oc2⟩:=oc8_ds kQ kP (i:=j) (by omega) (by omega)
  have ol:=oc8_le (ibit .xor .u8 (Q.getD j 0) (P.getD j 0)).toNat
  have eV:ibit .xor .u8 (l2.getD ((j:Int).toNat+i2) 0) (l.getD ((j:Int).toNat+i) 0)=ibit .xor .u8 (Q.getD j 0) (P.getD j 0):=by rw [zu,qv j (by omega),pv j (by omega)]
  rw [dsL_comm (P:=Q),dsL_comm (P:=Q)] at oc2
  have eS:ddN P Q (j+1)=ddN P Q j+oc8 (ibit .xor .u8 (Q.getD j 0) (P.getD j 0)).toNat:=by show dsL P Q (8*(j+1))+_=dsL P Q (8*j)+_+_;omega
  have dN:ddN P Q j≤8*j+8*(max P.length Q.length - min P.length Q.length):=by show dsL P Q (8*j)+_≤_;omega
  first
  | exact on_of h2.2.2 (by omega)
  | exact on_of h.2.2 (by omega)
  | exact d
  | (show (j:Int)<(n2:Int);omega)
  | (show (j:Int).toNat+i2<l2.length;have:=h2.1;omega)
  | (show (j:Int).toNat+i<l.length;have:=h.1;omega)
  | (show 0≤ibit .xor .u8 (l2.getD ((j:Int).toNat+i2) 0) (l.getD ((j:Int).toNat+i) 0)∧ibit .xor .u8 (l2.getD ((j:Int).toNat+i2) 0) (l.getD ((j:Int).toNat+i) 0)<256;rw [eV];exact oc1)
  | (show inR .i64 ((ddN P Q j:Int)+(oc8 (ibit .xor .u8 (l2.getD ((j:Int).toNat+i2) 0) (l.getD ((j:Int).toNat+i) 0)).toNat:Int));rw [eV];exact inR64 (by omega) (by omega))
  | exact inR64 (n:=(j:Int)+1) (by omega) (by omega)
  | (have eE:(ddN P Q j:Int)+(oc8 (ibit .xor .u8 (l2.getD ((j:Int).toNat+i2) 0) (l.getD ((j:Int).toNat+i) 0)).toNat:Int)=((ddN P Q (j+1):Nat):Int):=by rw [eV,eS];rfl
     refine Stands.one (j+1:Nat) ⟨by show j+1≤min P.length Q.length;omega,by show min P.length Q.length - (j+1)<min P.length Q.length - j;omega,?_⟩
     ((conv=>arg 1;reduce);with_reducible repeat' first | exact ty | refine ta ?_ ?_ | refine ti fun _ => ?_ | refine tf fun _ => ?_ | refine tl ?_)
     all_goals first | exact vlf | exact eE | exact eE.symm))
 · rename_i d0 j hj d
   change Nat at j
   have hj:j≤min P.length Q.length:=hj
   have d0:(n:Int)<(n2:Int):=by first | exact ng d0 | exact nf d0
   have d:¬ (j:Int)<(n:Int):=nf d
   obtain rfl:j=min P.length Q.length:=by omega
   rfl
 · have d0:¬ (n:Int)<(n2:Int):=by rename_i d0;first | exact ng d0 | exact nf d0
   have e0:((8*((n:Int) - (n2:Int)):Int))=((ddN P Q 0:Nat):Int):=by show _=((dsL P Q 0+8*(max P.length Q.length - min P.length Q.length):Nat):Int);rw [dsL_zero];omega
   refine Stands.one (0:Nat) ⟨zg _,?_⟩
   ((conv=>arg 1;reduce);with_reducible repeat' first | exact ty | refine ta ?_ ?_ | refine ti fun _ => ?_ | refine tf fun _ => ?_ | refine tl ?_)
   all_goals first | exact vlf | exact e0 | exact e0.symm
 iterate 12 (focus
  rename_i d0 j hj d
  change Nat at j
  have hj:j≤min P.length Q.length:=hj
  have d0:¬ (n:Int)<(n2:Int):=by first | exact ng d0 | exact nf d0
  have d:(j:Int)<(n2:Int):=ng d
  have dl:=dsL_le (A:=P) (B:=Q) (n:=8*j)
  obtain ⟨oc1,oc2⟩:=oc8_ds kP kQ (i:=j) (by omega) (by omega)
  have ol:=oc8_le (ibit .xor .u8 (P.getD j 0) (Q.getD j 0)).toNat
  have eV:ibit .xor .u8 (l.getD ((j:Int).toNat+i) 0) (l2.getD ((j:Int).toNat+i2) 0)=ibit .xor .u8 (P.getD j 0) (Q.getD j 0):=by rw [zu,pv j (by omega),qv j (by omega)]
  have eS:ddN P Q (j+1)=ddN P Q j+oc8 (ibit .xor .u8 (P.getD j 0) (Q.getD j 0)).toNat:=by show dsL P Q (8*(j+1))+_=dsL P Q (8*j)+_+_;omega
  have dN:ddN P Q j≤8*j+8*(max P.length Q.length - min P.length Q.length):=by show dsL P Q (8*j)+_≤_;omega
  first
  | exact on_of h.2.2 (by omega)
  | exact on_of h2.2.2 (by omega)
  | exact d
  | (show (j:Int)<(n:Int);omega)
  | (show (j:Int).toNat+i<l.length;have:=h.1;omega)
  | (show (j:Int).toNat+i2<l2.length;have:=h2.1;omega)
  | (show 0≤ibit .xor .u8 (l.getD ((j:Int).toNat+i) 0) (l2.getD ((j:Int).toNat+i2) 0)∧ibit .xor .u8 (l.getD ((j:Int).toNat+i) 0) (l2.getD ((j:Int).toNat+i2) 0)<256;rw [eV];exact oc1)
  | (show inR .i64 ((ddN P Q j:Int)+(oc8 (ibit .xor .u8 (l.getD ((j:Int).toNat+i) 0) (l2.getD ((j:Int).toNat+i2) 0)).toNat:Int));rw [eV];exact inR64 (by omega) (by omega))
  | exact inR64 (n:=(j:Int)+1) (by omega) (by omega)
  | (have eE:(ddN P Q j:Int)+(oc8 (ibit .xor .u8 (l.getD ((j:Int).toNat+i) 0) (l2.getD ((j:Int).toNat+i2) 0)).toNat:Int)=((ddN P Q (j+1):Nat):Int):=by rw [eV,eS];rfl
     refine Stands.one (j+1:Nat) ⟨by show j+1≤min P.length Q.length;omega,by show min P.length Q.length - (j+1)<min P.length Q.length - j;omega,?_⟩
     ((conv=>arg 1;reduce);with_reducible repeat' first | exact ty | refine ta ?_ ?_ | refine ti fun _ => ?_ | refine tf fun _ => ?_ | refine tl ?_)
     all_goals first | exact vlf | exact eE | exact eE.symm))
 · rename_i d0 j hj d
   change Nat at j
   have hj:j≤min P.length Q.length:=hj
   have d0:¬ (n:Int)<(n2:Int):=by first | exact ng d0 | exact nf d0
   have d:¬ (j:Int)<(n2:Int):=nf d
   obtain rfl:j=min P.length Q.length:=by omega
   rfl
def pcDist:Pc Tryz.prog C0 where
 tg:=.fn 20
 X:=Sl3×Sl3
 args:=pcRdist.args
 mem:=pcRdist.mem
 pre:=pcRdist.pre
 res:=pcRdist.res
 mat:=pcRdist.mat
 ok:=fun ((o,b,q,l,i,n,c),(o2,b2,q2,l2,i2,n2,c2)) h=>dist_ok o b q l i n c o2 b2 q2 l2 i2 n2 c2 h.1.1 h.2.1 _ _ rfl rfl h.1.2 h.2.2
end
end Go.Vx
