/-
  Round 10: Decode: the walk.
  Round 10: Decode's contract.
  Round 10: a decoder made for the statements.
  Round 10: what Decode makes of a word: plain facts.
  Round 10: what Decode makes of words with their parity; of the chapter's examples: plain facts.
  Round 10: Decode in one way; the chapter's examples.
  Round 10: DecodeSpare: the walk.
  Round 10: a code that was made: its table read where it lies in the code's cells.
  Round 10: Fast and Right where a code lies az it was made.
  Round 10: Decode of a word that is told; what is mended is right.
  Round 10: a word that was right, some of whose bits were turned: plain facts.
  Round 10: Bits of the document's code; Decode of a word that can be mended; one and two turned bits.
  Round 10: DecodeAll: the walk.
  Round 10: Decode of a word that is clean or can be mended, in one way.
  Round 10: how near words are to one another, and what Decode makes of them: plain facts.
  Round 10: Decode in two ways (made, or too much); the document's distance.
  Round 10: DecodeNear: the walk.
  Conditions: none.
-/
import Derived.Test.YtfjogcklhibboaaGreatDoorM8
open Bool renaming false_and → yf, false_ne_true → ve, false_or → nq, false_xor → ow, or_eq_false_iff → xf, or_eq_true → yd, true_and → zd, xor_assoc → qf, xor_false → vv, xor_self → pm
open Int renaming ofNat_tmod → zb, tmod_nonneg → qq, toNat → uh, toNat_natCast → zu
open List renaming append_nil → wx, drop_zero → zm, eq_nil_of_length_eq_zero → vg, filter_append → sk, filter_congr → nr, filter_cons_of_neg → rm, filter_cons_of_pos → rl, filter_sublist → qi, getD_eq_getElem?_getD → zy, getElem?_append_left → yx, getElem?_eq_getElem → zt, getElem?_map → zf, getElem?_range → xh, length_append → zx, length_filter_le → sg, length_map → zn, length_range → um, length_set → zh, map_congr_left → xm, map_id → ni, map_map → td, mem_append_left → uq, mem_append_right → ud, mem_cons → vm, mem_cons_of_mem → yw, mem_cons_self → xp, nodup_nil → vk, nodup_range → qh, range → xq, range_succ → uc, take_left → ou, take_of_length_le → zc
open Nat renaming add_assoc → qy, add_comm → up, beq → zi, ble → wc, ble_eq_true_of_le → oq, blt → ye, le_refl → zw, le_trans → xl, lt_of_lt_of_le → zk, lt_succ_self → wt, mod_lt → yv, mul_comm → xn, pow_le_pow_right → zj, sub_self → qo, two_pow_pos → yg, zero_le → zg
open Option renaming getD_some → ym, map_some → yr
set_option linter.unusedVariables false
set_option linter.unusedSimpArgs false
set_option linter.unusedSectionVars false
set_option maxRecDepth 100000
namespace Go.Vx
open Go Go.Proofs
noncomputable section
variable [Gl]
@[irreducible] def mkR (g:Nat) (R:List Int):List Int:=if g % 8=0 then R else R.set (R.length - 1) (ibit .and .u8 (R.getD (R.length - 1) 0) ((2 ^ (g % 8) - 1:Nat):Int))
theorem blt0 {n:Nat} (e:wc 1 n=false):n=0:=by
 by_cases h:1≤n
 · rw [oq h] at e;cases e
 · omega
theorem mkR_len {g:Nat} {R:List Int}:(mkR g R).length=R.length:=by unfold mkR;split;rfl;rw [zh]
theorem mk_none {g:Nat} {R sp:List Int} (h:g % 8=0):(R ++ sp).take (mkR g R).length=mkR g R:=by
 rw [mkR_len,ou];unfold mkR;rw [if_pos h]
theorem msk8 {k:Nat} (h:k<8):IntKind.u8.wrap (ishl .u8 1 (k:Int) - 1)=((2 ^ k - 1:Nat):Int):=by
 rw [shl1_8 h]
 have:∀ k:Fin 8,IntKind.u8.wrap (((2 ^ k.1:Nat):Int) - 1)=((2 ^ k.1 - 1:Nat):Int):=by decide
 exact this ⟨k,h⟩
theorem mk_mask {g n' r:Nat} {R sp:List Int} (e2:n'=r) (lR:R.length=n') (hgr:r=(g+7) / 8) (hg1:1≤g) (h:g % 8≠0):
 ((R ++ sp).set (((n':Int) - 1).toNat+0) (ibit .and .u8 ((R ++ sp).getD (((n':Int) - 1).toNat+0) 0) (IntKind.u8.wrap (ishl .u8 1 ((g:Int).tmod 8) - 1)))).take (mkR g R).length=mkR g R:=by
 have q8:(g:Int).tmod 8=((g % 8:Nat):Int):=(zb g 8).symm
 have e:((n':Int) - 1).toNat+0=R.length - 1:=by omega
 rw [mkR_len,e,q8,msk8 (yv _ (by omega)),List.set_append_left _ _ (by omega),List.take_append_of_le_length (by rw [zh];exact zw _),zc (by rw [zh];exact zw _)]
 unfold mkR
 rw [if_neg h]
 congr 2
 simp only [zy,yx (show R.length - 1<R.length by omega)]
theorem mkR_byt {g:Nat} {R:List Int} (h:Byt8 R):Byt8 (mkR g R):=by
 unfold mkR
 split
 · exact h
 · by_cases h0:R.length=0
   · rw [vg h0];exact fun x hx=>nomatch hx
   · obtain ⟨x,hx,x1,x2⟩:=byt_at h (show R.length - 1<R.length by omega)
     refine byt_set h ?_
     rw [hx,and8 x1 (zk (Nat.sub_lt (yg _) (by omega)) (show 2 ^ (g % 8)≤2 ^ 8 from zj (by omega) (by omega)))]
     have:x &&& (2 ^ (g % 8) - 1)≤x:=Nat.and_le_left
     omega
section
variable (F:Gf)
@[irreducible] def dcS (t d g:Nat) (D R:List Int):List Int:=svL F (psL g D (mkR g R) (8*d+g)) (2*t)
@[irreducible] def dcL (t d g:Nat) (D R:List Int):List Int:=wkL F (dcS F t d g D R)
@[irreducible] def dcN (t d g:Nat) (D R:List Int):Nat:=wkN F (dcS F t d g D R)
@[irreducible] def dcZ (t d g:Nat) (D R:List Int):List Int:=srL F (dcL F t d g D R) (8*(d:Int)+(g:Int))
theorem dcL_eq {t d g:Nat} {D R:List Int}:dcL F t d g D R=wkL F (dcS F t d g D R):=by unfold dcL;rfl
theorem dcN_eq {t d g:Nat} {D R:List Int}:dcN F t d g D R=wkN F (dcS F t d g D R):=by unfold dcN;rfl
theorem dcZ_eq {t d g:Nat} {D R:List Int}:dcZ F t d g D R=srL F (dcL F t d g D R) (8*(d:Int)+(g:Int)):=by unfold dcZ;rfl
theorem dcS_len {t d g:Nat} {D R:List Int}:(dcS F t d g D R).length=2*t:=by unfold dcS;exact svL_len F
theorem dcL_len {t d g:Nat} {D R:List Int}:(dcL F t d g D R).length≤2*t+1:=by rw [dcL_eq];have:=wkL_le F (S:=dcS F t d g D R);rw [dcS_len] at this;exact this
theorem rtL_rng {P:List Int} {k:Nat} (x:Int) (h:x∈rtL F P k):0≤x∧x<(k:Int):=by
 unfold rtL at h
 obtain ⟨a,ha,rfl⟩:=List.mem_map.1 h
 have:=List.mem_range.1 (List.mem_filter.1 ha).1
 omega
theorem dcZ_rng {t d g:Nat} {D R:List Int} (x:Int) (h:x∈dcZ F t d g D R):0≤x∧x<8*(d:Int)+(g:Int):=by
 rw [dcZ_eq] at h;unfold srL at h
 have:=rtL_rng F x h
 omega
theorem dcZ_len {t d g:Nat} {D R:List Int}:(dcZ F t d g D R).length≤8*d+g:=by
 rw [dcZ_eq];unfold srL
 have:=rtL_len (F:=F) (P:=trL F (dcL F t d g D R)) (i:=(max 0 (min (8*(d:Int)+(g:Int)) ((szF F:Int) - 1))).toNat)
 omega
abbrev dcC (F:Gf) (bd qd bC qC t d g r bF qF be qe bl ql:Nat):List (Ck C0):=
 [⟨bd,qd,1,false,none,.one [.ptr 1 0 0]⟩,⟨bC,qC,263,false,none,.one [.ptr 2 0 0,.int .i64 (t:Int),.int .i64 (d:Int),.int .i64 (g:Int),.int .i64 (r:Int)]⟩,
  ⟨bF,qF,4,false,none,.one [.int .i64 (F.m:Int),.int .i64 (szF F:Int),.sl 3 0 (nF F) (nF F),.sl 4 0 (szF F) (szF F)]⟩,xCk F be qe,lCk F bl ql]
def Dc0 (H:Prop) (d r g:Nat) (D R:List Int):Inv' C0:=⟨8,Os×Os,fun _=>[(75,.int .i64 0)],fun x m=>match m with
 | a0 :: a1 :: a2 :: a3 :: a4 :: a5 :: a6 :: c7 :: c8 :: ⟨bw,qw,_,_,_,_⟩ :: fs :: _=>
   [a0,a1,a2,a3,a4,a5,a6,osB true x.1,osB true x.2,⟨bw,qw,7,true,none,.one [.sl 7 0 d x.1.2.2.2,.sl 8 0 r x.2.2.2.2,.nils,.nils,.int .i64 0,.nils,.bool .f]⟩,fs]
 | m=>m,fun x=>H∧Ow D x.1∧Ow (mkR g R) x.2,fun _=>5⟩
def Dc1 (H:Prop) (t d r g:Nat) (D R:List Int):Inv' C0:=⟨8,Os×Os×Nat,fun _=>[(75,.int .i64 1)],fun x m=>match m with
 | a0 :: a1 :: a2 :: a3 :: a4 :: a5 :: a6 :: c7 :: c8 :: ⟨bw,qw,_,_,_,_⟩ :: fs :: _=>
   [a0,a1,a2,a3,a4,a5,a6,osB true x.1,osB true x.2.1,⟨bw,qw,7,true,none,.one [.sl 7 0 d x.1.2.2.2,.sl 8 0 r x.2.1.2.2.2,.sl 11 0 (2*t) (2*t),.nils,.int .i64 0,.nils,.bool (SB.tm (clnB (dcS F t d g D R)))]⟩,fs,⟨x.2.2,0,1,true,none,.rows 3 (dcS F t d g D R)⟩]
 | m=>m,fun x=>H∧Ow D x.1∧Ow (mkR g R) x.2.1,fun _=>4⟩
def Dc2 (H:Prop) (t d r g:Nat) (D R:List Int):Inv' C0:=⟨8,Os×Os×Nat×Os,fun _=>[(75,.int .i64 2)],fun x m=>match m with
 | a0 :: a1 :: a2 :: a3 :: a4 :: a5 :: a6 :: c7 :: c8 :: ⟨bw,qw,_,_,_,_⟩ :: fs :: _=>
   [a0,a1,a2,a3,a4,a5,a6,osB true x.1,osB true x.2.1,⟨bw,qw,7,true,none,.one [.sl 7 0 d x.1.2.2.2,.sl 8 0 r x.2.1.2.2.2,.sl 11 0 (2*t) (2*t),.sl 12 0 (dcL F t d g D R).length x.2.2.2.2.2.2,.int .i64 (dcN F t d g D R:Int),.nils,.bool .f]⟩,fs,⟨x.2.2.1,0,1,true,none,.rows 3 (dcS F t d g D R)⟩,osC true x.2.2.2]
 | m=>m,fun x=>H∧clnB (dcS F t d g D R)=false∧¬ (t<dcN F t d g D R∨(dcL F t d g D R).length≠dcN F t d g D R+1)∧Ow D x.1∧Ow (mkR g R) x.2.1∧Ow (dcL F t d g D R) x.2.2.2,fun _=>3⟩
def Dc3 (H:Prop) (t d r g:Nat) (D R:List Int):Inv' C0:=⟨8,(Os×Os×Nat×Os)×Oq,fun _=>[(75,.int .i64 3)],fun x m=>match m with
 | a0 :: a1 :: a2 :: a3 :: a4 :: a5 :: a6 :: c7 :: c8 :: ⟨bw,qw,_,_,_,_⟩ :: fs :: _=>
   [a0,a1,a2,a3,a4,a5,a6,osB true x.1.1,osB true x.1.2.1,⟨bw,qw,7,true,none,.one [.sl 7 0 d x.1.1.2.2.2,.sl 8 0 r x.1.2.1.2.2.2,.sl 11 0 (2*t) (2*t),.sl 12 0 (dcL F t d g D R).length x.1.2.2.2.2.2.2,.int .i64 (dcN F t d g D R:Int),.sl 13 0 (dcZ F t d g D R).length x.2.2.2.2.2,.bool .f]⟩,fs,⟨x.1.2.2.1,0,1,true,none,.rows 3 (dcS F t d g D R)⟩,osC true x.1.2.2.2,oqC true x.2]
 | m=>m,fun x=>H∧clnB (dcS F t d g D R)=false∧(¬ (t<dcN F t d g D R∨(dcL F t d g D R).length≠dcN F t d g D R+1)∧(dcZ F t d g D R).length=dcN F t d g D R)∧(Ow D x.1.1∧Ow (mkR g R) x.1.2.1∧Ow (dcL F t d g D R) x.1.2.2.2)∧Oqw (dcZ F t d g D R) x.2,fun _=>2⟩
def Dc4 (H:Prop) (t d r g:Nat) (D R:List Int):Inv' C0:=⟨8,(Os×Os×Nat×Os)×Oq,fun _=>[(75,.int .i64 4)],fun x m=>match m with
 | a0 :: a1 :: a2 :: a3 :: a4 :: a5 :: a6 :: c7 :: c8 :: ⟨bw,qw,_,_,_,_⟩ :: fs :: _=>
   [a0,a1,a2,a3,a4,a5,a6,osB true x.1.1,osB true x.1.2.1,⟨bw,qw,7,true,none,.one [.sl 7 0 d x.1.1.2.2.2,.sl 8 0 r x.1.2.1.2.2.2,.sl 11 0 (2*t) (2*t),.sl 12 0 (dcL F t d g D R).length x.1.2.2.2.2.2.2,.int .i64 (dcN F t d g D R:Int),.sl 13 0 (dcZ F t d g D R).length x.2.2.2.2.2,.bool .f]⟩,fs,⟨x.1.2.2.1,0,1,true,none,.rows 3 (dcS F t d g D R)⟩,osC true x.1.2.2.2,oqC true x.2]
 | m=>m,fun x=>H∧clnB (dcS F t d g D R)=false∧(¬ (t<dcN F t d g D R∨(dcL F t d g D R).length≠dcN F t d g D R+1)∧(dcZ F t d g D R).length=dcN F t d g D R)∧(Ow (tnD g D (dcZ F t d g D R)) x.1.1∧Ow (tnP g (mkR g R) (dcZ F t d g D R)) x.1.2.1)∧Oqw (dcZ F t d g D R) x.2,fun _=>1⟩
def Dc5 (H:Prop) (t d r g:Nat) (D R:List Int):Inv' C0:=⟨8,(Os×Os×Nat×Os)×Oq×Os×Os,fun _=>[(75,.int .i64 4)],fun x m=>match m with
 | a0 :: a1 :: a2 :: a3 :: a4 :: a5 :: a6 :: c7 :: c8 :: ⟨bw,qw,_,_,_,_⟩ :: fs :: _=>
   [a0,a1,a2,a3,a4,a5,a6,osB true x.1.1,osB true x.1.2.1,⟨bw,qw,7,true,none,.one [.sl 14 0 d x.2.2.1.2.2.2,.sl 15 0 r x.2.2.2.2.2.2,.sl 11 0 (2*t) (2*t),.sl 12 0 (dcL F t d g D R).length x.1.2.2.2.2.2.2,.int .i64 (dcN F t d g D R:Int),.sl 13 0 (dcZ F t d g D R).length x.2.1.2.2.2.2,.bool .f]⟩,fs,⟨x.1.2.2.1,0,1,true,none,.rows 3 (dcS F t d g D R)⟩,osC true x.1.2.2.2,oqC true x.2.1,osB true x.2.2.1,osB true x.2.2.2]
 | m=>m,fun x=>H∧clnB (dcS F t d g D R)=false∧(¬ (t<dcN F t d g D R∨(dcL F t d g D R).length≠dcN F t d g D R+1)∧(dcZ F t d g D R).length=dcN F t d g D R)∧(Ow (tnD g D (dcZ F t d g D R)) x.2.2.1∧Ow (tnP g (mkR g R) (dcZ F t d g D R)) x.2.2.2)∧Oqw (dcZ F t d g D R) x.2.1,fun _=>1⟩
set_option maxHeartbeats 16000000 in
theorem decode_ok (bd qd bC qC t d g r bF qF be qe bl ql:Nat) (ht:t≤40) (hd:d<100000) (hg:g<100000) (hgr:r=(g+7) / 8) (hd1:1≤d) (hg1:1≤g) (o:Bool) (b q:Nat) (l:List Int) (i n c:Nat) (h:i+n≤l.length) (hN:n<1000000000) (ho:o=false→n=0∧c=0) (o':Bool) (b' q':Nat) (l':List Int) (i' n' c':Nat) (h':i'+n'≤l'.length) (hN':n'<1000000000) (ho':o'=false→n'=0∧c'=0) (D R:List Int) (hD:(l.drop i).take n=D) (hR:(l'.drop i').take n'=R) (kD:Byt8 D) (kR:Byt8 R):
 Does (C:=C0) Tryz.prog (.fn 15) (dcC F bd qd bC qC t d g r bF qF be qe bl ql ++ [⟨b,q,1,false,some o,.rows 5 l⟩,⟨b',q',1,false,some o',.rows 5 l'⟩]) [.ptr 0 0 0,.sl 5 i n c,.sl 6 i' n' c']
  [⟨Unit,fun _=>n≠d∨n'≠r,fun _=>.tup [.nils,.nils,.nils,eV 0],fun _=>dcC F bd qd bC qC t d g r bF qF be qe bl ql ++ [⟨b,q,1,false,some o,.rows 5 l⟩,⟨b',q',1,false,some o',.rows 5 l'⟩]⟩,
   ⟨Unit,fun _=>(n=d∧n'=r)∧clnB (dcS F t d g D R)=false∧((t<dcN F t d g D R∨(dcL F t d g D R).length≠dcN F t d g D R+1)∨(dcZ F t d g D R).length≠dcN F t d g D R),fun _=>.tup [.nils,.nils,.nils,eV 1],fun _=>dcC F bd qd bC qC t d g r bF qF be qe bl ql ++ [⟨b,q,1,false,some o,.rows 5 l⟩,⟨b',q',1,false,some o',.rows 5 l'⟩]⟩,
   ⟨Os×Os,fun y=>(n=d∧n'=r)∧clnB (dcS F t d g D R)=true∧Ow D y.1∧Ow (mkR g R) y.2,fun y=>.tup [.sl 7 0 d y.1.2.2.2,.sl 8 0 r y.2.2.2.2,.nils,.nili],fun y=>dcC F bd qd bC qC t d g r bF qF be qe bl ql ++ [⟨b,q,1,false,some o,.rows 5 l⟩,⟨b',q',1,false,some o',.rows 5 l'⟩,osB true y.1,osB true y.2]⟩,
   ⟨Os×Os×Oq,fun y=>(n=d∧n'=r)∧clnB (dcS F t d g D R)=false∧(¬ (t<dcN F t d g D R∨(dcL F t d g D R).length≠dcN F t d g D R+1)∧(dcZ F t d g D R).length=dcN F t d g D R)∧(Ow (tnD g D (dcZ F t d g D R)) y.1∧Ow (tnP g (mkR g R) (dcZ F t d g D R)) y.2.1)∧Oqw (dcZ F t d g D R) y.2.2,fun y=>.tup [.sl 7 0 d y.1.2.2.2,.sl 8 0 r y.2.1.2.2.2,.sl 9 0 (dcZ F t d g D R).length y.2.2.2.2.2.2,.nili],fun y=>dcC F bd qd bC qC t d g r bF qF be qe bl ql ++ [⟨b,q,1,false,some o,.rows 5 l⟩,⟨b',q',1,false,some o',.rows 5 l'⟩,osB true y.1,osB true y.2.1,oqC true y.2.2]⟩]:=by
 have by5:Tryz.prog.types[5].bytes=1:=by kernel_rfl
 have q8:(g:Int).tmod 8=((g % 8:Nat):Int):=(zb g 8).symm
 have lD:D.length=n:=by rw [← hD];exact row_len h
 have lR:R.length=n':=by rw [← hR];exact row_len h'
 have lL:=dcL_len F (t:=t) (d:=d) (g:=g) (D:=D) (R:=R)
 have lZ:=dcZ_len F (t:=t) (d:=d) (g:=g) (D:=D) (R:=R)
 refine loc_fn (P:=Tryz.prog) (E:=⟨[fcMeasure F,fcFind F,fcSeek F,fcTurn F],[pcCoData,pcCoParity,pcCoDegree],102,[(6,[],[.p 0,.p 1,.p 2,.p 4,.p 5,.p 6,.p 12,.p 13,.p 14,.q 3,.q 7,.p 8,.p 9,.p 10,.q 11,.p 15,.p 16,.e 17])],[],[],none⟩) (L:=[Dc0 (n=d∧n'=r) d r g D R,Dc1 F (n=d∧n'=r) t d r g D R,Dc2 F (n=d∧n'=r) t d r g D R,Dc3 F (n=d∧n'=r) t d r g D R,Dc4 F (n=d∧n'=r) t d r g D R,Dc5 F (n=d∧n'=r) t d r g D R]) mix Tryz.func15 rfl (by kernel_rfl) (by kernel_rfl) rfl rfl ?_
 ((conv=>arg 1;reduce);with_reducible repeat' first | exact ty | refine ta ?_ ?_ | refine ti fun _ => ?_ | refine tf fun _ => ?_ | refine tl ?_)
 all_goals try exact vlf
 · rename_i e
   simp only [yd,decide_eq_true_eq,SB.val] at e
   refine Ends.one () (show n≠d∨n'≠r by omega) ?_
   exact vgo
 · exact ⟨h,by rw [by5];omega⟩
 · exact fun e=>⟨(ho e).1,(ho e).1⟩
 · exact ⟨h',by rw [by5];omega⟩
 · exact fun e=>⟨(ho' e).1,(ho' e).1⟩
 all_goals try (
  rename_i e0 b1 sp1 s1 b2 sp2 s2 bw m
  have m:(0:Int)<(g:Int).tmod 8:=ng m
  simp only [xf,decide_eq_false_iff_not,SB.val] at e0
  have e2:n'=r:=by omega
  first
  | (rw [q8];omega)
  | (show wc 1 n'=true;exact oq (show 1≤n' by omega))
  | (show 0≤(n':Int) - 1;omega)
  | (show ((n':Int) - 1).toNat+0<((l'.drop i').take n' ++ sp2).length;rw [zx,row_len h'];omega))
 · rename_i e0 b1 sp1 s1 b2 sp2 s2 bw m fs
   change Nat at b1 b2 bw fs
   change List Int at sp1 sp2
   have m:(0:Int)<(g:Int).tmod 8:=ng m
   simp only [xf,decide_eq_false_iff_not,SB.val] at e0
   have e1:n=d:=by omega
   have e2:n'=r:=by omega
   refine Stands.one (((ye 0 n,b1,(l.drop i).take n ++ sp1,n+sp1.length),(ye 0 n',b2,((l'.drop i').take n' ++ sp2).set (((n':Int) - 1).toNat+0) (ibit .and .u8 (((l'.drop i').take n' ++ sp2).getD (((n':Int) - 1).toNat+0) 0) (IntKind.u8.wrap (ishl .u8 1 ((g:Int).tmod 8) - 1))),n'+sp2.length)):Os×Os) ⟨⟨⟨e1,e2⟩,⟨?_,?_,?_,?_⟩,⟨?_,?_,?_,?_⟩⟩,?_⟩
   · show ((l.drop i).take n ++ sp1).take D.length=D
     rw [hD,ou]
   · show D.length≤n+sp1.length;omega
   · show n+sp1.length≤((l.drop i).take n ++ sp1).length;rw [hD,zx];omega
   · intro e;have e:wc 1 n=false:=e;have e9:n=0:=blt0 e;have:=s1 e9;omega
   · show (((l'.drop i').take n' ++ sp2).set (((n':Int) - 1).toNat+0) (ibit .and .u8 (((l'.drop i').take n' ++ sp2).getD (((n':Int) - 1).toNat+0) 0) (IntKind.u8.wrap (ishl .u8 1 ((g:Int).tmod 8) - 1)))).take (mkR g R).length=mkR g R
     rw [hR];exact mk_mask e2 lR hgr hg1 (by rw [q8] at m;omega)
   · show (mkR g R).length≤n'+sp2.length;rw [mkR_len];omega
   · show n'+sp2.length≤(((l'.drop i').take n' ++ sp2).set (((n':Int) - 1).toNat+0) (ibit .and .u8 (((l'.drop i').take n' ++ sp2).getD (((n':Int) - 1).toNat+0) 0) (IntKind.u8.wrap (ishl .u8 1 ((g:Int).tmod 8) - 1)))).length;rw [zh,hR,zx];omega
   · intro e;have e:wc 1 n'=false:=e;have e9:n'=0:=blt0 e;omega
   ((conv=>arg 1;reduce);with_reducible repeat' first | exact ty | refine ta ?_ ?_ | refine ti fun _ => ?_ | refine tf fun _ => ?_ | refine tl ?_)
   all_goals first | exact vlf | exact e1 | exact e1.symm | exact e2 | exact e2.symm | rfl
 · show (0:Int)<((4:Nat):Int);decide
 · rename_i x hx e
   obtain ⟨y1,y2⟩:=x
   obtain ⟨⟨e1,e2⟩,k1,k2⟩:(n=d∧n'=r)∧Ow D y1∧Ow (mkR g R) y2:=hx
   have dD:(y1.2.2.1.drop 0).take d=D:=by have:=k1.eq;rw [lD,e1] at this;exact this
   have dR:(y2.2.2.1.drop 0).take r=mkR g R:=by have:=k2.eq;rw [mkR_len,lR,e2] at this;exact this
   have a1:=k1.cap;have a2:=k1.len;have a3:=k2.cap;have a4:=k2.len
   rw [mkR_len] at a3
   refine ⟨⟨by show t<_;omega,hd,hg,by show g≤8*r;omega,by show r<_;omega⟩,⟨⟨by show 0+d≤y1.2.2.1.length;omega,by show d<_;omega,fun e => ?_⟩,by show 0+r≤y2.2.2.1.length;omega,by show r<_;omega,fun e => ?_⟩,⟨rfl,rfl⟩,?_,?_⟩
   · have:=k1.nil e;exact ⟨by omega,this.2⟩
   · have:=k2.nil e;rw [mkR_len] at this;exact ⟨by omega,this.2⟩
   · show Byt8 ((y1.2.2.1.drop 0).take d);rw [dD];exact kD
   · show Byt8 ((y2.2.2.1.drop 0).take r);rw [dR];exact mkR_byt kR
 · rename_i x hx e y hy
   change Nat at y
   obtain ⟨y1,y2⟩:=x
   obtain ⟨⟨e1,e2⟩,k1,k2⟩:(n=d∧n'=r)∧Ow D y1∧Ow (mkR g R) y2:=hx
   have dD:(y1.2.2.1.drop 0).take d=D:=by have:=k1.eq;rw [lD,e1] at this;exact this
   have dR:(y2.2.2.1.drop 0).take r=mkR g R:=by have:=k2.eq;rw [mkR_len,lR,e2] at this;exact this
   have a1:=k1.cap;have a2:=k1.len;have a3:=k2.cap;have a4:=k2.len
   rw [mkR_len] at a3
   refine Stands.next (Stands.one ((y1,y2,y):Os×Os×Nat) ⟨⟨⟨e1,e2⟩,k1,k2⟩,wt 4,?_⟩)
   have eS:svL F (psL g ((y1.2.2.1.drop 0).take d) ((y2.2.2.1.drop 0).take r) (8*d+g)) (2*t)=dcS F t d g D R:=by rw [dD,dR];unfold dcS;rfl
   ((conv=>arg 1;reduce);with_reducible repeat' first | exact ty | refine ta ?_ ?_ | refine ti fun _ => ?_ | refine tf fun _ => ?_ | refine tl ?_)
   all_goals first | exact vlf | exact eS | exact eS.symm | rw [eS]
 · rename_i e
   exact absurd (show (0:Int)<((4:Nat):Int) by decide) (nf e)
 · show (1:Int)<((4:Nat):Int);decide
 · rename_i x hx e cl
   obtain ⟨y1,y2,y3⟩:=x
   obtain ⟨⟨e1,e2⟩,k1,k2⟩:(n=d∧n'=r)∧Ow D y1∧Ow (mkR g R) y2:=hx
   refine Ends.next (Ends.next (Ends.one ((y1,y2):Os×Os) ⟨⟨e1,e2⟩,cl,k1,k2⟩ ?_))
   exact vgo
 · rename_i x hx e cl
   exact cl.symm
 · exact ⟨ht,dcS_len F⟩
 · rename_i x hx e cl y hy
   obtain ⟨y1,y2,y3⟩:=x
   obtain ⟨⟨e1,e2⟩,k1,k2⟩:(n=d∧n'=r)∧Ow D y1∧Ow (mkR g R) y2:=hx
   obtain ⟨h1,h2⟩:Ow (wkL F (dcS F t d g D R)) y∧(t<wkN F (dcS F t d g D R)∨(wkL F (dcS F t d g D R)).length≠wkN F (dcS F t d g D R)+1):=hy
   rw [← dcL_eq,← dcN_eq] at h2
   refine Ends.next (Ends.one () ⟨⟨e1,e2⟩,cl,.inl h2⟩ ?_)
   exact vgo
 · rename_i x hx e cl y hy
   obtain ⟨y1,y2,y3⟩:=x
   obtain ⟨⟨e1,e2⟩,k1,k2⟩:(n=d∧n'=r)∧Ow D y1∧Ow (mkR g R) y2:=hx
   obtain ⟨h1,h2⟩:Ow (wkL F (dcS F t d g D R)) y∧¬ (t<wkN F (dcS F t d g D R)∨(wkL F (dcS F t d g D R)).length≠wkN F (dcS F t d g D R)+1):=hy
   rw [← dcL_eq] at h1
   rw [← dcL_eq,← dcN_eq] at h2
   refine Stands.next (Stands.next (Stands.one ((y1,y2,y3,y):Os×Os×Nat×Os) ⟨⟨⟨e1,e2⟩,cl,h2,k1,k2,h1⟩,wt 3,?_⟩))
   ((conv=>arg 1;reduce);with_reducible repeat' first | exact ty | refine ta ?_ ?_ | refine ti fun _ => ?_ | refine tf fun _ => ?_ | refine tl ?_)
   all_goals first | exact vlf | rw [dcL_eq] | rw [dcN_eq]
 · rename_i e
   exact absurd (show (1:Int)<((4:Nat):Int) by decide) (nf e)
 · show (2:Int)<((4:Nat):Int);decide
 · rename_i x hx e
   obtain ⟨y1,y2,y3,y4⟩:=x
   obtain ⟨⟨e1,e2⟩,cl,h2,k1,k2,k3⟩:(n=d∧n'=r)∧clnB (dcS F t d g D R)=false∧¬ (t<dcN F t d g D R∨(dcL F t d g D R).length≠dcN F t d g D R+1)∧Ow D y1∧Ow (mkR g R) y2∧Ow (dcL F t d g D R) y4:=hx
   have dL:y4.2.2.1.take (dcL F t d g D R).length=dcL F t d g D R:=k3.eq
   exact ⟨⟨hd,hg⟩,k3.cap,k3.len,by show (dcL F t d g D R).length≤2048;omega,k3.nil⟩
 · rename_i x hx e y hy
   obtain ⟨y1,y2,y3,y4⟩:=x
   obtain ⟨⟨e1,e2⟩,cl,h2,k1,k2,k3⟩:(n=d∧n'=r)∧clnB (dcS F t d g D R)=false∧¬ (t<dcN F t d g D R∨(dcL F t d g D R).length≠dcN F t d g D R+1)∧Ow D y1∧Ow (mkR g R) y2∧Ow (dcL F t d g D R) y4:=hx
   have dL:y4.2.2.1.take (dcL F t d g D R).length=dcL F t d g D R:=k3.eq
   obtain ⟨h3,h4⟩:Oqw (srL F (y4.2.2.1.take (dcL F t d g D R).length) (8*(d:Int)+(g:Int))) y∧((srL F (y4.2.2.1.take (dcL F t d g D R).length) (8*(d:Int)+(g:Int))).length:Int)≠(dcN F t d g D R:Int):=hy
   rw [dL,← dcZ_eq] at h4
   refine Ends.next (Ends.one () ⟨⟨e1,e2⟩,cl,.inr (by omega)⟩ ?_)
   exact vgo
 · rename_i x hx e y hy
   obtain ⟨y1,y2,y3,y4⟩:=x
   obtain ⟨⟨e1,e2⟩,cl,h2,k1,k2,k3⟩:(n=d∧n'=r)∧clnB (dcS F t d g D R)=false∧¬ (t<dcN F t d g D R∨(dcL F t d g D R).length≠dcN F t d g D R+1)∧Ow D y1∧Ow (mkR g R) y2∧Ow (dcL F t d g D R) y4:=hx
   have dL:y4.2.2.1.take (dcL F t d g D R).length=dcL F t d g D R:=k3.eq
   obtain ⟨h3,h4⟩:Oqw (srL F (y4.2.2.1.take (dcL F t d g D R).length) (8*(d:Int)+(g:Int))) y∧((srL F (y4.2.2.1.take (dcL F t d g D R).length) (8*(d:Int)+(g:Int))).length:Int)=(dcN F t d g D R:Int):=hy
   have eZ:srL F (y4.2.2.1.take (dcL F t d g D R).length) (8*(d:Int)+(g:Int))=dcZ F t d g D R:=by rw [dL,← dcZ_eq]
   rw [eZ] at h3 h4
   refine Stands.next (Stands.next (Stands.next (Stands.one (((y1,y2,y3,y4),y):(Os×Os×Nat×Os)×Oq) ⟨⟨⟨e1,e2⟩,cl,⟨h2,by omega⟩,⟨k1,k2,k3⟩,h3⟩,wt 2,?_⟩)))
   ((conv=>arg 1;reduce);with_reducible repeat' first | exact ty | refine ta ?_ ?_ | refine ti fun _ => ?_ | refine tf fun _ => ?_ | refine tl ?_)
   all_goals first | exact vlf | rw [eZ]
 · rename_i e
   exact absurd (show (2:Int)<((4:Nat):Int) by decide) (nf e)
 · show (3:Int)<((4:Nat):Int);decide
 · rename_i x hx e
   obtain ⟨⟨y1,y2,y3,y4⟩,y5⟩:=x
   obtain ⟨⟨e1,e2⟩,cl,h2,⟨k1,k2,k3⟩,k4⟩:(n=d∧n'=r)∧clnB (dcS F t d g D R)=false∧(¬ (t<dcN F t d g D R∨(dcL F t d g D R).length≠dcN F t d g D R+1)∧(dcZ F t d g D R).length=dcN F t d g D R)∧(Ow D y1∧Ow (mkR g R) y2∧Ow (dcL F t d g D R) y4)∧Oqw (dcZ F t d g D R) y5:=hx
   have dD:(y1.2.2.1.drop 0).take d=D:=by have:=k1.eq;rw [lD,e1] at this;exact this
   have dR:(y2.2.2.1.drop 0).take r=mkR g R:=by have:=k2.eq;rw [mkR_len,lR,e2] at this;exact this
   have dZ:y5.2.2.2.1.take (dcZ F t d g D R).length=dcZ F t d g D R:=k4.eq
   have a1:=k1.cap;have a2:=k1.len;have a3:=k2.cap;have a4:=k2.len
   rw [mkR_len] at a3
   refine ⟨⟨hd,by show g≤8*r;omega,by show r<_;omega⟩,⟨by show 0+d≤y1.2.2.1.length;omega,by show d≤y1.2.2.2;omega,fun e => ?_⟩,⟨by show 0+r≤y2.2.2.1.length;omega,by show r≤y2.2.2.2;omega,fun e => ?_⟩,⟨k4.cap,k4.len,by show (dcZ F t d g D R).length<1000000;omega,k4.nil⟩,fun z hz => ?_⟩
   · have:=k1.nil e;exact ⟨by omega,this.2⟩
   · have:=k2.nil e;rw [mkR_len] at this;exact ⟨by omega,this.2⟩
   · have hz:z∈y5.2.2.2.1.take (dcZ F t d g D R).length:=hz
     rw [dZ] at hz;exact dcZ_rng F z hz
 · rename_i x hx e y hy
   obtain ⟨⟨y1,y2,y3,y4⟩,y5⟩:=x
   obtain ⟨⟨e1,e2⟩,cl,h2,⟨k1,k2,k3⟩,k4⟩:(n=d∧n'=r)∧clnB (dcS F t d g D R)=false∧(¬ (t<dcN F t d g D R∨(dcL F t d g D R).length≠dcN F t d g D R+1)∧(dcZ F t d g D R).length=dcN F t d g D R)∧(Ow D y1∧Ow (mkR g R) y2∧Ow (dcL F t d g D R) y4)∧Oqw (dcZ F t d g D R) y5:=hx
   have dD:(y1.2.2.1.drop 0).take d=D:=by have:=k1.eq;rw [lD,e1] at this;exact this
   have dR:(y2.2.2.1.drop 0).take r=mkR g R:=by have:=k2.eq;rw [mkR_len,lR,e2] at this;exact this
   have dZ:y5.2.2.2.1.take (dcZ F t d g D R).length=dcZ F t d g D R:=k4.eq
   have a1:=k1.cap;have a2:=k1.len;have a3:=k2.cap;have a4:=k2.len
   rw [mkR_len] at a3
   have hy:(dcZ F t d g D R).length=0:=hy
   have eZ:dcZ F t d g D R=[]:=vg hy
   refine Stands.next (Stands.next (Stands.next (Stands.next (Stands.one (((y1,y2,y3,y4),y5):(Os×Os×Nat×Os)×Oq) ⟨⟨⟨e1,e2⟩,cl,h2,⟨by rw [eZ,tnD_zero];exact k1,by rw [eZ,tnP_zero];exact k2⟩,k4⟩,wt 1,?_⟩))))
   exact vgo
 · rename_i x hx e y hy
   obtain ⟨⟨y1,y2,y3,y4⟩,y5⟩:=x
   obtain ⟨⟨e1,e2⟩,cl,h2,⟨k1,k2,k3⟩,k4⟩:(n=d∧n'=r)∧clnB (dcS F t d g D R)=false∧(¬ (t<dcN F t d g D R∨(dcL F t d g D R).length≠dcN F t d g D R+1)∧(dcZ F t d g D R).length=dcN F t d g D R)∧(Ow D y1∧Ow (mkR g R) y2∧Ow (dcL F t d g D R) y4)∧Oqw (dcZ F t d g D R) y5:=hx
   have dD:(y1.2.2.1.drop 0).take d=D:=by have:=k1.eq;rw [lD,e1] at this;exact this
   have dR:(y2.2.2.1.drop 0).take r=mkR g R:=by have:=k2.eq;rw [mkR_len,lR,e2] at this;exact this
   have dZ:y5.2.2.2.1.take (dcZ F t d g D R).length=dcZ F t d g D R:=k4.eq
   have a1:=k1.cap;have a2:=k1.len;have a3:=k2.cap;have a4:=k2.len
   rw [mkR_len] at a3
   obtain ⟨u1,u2⟩:=y
   obtain ⟨hz,g1,g2⟩:(dcZ F t d g D R).length≠0∧Ow (tnD g ((y1.2.2.1.drop 0).take d) (y5.2.2.2.1.take (dcZ F t d g D R).length)) u1∧Ow (tnP g ((y2.2.2.1.drop 0).take r) (y5.2.2.2.1.take (dcZ F t d g D R).length)) u2:=hy
   rw [dD,dZ] at g1
   rw [dR,dZ] at g2
   refine Stands.next (Stands.next (Stands.next (Stands.next (Stands.next (Stands.one (((y1,y2,y3,y4),y5,u1,u2):(Os×Os×Nat×Os)×Oq×Os×Os) ⟨⟨⟨e1,e2⟩,cl,h2,⟨g1,g2⟩,k4⟩,wt 1,?_⟩)))))
   exact vgo
 · rename_i e
   exact absurd (show (3:Int)<((4:Nat):Int) by decide) (nf e)
 · rename_i e
   exact absurd (ng e) (show ¬ (4:Int)<((4:Nat):Int) by decide)
 · rename_i e
   exact absurd (ng e) (show ¬ (4:Int)<((4:Nat):Int) by decide)
 · rename_i x hx e
   obtain ⟨⟨y1,y2,y3,y4⟩,y5⟩:=x
   obtain ⟨⟨e1,e2⟩,cl,h2,⟨k1,k2⟩,k4⟩:(n=d∧n'=r)∧clnB (dcS F t d g D R)=false∧(¬ (t<dcN F t d g D R∨(dcL F t d g D R).length≠dcN F t d g D R+1)∧(dcZ F t d g D R).length=dcN F t d g D R)∧(Ow (tnD g D (dcZ F t d g D R)) y1∧Ow (tnP g (mkR g R) (dcZ F t d g D R)) y2)∧Oqw (dcZ F t d g D R) y5:=hx
   refine Ends.next (Ends.next (Ends.next (Ends.one ((y1,y2,y5):Os×Os×Oq) ⟨⟨e1,e2⟩,cl,h2,⟨k1,k2⟩,k4⟩ ?_)))
   exact vgo
 · rename_i e
   exact absurd (ng e) (show ¬ (4:Int)<((4:Nat):Int) by decide)
 · rename_i e
   exact absurd (ng e) (show ¬ (4:Int)<((4:Nat):Int) by decide)
 · rename_i x hx e
   obtain ⟨⟨y1,y2,y3,y4⟩,y5,u1,u2⟩:=x
   obtain ⟨⟨e1,e2⟩,cl,h2,⟨k1,k2⟩,k4⟩:(n=d∧n'=r)∧clnB (dcS F t d g D R)=false∧(¬ (t<dcN F t d g D R∨(dcL F t d g D R).length≠dcN F t d g D R+1)∧(dcZ F t d g D R).length=dcN F t d g D R)∧(Ow (tnD g D (dcZ F t d g D R)) u1∧Ow (tnP g (mkR g R) (dcZ F t d g D R)) u2)∧Oqw (dcZ F t d g D R) y5:=hx
   refine Ends.next (Ends.next (Ends.next (Ends.one ((u1,u2,y5):Os×Os×Oq) ⟨⟨e1,e2⟩,cl,h2,⟨k1,k2⟩,k4⟩ ?_)))
   exact vgo
 · rename_i e0 b1 sp1 s1 b2 sp2 s2 bw m fs
   change Nat at b1 b2 bw fs
   change List Int at sp1 sp2
   have m:¬ (0:Int)<(g:Int).tmod 8:=nf m
   simp only [xf,decide_eq_false_iff_not,SB.val] at e0
   have e1:n=d:=by omega
   have e2:n'=r:=by omega
   refine Stands.one (((ye 0 n,b1,(l.drop i).take n ++ sp1,n+sp1.length),(ye 0 n',b2,(l'.drop i').take n' ++ sp2,n'+sp2.length)):Os×Os) ⟨⟨⟨e1,e2⟩,⟨?_,?_,?_,?_⟩,⟨?_,?_,?_,?_⟩⟩,?_⟩
   · show ((l.drop i).take n ++ sp1).take D.length=D
     rw [hD,ou]
   · show D.length≤n+sp1.length;omega
   · show n+sp1.length≤((l.drop i).take n ++ sp1).length;rw [hD,zx];omega
   · intro e;have e:wc 1 n=false:=e;have e9:n=0:=blt0 e;have:=s1 e9;omega
   · show ((l'.drop i').take n' ++ sp2).take (mkR g R).length=mkR g R
     rw [hR];exact mk_none (by rw [q8] at m;omega)
   · show (mkR g R).length≤n'+sp2.length;rw [mkR_len];omega
   · show n'+sp2.length≤((l'.drop i').take n' ++ sp2).length;rw [hR,zx];omega
   · intro e;have e:wc 1 n'=false:=e;have e9:n'=0:=blt0 e;omega
   ((conv=>arg 1;reduce);with_reducible repeat' first | exact ty | refine ta ?_ ?_ | refine ti fun _ => ?_ | refine tf fun _ => ?_ | refine tl ?_)
   all_goals first | exact vlf | exact e1 | exact e1.symm | exact e2 | exact e2.symm | rfl
 · show (0:Int)<((4:Nat):Int);decide
 · rename_i x hx e
   obtain ⟨y1,y2⟩:=x
   obtain ⟨⟨e1,e2⟩,k1,k2⟩:(n=d∧n'=r)∧Ow D y1∧Ow (mkR g R) y2:=hx
   have dD:(y1.2.2.1.drop 0).take d=D:=by have:=k1.eq;rw [lD,e1] at this;exact this
   have dR:(y2.2.2.1.drop 0).take r=mkR g R:=by have:=k2.eq;rw [mkR_len,lR,e2] at this;exact this
   have a1:=k1.cap;have a2:=k1.len;have a3:=k2.cap;have a4:=k2.len
   rw [mkR_len] at a3
   refine ⟨⟨by show t<_;omega,hd,hg,by show g≤8*r;omega,by show r<_;omega⟩,⟨⟨by show 0+d≤y1.2.2.1.length;omega,by show d<_;omega,fun e => ?_⟩,by show 0+r≤y2.2.2.1.length;omega,by show r<_;omega,fun e => ?_⟩,⟨rfl,rfl⟩,?_,?_⟩
   · have:=k1.nil e;exact ⟨by omega,this.2⟩
   · have:=k2.nil e;rw [mkR_len] at this;exact ⟨by omega,this.2⟩
   · show Byt8 ((y1.2.2.1.drop 0).take d);rw [dD];exact kD
   · show Byt8 ((y2.2.2.1.drop 0).take r);rw [dR];exact mkR_byt kR
 · rename_i x hx e y hy
   change Nat at y
   obtain ⟨y1,y2⟩:=x
   obtain ⟨⟨e1,e2⟩,k1,k2⟩:(n=d∧n'=r)∧Ow D y1∧Ow (mkR g R) y2:=hx
   have dD:(y1.2.2.1.drop 0).take d=D:=by have:=k1.eq;rw [lD,e1] at this;exact this
   have dR:(y2.2.2.1.drop 0).take r=mkR g R:=by have:=k2.eq;rw [mkR_len,lR,e2] at this;exact this
   have a1:=k1.cap;have a2:=k1.len;have a3:=k2.cap;have a4:=k2.len
   rw [mkR_len] at a3
   refine Stands.next (Stands.one ((y1,y2,y):Os×Os×Nat) ⟨⟨⟨e1,e2⟩,k1,k2⟩,wt 4,?_⟩)
   have eS:svL F (psL g ((y1.2.2.1.drop 0).take d) ((y2.2.2.1.drop 0).take r) (8*d+g)) (2*t)=dcS F t d g D R:=by rw [dD,dR];unfold dcS;rfl
   ((conv=>arg 1;reduce);with_reducible repeat' first | exact ty | refine ta ?_ ?_ | refine ti fun _ => ?_ | refine tf fun _ => ?_ | refine tl ?_)
   all_goals first | exact vlf | exact eS | exact eS.symm | rw [eS]
 · rename_i e
   exact absurd (show (0:Int)<((4:Nat):Int) by decide) (nf e)
 · show (1:Int)<((4:Nat):Int);decide
 · rename_i x hx e cl
   obtain ⟨y1,y2,y3⟩:=x
   obtain ⟨⟨e1,e2⟩,k1,k2⟩:(n=d∧n'=r)∧Ow D y1∧Ow (mkR g R) y2:=hx
   refine Ends.next (Ends.next (Ends.one ((y1,y2):Os×Os) ⟨⟨e1,e2⟩,cl,k1,k2⟩ ?_))
   exact vgo
 · rename_i x hx e cl
   exact cl.symm
 · exact ⟨ht,dcS_len F⟩
 · rename_i x hx e cl y hy
   obtain ⟨y1,y2,y3⟩:=x
   obtain ⟨⟨e1,e2⟩,k1,k2⟩:(n=d∧n'=r)∧Ow D y1∧Ow (mkR g R) y2:=hx
   obtain ⟨h1,h2⟩:Ow (wkL F (dcS F t d g D R)) y∧(t<wkN F (dcS F t d g D R)∨(wkL F (dcS F t d g D R)).length≠wkN F (dcS F t d g D R)+1):=hy
   rw [← dcL_eq,← dcN_eq] at h2
   refine Ends.next (Ends.one () ⟨⟨e1,e2⟩,cl,.inl h2⟩ ?_)
   exact vgo
 · rename_i x hx e cl y hy
   obtain ⟨y1,y2,y3⟩:=x
   obtain ⟨⟨e1,e2⟩,k1,k2⟩:(n=d∧n'=r)∧Ow D y1∧Ow (mkR g R) y2:=hx
   obtain ⟨h1,h2⟩:Ow (wkL F (dcS F t d g D R)) y∧¬ (t<wkN F (dcS F t d g D R)∨(wkL F (dcS F t d g D R)).length≠wkN F (dcS F t d g D R)+1):=hy
   rw [← dcL_eq] at h1
   rw [← dcL_eq,← dcN_eq] at h2
   refine Stands.next (Stands.next (Stands.one ((y1,y2,y3,y):Os×Os×Nat×Os) ⟨⟨⟨e1,e2⟩,cl,h2,k1,k2,h1⟩,wt 3,?_⟩))
   ((conv=>arg 1;reduce);with_reducible repeat' first | exact ty | refine ta ?_ ?_ | refine ti fun _ => ?_ | refine tf fun _ => ?_ | refine tl ?_)
   all_goals first | exact vlf | rw [dcL_eq] | rw [dcN_eq]
 · rename_i e
   exact absurd (show (1:Int)<((4:Nat):Int) by decide) (nf e)
 · show (2:Int)<((4:Nat):Int);decide
 · rename_i x hx e
   obtain ⟨y1,y2,y3,y4⟩:=x
   obtain ⟨⟨e1,e2⟩,cl,h2,k1,k2,k3⟩:(n=d∧n'=r)∧clnB (dcS F t d g D R)=false∧¬ (t<dcN F t d g D R∨(dcL F t d g D R).length≠dcN F t d g D R+1)∧Ow D y1∧Ow (mkR g R) y2∧Ow (dcL F t d g D R) y4:=hx
   have dL:y4.2.2.1.take (dcL F t d g D R).length=dcL F t d g D R:=k3.eq
   exact ⟨⟨hd,hg⟩,k3.cap,k3.len,by show (dcL F t d g D R).length≤2048;omega,k3.nil⟩
 · rename_i x hx e y hy
   obtain ⟨y1,y2,y3,y4⟩:=x
   obtain ⟨⟨e1,e2⟩,cl,h2,k1,k2,k3⟩:(n=d∧n'=r)∧clnB (dcS F t d g D R)=false∧¬ (t<dcN F t d g D R∨(dcL F t d g D R).length≠dcN F t d g D R+1)∧Ow D y1∧Ow (mkR g R) y2∧Ow (dcL F t d g D R) y4:=hx
   have dL:y4.2.2.1.take (dcL F t d g D R).length=dcL F t d g D R:=k3.eq
   obtain ⟨h3,h4⟩:Oqw (srL F (y4.2.2.1.take (dcL F t d g D R).length) (8*(d:Int)+(g:Int))) y∧((srL F (y4.2.2.1.take (dcL F t d g D R).length) (8*(d:Int)+(g:Int))).length:Int)≠(dcN F t d g D R:Int):=hy
   rw [dL,← dcZ_eq] at h4
   refine Ends.next (Ends.one () ⟨⟨e1,e2⟩,cl,.inr (by omega)⟩ ?_)
   exact vgo
 · rename_i x hx e y hy
   obtain ⟨y1,y2,y3,y4⟩:=x
   obtain ⟨⟨e1,e2⟩,cl,h2,k1,k2,k3⟩:(n=d∧n'=r)∧clnB (dcS F t d g D R)=false∧¬ (t<dcN F t d g D R∨(dcL F t d g D R).length≠dcN F t d g D R+1)∧Ow D y1∧Ow (mkR g R) y2∧Ow (dcL F t d g D R) y4:=hx
   have dL:y4.2.2.1.take (dcL F t d g D R).length=dcL F t d g D R:=k3.eq
   obtain ⟨h3,h4⟩:Oqw (srL F (y4.2.2.1.take (dcL F t d g D R).length) (8*(d:Int)+(g:Int))) y∧((srL F (y4.2.2.1.take (dcL F t d g D R).length) (8*(d:Int)+(g:Int))).length:Int)=(dcN F t d g D R:Int):=hy
   have eZ:srL F (y4.2.2.1.take (dcL F t d g D R).length) (8*(d:Int)+(g:Int))=dcZ F t d g D R:=by rw [dL,← dcZ_eq]
   rw [eZ] at h3 h4
   refine Stands.next (Stands.next (Stands.next (Stands.one (((y1,y2,y3,y4),y):(Os×Os×Nat×Os)×Oq) ⟨⟨⟨e1,e2⟩,cl,⟨h2,by omega⟩,⟨k1,k2,k3⟩,h3⟩,wt 2,?_⟩)))
   ((conv=>arg 1;reduce);with_reducible repeat' first | exact ty | refine ta ?_ ?_ | refine ti fun _ => ?_ | refine tf fun _ => ?_ | refine tl ?_)
   all_goals first | exact vlf | rw [eZ]
 · rename_i e
   exact absurd (show (2:Int)<((4:Nat):Int) by decide) (nf e)
 · show (3:Int)<((4:Nat):Int);decide
 · rename_i x hx e
   obtain ⟨⟨y1,y2,y3,y4⟩,y5⟩:=x
   obtain ⟨⟨e1,e2⟩,cl,h2,⟨k1,k2,k3⟩,k4⟩:(n=d∧n'=r)∧clnB (dcS F t d g D R)=false∧(¬ (t<dcN F t d g D R∨(dcL F t d g D R).length≠dcN F t d g D R+1)∧(dcZ F t d g D R).length=dcN F t d g D R)∧(Ow D y1∧Ow (mkR g R) y2∧Ow (dcL F t d g D R) y4)∧Oqw (dcZ F t d g D R) y5:=hx
   have dD:(y1.2.2.1.drop 0).take d=D:=by have:=k1.eq;rw [lD,e1] at this;exact this
   have dR:(y2.2.2.1.drop 0).take r=mkR g R:=by have:=k2.eq;rw [mkR_len,lR,e2] at this;exact this
   have dZ:y5.2.2.2.1.take (dcZ F t d g D R).length=dcZ F t d g D R:=k4.eq
   have a1:=k1.cap;have a2:=k1.len;have a3:=k2.cap;have a4:=k2.len
   rw [mkR_len] at a3
   refine ⟨⟨hd,by show g≤8*r;omega,by show r<_;omega⟩,⟨by show 0+d≤y1.2.2.1.length;omega,by show d≤y1.2.2.2;omega,fun e => ?_⟩,⟨by show 0+r≤y2.2.2.1.length;omega,by show r≤y2.2.2.2;omega,fun e => ?_⟩,⟨k4.cap,k4.len,by show (dcZ F t d g D R).length<1000000;omega,k4.nil⟩,fun z hz => ?_⟩
   · have:=k1.nil e;exact ⟨by omega,this.2⟩
   · have:=k2.nil e;rw [mkR_len] at this;exact ⟨by omega,this.2⟩
   · have hz:z∈y5.2.2.2.1.take (dcZ F t d g D R).length:=hz
     rw [dZ] at hz;exact dcZ_rng F z hz
 · rename_i x hx e y hy
   obtain ⟨⟨y1,y2,y3,y4⟩,y5⟩:=x
   obtain ⟨⟨e1,e2⟩,cl,h2,⟨k1,k2,k3⟩,k4⟩:(n=d∧n'=r)∧clnB (dcS F t d g D R)=false∧(¬ (t<dcN F t d g D R∨(dcL F t d g D R).length≠dcN F t d g D R+1)∧(dcZ F t d g D R).length=dcN F t d g D R)∧(Ow D y1∧Ow (mkR g R) y2∧Ow (dcL F t d g D R) y4)∧Oqw (dcZ F t d g D R) y5:=hx
   have dD:(y1.2.2.1.drop 0).take d=D:=by have:=k1.eq;rw [lD,e1] at this;exact this
   have dR:(y2.2.2.1.drop 0).take r=mkR g R:=by have:=k2.eq;rw [mkR_len,lR,e2] at this;exact this
   have dZ:y5.2.2.2.1.take (dcZ F t d g D R).length=dcZ F t d g D R:=k4.eq
   have a1:=k1.cap;have a2:=k1.len;have a3:=k2.cap;have a4:=k2.len
   rw [mkR_len] at a3
   have hy:(dcZ F t d g D R).length=0:=hy
   have eZ:dcZ F t d g D R=[]:=vg hy
   refine Stands.next (Stands.next (Stands.next (Stands.next (Stands.one (((y1,y2,y3,y4),y5):(Os×Os×Nat×Os)×Oq) ⟨⟨⟨e1,e2⟩,cl,h2,⟨by rw [eZ,tnD_zero];exact k1,by rw [eZ,tnP_zero];exact k2⟩,k4⟩,wt 1,?_⟩))))
   exact vgo
 · rename_i x hx e y hy
   obtain ⟨⟨y1,y2,y3,y4⟩,y5⟩:=x
   obtain ⟨⟨e1,e2⟩,cl,h2,⟨k1,k2,k3⟩,k4⟩:(n=d∧n'=r)∧clnB (dcS F t d g D R)=false∧(¬ (t<dcN F t d g D R∨(dcL F t d g D R).length≠dcN F t d g D R+1)∧(dcZ F t d g D R).length=dcN F t d g D R)∧(Ow D y1∧Ow (mkR g R) y2∧Ow (dcL F t d g D R) y4)∧Oqw (dcZ F t d g D R) y5:=hx
   have dD:(y1.2.2.1.drop 0).take d=D:=by have:=k1.eq;rw [lD,e1] at this;exact this
   have dR:(y2.2.2.1.drop 0).take r=mkR g R:=by have:=k2.eq;rw [mkR_len,lR,e2] at this;exact this
   have dZ:y5.2.2.2.1.take (dcZ F t d g D R).length=dcZ F t d g D R:=k4.eq
   have a1:=k1.cap;have a2:=k1.len;have a3:=k2.cap;have a4:=k2.len
   rw [mkR_len] at a3
   obtain ⟨u1,u2⟩:=y
   obtain ⟨hz,g1,g2⟩:(dcZ F t d g D R).length≠0∧Ow (tnD g ((y1.2.2.1.drop 0).take d) (y5.2.2.2.1.take (dcZ F t d g D R).length)) u1∧Ow (tnP g ((y2.2.2.1.drop 0).take r) (y5.2.2.2.1.take (dcZ F t d g D R).length)) u2:=hy
   rw [dD,dZ] at g1
   rw [dR,dZ] at g2
   refine Stands.next (Stands.next (Stands.next (Stands.next (Stands.next (Stands.one (((y1,y2,y3,y4),y5,u1,u2):(Os×Os×Nat×Os)×Oq×Os×Os) ⟨⟨⟨e1,e2⟩,cl,h2,⟨g1,g2⟩,k4⟩,wt 1,?_⟩)))))
   exact vgo
 · rename_i e
   exact absurd (show (3:Int)<((4:Nat):Int) by decide) (nf e)
 · rename_i e
   exact absurd (ng e) (show ¬ (4:Int)<((4:Nat):Int) by decide)
 · rename_i e
   exact absurd (ng e) (show ¬ (4:Int)<((4:Nat):Int) by decide)
 · rename_i x hx e
   obtain ⟨⟨y1,y2,y3,y4⟩,y5⟩:=x
   obtain ⟨⟨e1,e2⟩,cl,h2,⟨k1,k2⟩,k4⟩:(n=d∧n'=r)∧clnB (dcS F t d g D R)=false∧(¬ (t<dcN F t d g D R∨(dcL F t d g D R).length≠dcN F t d g D R+1)∧(dcZ F t d g D R).length=dcN F t d g D R)∧(Ow (tnD g D (dcZ F t d g D R)) y1∧Ow (tnP g (mkR g R) (dcZ F t d g D R)) y2)∧Oqw (dcZ F t d g D R) y5:=hx
   refine Ends.next (Ends.next (Ends.next (Ends.one ((y1,y2,y5):Os×Os×Oq) ⟨⟨e1,e2⟩,cl,h2,⟨k1,k2⟩,k4⟩ ?_)))
   exact vgo
 · rename_i e
   exact absurd (ng e) (show ¬ (4:Int)<((4:Nat):Int) by decide)
 · rename_i e
   exact absurd (ng e) (show ¬ (4:Int)<((4:Nat):Int) by decide)
 · rename_i x hx e
   obtain ⟨⟨y1,y2,y3,y4⟩,y5,u1,u2⟩:=x
   obtain ⟨⟨e1,e2⟩,cl,h2,⟨k1,k2⟩,k4⟩:(n=d∧n'=r)∧clnB (dcS F t d g D R)=false∧(¬ (t<dcN F t d g D R∨(dcL F t d g D R).length≠dcN F t d g D R+1)∧(dcZ F t d g D R).length=dcN F t d g D R)∧(Ow (tnD g D (dcZ F t d g D R)) u1∧Ow (tnP g (mkR g R) (dcZ F t d g D R)) u2)∧Oqw (dcZ F t d g D R) y5:=hx
   refine Ends.next (Ends.next (Ends.next (Ends.one ((u1,u2,y5):Os×Os×Oq) ⟨⟨e1,e2⟩,cl,h2,⟨k1,k2⟩,k4⟩ ?_)))
   exact vgo
end
end
end Go.Vx
namespace Go.Vx
open Go Go.Proofs
noncomputable section
variable [Gl]
section
variable (F:Gf)
def fcDecode:Fc Tryz.prog C0 where
 tg:=.fn 15
 X:=(Nat×Nat)×Co5×(Nat×Nat×Nat×Nat×Nat×Nat)×Sl3×Sl3
 args:=fun (_,_,_,(o,b,q,l,i,n,c),(o',b',q',l',i',n',c'))=>[.ptr 0 0 0,.sl 5 i n c,.sl 6 i' n' c']
 mem:=fun ((bd,qd),(bC,qC,t,d,g,r),(bF,qF,be,qe,bl,ql),(o,b,q,l,i,n,c),(o',b',q',l',i',n',c'))=>dcC F bd qd bC qC t d g r bF qF be qe bl ql ++ [⟨b,q,1,false,some o,.rows 5 l⟩,⟨b',q',1,false,some o',.rows 5 l'⟩]
 pre:=fun (_,(_,_,t,d,g,r),_,(o,b,q,l,i,n,c),(o',b',q',l',i',n',c'))=>(t≤40∧d<100000∧g<100000∧r=(g+7) / 8∧1≤d∧1≤g)∧(Sl3.pre (o,b,q,l,i,n,c)∧Sl3.pre (o',b',q',l',i',n',c'))∧Byt8 ((l.drop i).take n)∧Byt8 ((l'.drop i').take n')
 alts:=fun ((bd,qd),(bC,qC,t,d,g,r),(bF,qF,be,qe,bl,ql),(o,b,q,l,i,n,c),(o',b',q',l',i',n',c'))=>[⟨Unit,fun _=>n≠d∨n'≠r,fun _=>.tup [.nils,.nils,.nils,eV 0],fun _=>dcC F bd qd bC qC t d g r bF qF be qe bl ql ++ [⟨b,q,1,false,some o,.rows 5 l⟩,⟨b',q',1,false,some o',.rows 5 l'⟩]⟩,
      ⟨Unit,fun _=>(n=d∧n'=r)∧clnB (dcS F t d g ((l.drop i).take n) ((l'.drop i').take n'))=false∧((t<dcN F t d g ((l.drop i).take n) ((l'.drop i').take n')∨(dcL F t d g ((l.drop i).take n) ((l'.drop i').take n')).length≠dcN F t d g ((l.drop i).take n) ((l'.drop i').take n')+1)∨(dcZ F t d g ((l.drop i).take n) ((l'.drop i').take n')).length≠dcN F t d g ((l.drop i).take n) ((l'.drop i').take n')),fun _=>.tup [.nils,.nils,.nils,eV 1],fun _=>dcC F bd qd bC qC t d g r bF qF be qe bl ql ++ [⟨b,q,1,false,some o,.rows 5 l⟩,⟨b',q',1,false,some o',.rows 5 l'⟩]⟩,
      ⟨Os×Os,fun y=>(n=d∧n'=r)∧clnB (dcS F t d g ((l.drop i).take n) ((l'.drop i').take n'))=true∧Ow ((l.drop i).take n) y.1∧Ow (mkR g ((l'.drop i').take n')) y.2,fun y=>.tup [.sl 7 0 d y.1.2.2.2,.sl 8 0 r y.2.2.2.2,.nils,.nili],fun y=>dcC F bd qd bC qC t d g r bF qF be qe bl ql ++ [⟨b,q,1,false,some o,.rows 5 l⟩,⟨b',q',1,false,some o',.rows 5 l'⟩,osB true y.1,osB true y.2]⟩,
      ⟨Os×Os×Oq,fun y=>(n=d∧n'=r)∧clnB (dcS F t d g ((l.drop i).take n) ((l'.drop i').take n'))=false∧(¬ (t<dcN F t d g ((l.drop i).take n) ((l'.drop i').take n')∨(dcL F t d g ((l.drop i).take n) ((l'.drop i').take n')).length≠dcN F t d g ((l.drop i).take n) ((l'.drop i').take n')+1)∧(dcZ F t d g ((l.drop i).take n) ((l'.drop i').take n')).length=dcN F t d g ((l.drop i).take n) ((l'.drop i').take n'))∧(Ow (tnD g ((l.drop i).take n) (dcZ F t d g ((l.drop i).take n) ((l'.drop i').take n'))) y.1∧Ow (tnP g (mkR g ((l'.drop i').take n')) (dcZ F t d g ((l.drop i).take n) ((l'.drop i').take n'))) y.2.1)∧Oqw (dcZ F t d g ((l.drop i).take n) ((l'.drop i').take n')) y.2.2,fun y=>.tup [.sl 7 0 d y.1.2.2.2,.sl 8 0 r y.2.1.2.2.2,.sl 9 0 (dcZ F t d g ((l.drop i).take n) ((l'.drop i').take n')).length y.2.2.2.2.2.2,.nili],fun y=>dcC F bd qd bC qC t d g r bF qF be qe bl ql ++ [⟨b,q,1,false,some o,.rows 5 l⟩,⟨b',q',1,false,some o',.rows 5 l'⟩,osB true y.1,osB true y.2.1,oqC true y.2.2]⟩]
 mat vs m:=match vs with
  | [.ptr k _ _,.sl s i n c,.sl s' i' n' c']=>match nth m k with
    | ⟨bd,qd,_,_,_,.one (.ptr p _ _ :: _)⟩=>match nth m p with
      | ⟨bC,qC,_,_,_,.one (.ptr f _ _ :: .int _ (t:Nat) :: .int _ (d:Nat) :: .int _ (g:Nat) :: .int _ (r:Nat) :: _)⟩=>match nth m f with
        | ⟨bF,qF,_,_,_,.one (_ :: _ :: .sl x _ _ _ :: .sl h _ _ _ :: _)⟩=>match nth m x,nth m h,nth m s,nth m s' with
          | ⟨be,qe,_,_,_,_⟩,⟨bl,ql,_,_,_,_⟩,⟨b,q,_,_,o,.rows 5 l⟩,⟨b',q',_,_,o',.rows 5 l'⟩=>some (((bd,qd),(bC,qC,t,d,g,r),(bF,qF,be,qe,bl,ql),(onOf o,b,q,l,i,n,c),(onOf o',b',q',l',i',n',c')),[k,p,f,x,h,s,s'])
          | _,_,_,_=>none
        | _=>none
      | _=>none
    | _=>none
  | _=>none
 ok:=fun ((bd,qd),(bC,qC,t,d,g,r),(bF,qF,be,qe,bl,ql),(o,b,q,l,i,n,c),(o',b',q',l',i',n',c')) h=>decode_ok F bd qd bC qC t d g r bF qF be qe bl ql h.1.1 h.1.2.1 h.1.2.2.1 h.1.2.2.2.1 h.1.2.2.2.2.1 h.1.2.2.2.2.2 o b q l i n c h.2.1.1.1 h.2.1.1.2.1 h.2.1.1.2.2 o' b' q' l' i' n' c' h.2.1.2.1 h.2.1.2.2.1 h.2.1.2.2.2 _ _ rfl rfl h.2.2.1 h.2.2.2
end
end
end Go.Vx
namespace Go.Vx
open Go Go.Proofs
noncomputable section
variable [Gl]
section
variable {F:Gf} (K:Kd F)
abbrev MdY:=Lq×NwY×Nat
abbrev mdL (n:Nat) (y:MdY):List (Ck C0):=
 [⟨y.2.2,0,1,true,none,.one [.ptr 1 0 0]⟩,⟨y.2.1.1.1,0,263,true,none,.one (.ptr 2 0 0 :: .int .i64 (K.t:Int) :: .int .i64 (n:Int) :: .int .i64 (K.D:Int) :: .int .i64 (nP K:Int) :: .junk :: .sl 6 0 (nP K) y.2.1.1.2.2.2.2.2.2 :: tvC y.2.1.2.1)⟩,
  ⟨y.2.1.1.2.1.1,0,4,true,none,.one [.int .i64 (F.m:Int),.int .i64 (szF F:Int),.sl 3 0 (nF F) (nF F),.sl 5 0 (szF F) (szF F)]⟩,⟨y.2.1.1.2.1.2.1,0,1,true,none,.rows 3 (xT F)⟩,⟨0,0,1,false,some false,.rows 22 y.2.1.2.2⟩,⟨y.2.1.1.2.1.2.2,0,1,true,none,.rows 3 (lT F)⟩,
  ⟨y.2.1.1.2.2.2.1,y.2.1.1.2.2.2.2.1,1,true,none,.rows 5 y.2.1.1.2.2.2.2.2.1⟩,obC true y.1.2]
abbrev mdR (n:Nat) (y:MdY):SV:=.tup [.ptr 0 0 0,xcV (F.m:Int) (K.t:Int) (n:Int) 7 y.1.1.length y.1.2.2.2.2.2 (K.D:Int),.bool .t]
abbrev MdOK (y:MdY):Prop:=Oqw y.1.1 y.1.2∧NwOK K y.2.1
end
theorem does_pick {P:Program} {tg:Tg} {mem:List (Ck C0)} {args:List SV} {alts:List (Alt C0)} (A:Alt C0) (h:Does P tg mem args alts) (hn:∀ B∈alts,(∀ y,¬ B.post y)∨B=A):Does P tg mem args [A]:=by
 intro w hm
 obtain ⟨f,vals,hr,hc⟩:=h w hm
 refine ⟨f,vals,hr,hc.mono ?_⟩
 rintro e w' ⟨r,m',he,hm',hx,B,hB,y,hp,h1⟩
 rcases hn B hB with h2 | h2
 · exact absurd hp (h2 y)
 · subst h2
   exact ⟨r,m',he,hm',hx,B,.head _,y,hp,h1⟩
def fcRnewF (F:Gf):Fc Tryz.prog C0 where
 tg:=.fn 30
 X:=Nat×Nat
 args:=fun (t,n)=>[.int .i64 (F.m:Int),.int .i64 (t:Int),.int .i64 (n:Int)]
 mem _:=[]
 pre:=fun (t,n)=>(1≤t∧t≤40∧(lsO (nF F) t).2.2<nF F)∧(1≤n∧n≤2000)∧8*n+(lsO (nF F) t).2.2≤nF F
 alts:=fun (t,n)=>[⟨Lq,fun y=>Oqw y.1 y.2∧8*n+(lsO (nF F) t).2.2≤nF F,fun y=>.tup [xcV (F.m:Int) (t:Int) (n:Int) 0 y.1.length y.2.2.2.2.2 ((lsO (nF F) t).2.2:Int),.int .i64 0],fun y=>[obC true y.2]⟩]
 mat vs m:=match vs with
  | [_,.int _ t,.int _ n]=>some ((t.toNat,n.toNat),[])
  | _=>none
 ok:=fun (t,n) h=>does_pick _ (rnew_ok F t n h.1 h.2.1.1 h.2.1.2) fun B hB=>by
  rcases List.mem_cons.1 hB with rfl | hB
  · exact .inr rfl
  · rw [List.mem_singleton.1 hB]
    exact .inl fun _ hp=>by have hp:nF F<8*n+(lsO (nF F) t).2.2:=hp;have:=h.2.2;omega
def fcRnewX (F:Gf):Fc Tryz.prog C0 where
 tg:=.fn 30
 X:=Nat×Nat
 args:=fun (t,n)=>[.int .i64 (F.m:Int),.int .i64 (t:Int),.int .i64 (n:Int)]
 mem _:=[]
 pre:=fun (t,n)=>(1≤t∧t≤40∧(lsO (nF F) t).2.2<nF F)∧(1≤n∧n≤2000)∧nF F<8*n+(lsO (nF F) t).2.2
 alts:=fun (t,n)=>[⟨Unit,fun _=>nF F<8*n+(lsO (nF F) t).2.2,fun _=>.tup [.agg [.int .i64 0,.int .i64 0,.int .i64 0,.nils,.int .i64 0],.int .i64 105],fun _=>[]⟩]
 mat vs m:=match m with
  | [_]=>match vs with
    | [_,.int _ t,.int _ n]=>some ((t.toNat,n.toNat),[])
    | _=>none
  | _=>none
 ok:=fun (t,n) h=>does_pick _ (rnew_ok F t n h.1 h.2.1.1 h.2.1.2) fun B hB=>by
  rcases List.mem_cons.1 hB with rfl | hB
  · exact .inl fun _ hp=>by have:=hp.2;have:=h.2.2;omega
  · exact .inr (List.mem_singleton.1 hB)
theorem cd_facts (c:Cd):(lsO (nF c.F) c.K.t).2.2=c.K.D∧c.K.D<nF c.F∧1≤c.K.t∧c.K.t≤5:=by
 have h:=c.hd
 have h2:=c.K.hD
 have e:nF c.F=2 ^ c.F.m - 1:=nF_eq c.F
 rw [e]
 exact ⟨h,h2,c.K.t1,c.t5⟩
theorem tmod_rng (i:Int) (n:Nat) (h:0<n) : -(n:Int)<i.tmod (n:Int)∧i.tmod (n:Int)<(n:Int):=⟨tmod_low i h,Int.tmod_lt_of_pos i (by omega)⟩
theorem tmods (m t n:Int):(-4<m.tmod 4∧m.tmod 4<4)∧(-5<t.tmod 5∧t.tmod 5<5)∧(-12<n.tmod 12∧n.tmod 12<12):=⟨tmod_rng m 4 (by decide),tmod_rng t 5 (by decide),tmod_rng n 12 (by decide)⟩
theorem made_okA (c:Cd) (n0:Nat) (m t n:Int) (hm:(m.tmod 4+4).tmod 4+5=(c.F.m:Int)) (ht:(t.tmod 5+5).tmod 5+1=(c.K.t:Int)) (hn:(n.tmod 12+12).tmod 12+1=(n0:Int)) (h1:1≤n0) (h12:n0≤12) (hf:8*n0+c.K.D≤nF c.F):
 Does (C:=C0) Tryz.prog (.fn 10) [] [.int .i64 m,.int .i64 t,.int .i64 n] [⟨MdY,MdOK c.K,mdR c.K n0,mdL c.K n0⟩]:=by
 obtain ⟨g1,g2,g3,g4⟩:=cd_facts c
 have et:((t.tmod 5+5).tmod 5+1).toNat=c.K.t:=by omega
 have en:((n.tmod 12+12).tmod 12+1).toNat=n0:=by omega
 have m8:=c.m8
 have tt:=tmods m t n
 refine loc_fn (P:=Tryz.prog) (E:=⟨[fcRnewF c.F,fcNew c.K,fcDNew],[],65,[(9,[],[.p 1,.q 0,.e 2,.p 3]),(11,[],[.p 0,.p 2,.p 3,.p 4,.q 1,.e 5,.p 6])],[],[],none⟩) (L:=[]) mix Tryz.func10 rfl (by kernel_rfl) (by kernel_rfl) rfl rfl ?_
 ((conv=>arg 1;reduce);with_reducible repeat' first | exact ty | refine ta ?_ ?_ | refine ti fun _ => ?_ | refine tf fun _ => ?_ | refine tl ?_)
 all_goals try exact absurd (ng ‹decide ((0:Int)≠0)=true›) (fun h=>h rfl)
 all_goals try exact vlf
 all_goals try first
  | (refine inR64 ?_ ?_ <;> omega)
 · exact ⟨⟨by show 1≤((t.tmod 5+5).tmod 5+1).toNat;omega,by show ((t.tmod 5+5).tmod 5+1).toNat≤40;omega,by show (lsO (nF c.F) ((t.tmod 5+5).tmod 5+1).toNat).2.2<nF c.F;rw [et];omega⟩,⟨by show 1≤((n.tmod 12+12).tmod 12+1).toNat;omega,by show ((n.tmod 12+12).tmod 12+1).toNat≤2000;omega⟩,by show 8*((n.tmod 12+12).tmod 12+1).toNat+(lsO (nF c.F) ((t.tmod 5+5).tmod 5+1).toNat).2.2≤nF c.F;rw [et,en,g1];exact hf⟩
 · exact ⟨by show 1≤((((n.tmod 12+12).tmod 12+1).toNat:Nat):Int).toNat;omega,by show ((((n.tmod 12+12).tmod 12+1).toNat:Nat):Int).toNat≤2048;omega,by show 8*((((n.tmod 12+12).tmod 12+1).toNat:Nat):Int).toNat+c.K.D≤nF c.F;omega⟩
 · rename_i z hz b1 d y hy v hv
   change Lq at z
   change NwY at y
   change Nat at v
   refine Ends.one ((z,y,v):MdY) ⟨hz.1,hy⟩ ?_
   ((conv=>arg 1;reduce);with_reducible repeat' first | exact ty | refine ta ?_ ?_ | refine ti fun _ => ?_ | refine tf fun _ => ?_ | refine tl ?_)
   all_goals first
    | exact vlf
    | (show ((((t.tmod 5+5).tmod 5+1).toNat:Nat):Int)=(c.K.t:Int);rw [et])
    | (show (c.K.t:Int)=((((t.tmod 5+5).tmod 5+1).toNat:Nat):Int);rw [et])
    | (show ((((n.tmod 12+12).tmod 12+1).toNat:Nat):Int)=(n0:Int);rw [en])
    | (show (((((n.tmod 12+12).tmod 12+1).toNat:Nat):Int).toNat:Int)=(n0:Int);omega)
    | (show ((lsO (nF c.F) ((t.tmod 5+5).tmod 5+1).toNat).2.2:Int)=(c.K.D:Int);rw [et,g1])
theorem made_okB (c0 c:Cd) (n0:Nat) (m t n:Int) (hm:(m.tmod 4+4).tmod 4+5=(c0.F.m:Int)) (ht:(t.tmod 5+5).tmod 5+1=(c0.K.t:Int)) (hn:(n.tmod 12+12).tmod 12+1=(n0:Int)) (h1:1≤n0) (h12:n0≤12) (hf:nF c0.F<8*n0+c0.K.D) (m7:c.F.m=7) (t3:c.K.t=3):
 Does (C:=C0) Tryz.prog (.fn 10) [] [.int .i64 m,.int .i64 t,.int .i64 n] [⟨MdY,MdOK c.K,mdR c.K 5,mdL c.K 5⟩]:=by
 obtain ⟨g1,g2,g3,g4⟩:=cd_facts c0
 obtain ⟨u1,u2,u3,u4⟩:=cd_facts c
 have et:((t.tmod 5+5).tmod 5+1).toNat=c0.K.t:=by omega
 have en:((n.tmod 12+12).tmod 12+1).toNat=n0:=by omega
 have m8:=c0.m8
 have tt:=tmods m t n
 have n7:nF c.F=127:=by rw [nF_eq];show 2 ^ c.F.m - 1=127;rw [m7]
 have d21:c.K.D=21:=by rw [← u1,n7,t3];exact ls7_3
 refine loc_fn (P:=Tryz.prog) (E:=⟨[fcRnewX c0.F,fcRnewF c.F,fcNew c.K,fcDNew],[],65,[(9,[],[.p 1,.q 0,.e 2,.p 3]),(11,[],[.p 0,.p 2,.p 3,.p 4,.q 1,.e 5,.p 6])],[],[],none⟩) (L:=[]) mix Tryz.func10 rfl (by kernel_rfl) (by kernel_rfl) rfl rfl ?_
 ((conv=>arg 1;reduce);with_reducible repeat' first | exact ty | refine ta ?_ ?_ | refine ti fun _ => ?_ | refine tf fun _ => ?_ | refine tl ?_)
 all_goals try exact absurd (fun h=>nomatch h:(105:Int)≠0) (nf ‹decide ((105:Int)≠0)=false›)
 all_goals try exact vlf
 all_goals try first
  | (refine inR64 ?_ ?_ <;> omega)
 · exact ⟨⟨by show 1≤((t.tmod 5+5).tmod 5+1).toNat;omega,by show ((t.tmod 5+5).tmod 5+1).toNat≤40;omega,by show (lsO (nF c0.F) ((t.tmod 5+5).tmod 5+1).toNat).2.2<nF c0.F;rw [et];omega⟩,⟨by show 1≤((n.tmod 12+12).tmod 12+1).toNat;omega,by show ((n.tmod 12+12).tmod 12+1).toNat≤2000;omega⟩,by show nF c0.F<8*((n.tmod 12+12).tmod 12+1).toNat+(lsO (nF c0.F) ((t.tmod 5+5).tmod 5+1).toNat).2.2;rw [et,en,g1];exact hf⟩
 · refine ⟨⟨by decide,by decide,?_⟩,⟨by decide,by decide⟩,?_⟩
   · show (lsO (nF c.F) 3).2.2<nF c.F
     rw [← t3,u1];exact u2
   · show 8*5+(lsO (nF c.F) 3).2.2≤nF c.F
     rw [← t3,u1,d21,n7];decide
 · exact ⟨by show 1≤5;decide,by show 5≤2048;decide,by show 8*5+c.K.D≤nF c.F;omega⟩
 · rename_i z0 hz0 b1 d z hz y hy v hv
   change Lq at z
   change NwY at y
   change Nat at v
   have e3:(lsO (nF c.F) 3).2.2=c.K.D:=by rw [← t3];exact u1
   refine Ends.one ((z,y,v):MdY) ⟨hz.1,hy⟩ ?_
   ((conv=>arg 1;reduce);with_reducible repeat' first | exact ty | refine ta ?_ ?_ | refine ti fun _ => ?_ | refine tf fun _ => ?_ | refine tl ?_)
   all_goals first
    | exact vlf
    | (show ((3:Int).toNat:Int)=(c.K.t:Int);rw [t3];rfl)
    | (show ((lsO (nF c.F) (uh 3)).2.2:Int)=(c.K.D:Int);rw [show uh 3=3 from rfl,e3])
theorem made_all (m t n:Int):∃ (c:Cd) (n':Nat),(1≤n'∧n'≤12∧8*n'+c.K.D≤nF c.F)∧Does (C:=C0) Tryz.prog (.fn 10) [] [.int .i64 m,.int .i64 t,.int .i64 n] [⟨MdY,MdOK c.K,mdR c.K n',mdL c.K n'⟩]:=by
 have tt:=tmods m t n
 have r1:=tmods (m.tmod 4+4) (t.tmod 5+5) (n.tmod 12+12)
 have p1:=qq 4 (show 0≤m.tmod 4+4 by omega)
 have p2:=qq 5 (show 0≤t.tmod 5+5 by omega)
 have p3:=qq 12 (show 0≤n.tmod 12+12 by omega)
 obtain ⟨c0,hm,ht⟩:=code_of ((m.tmod 4+4).tmod 4+5).toNat ((t.tmod 5+5).tmod 5+1).toNat (by omega) (by omega) (by omega) (by omega)
 by_cases hf:8*((n.tmod 12+12).tmod 12+1).toNat+c0.K.D≤nF c0.F
 · exact ⟨c0,((n.tmod 12+12).tmod 12+1).toNat,⟨by omega,by omega,hf⟩,made_okA c0 _ m t n (by omega) (by omega) (by omega) (by omega) (by omega) hf⟩
 · obtain ⟨c,m7,t3⟩:=code_of 7 3 (by decide) (by decide) (by decide) (by decide)
   have n7:nF c.F=127:=by rw [nF_eq];show 2 ^ c.F.m - 1=127;rw [m7]
   have d21:c.K.D=21:=by rw [← (cd_facts c).1,n7,t3];exact ls7_3
   exact ⟨c,5,⟨by decide,by decide,by omega⟩,made_okB c0 c ((n.tmod 12+12).tmod 12+1).toNat m t n (by omega) (by omega) (by omega) (by omega) (by omega) (by omega) m7 t3⟩
end
end Go.Vx
namespace Go.Vx
open Go Go.Proofs Go.Vx.Fd
noncomputable section
variable [Gl]
section
variable {F:Gf}
theorem phi_congr {C:Nat→El F} {L:Nat} {s s':Nat→El F} {j:Nat} (h:∀ k,k≤j→s k=s' k):phi C L s j=phi C L s' j:=sm_congr fun i _=>by rw [h (j - i) (by omega)]
theorem bm_congr {s s':Nat→El F} {n:Nat} {C B:Nat→El F} {L k b:Nat} {e:El F} (h:BM s n C B L k b e) (hs:∀ k,k<n→s k=s' k):BM s' n C B L k b e:=by
 refine ⟨h.c0,h.cd,h.bd,h.k1,h.e0,h.rel,fun j h1 h2 => ?_,?_,fun l Y h1 h2=>h.low l Y h1 fun a ha => ?_⟩
 · rw [← phi_congr (s:=s) fun a ha=>hs a (by omega)];exact h.cz j h1 h2
 · refine h.bz.imp id fun ⟨h1,h2,h3,h4⟩ => ?_
   have hk:=h.k1
   refine ⟨h1,h2,?_,fun j h5 h6 => ?_⟩
   · rw [← phi_congr (s:=s) fun a ha=>hs a (by omega)];exact h3
   · rw [← phi_congr (s:=s) fun a ha=>hs a (by omega)];exact h4 j h5 h6
 · rw [hs a ha];exact h2 a ha
theorem su_range {b:Nat→Bool} {f:Nat→El F}:∀ n,su ((xq n).filter b) f=sm n fun k=>bk (b k)*f k
 | 0=>rfl
 | n+1=>by
   rw [uc,sk,su_app,su_range n]
   show _=sm n _+bk (b n)*f n
   congr 1
   cases h:b n
   · rw [rm (by rw [h];exact ve)];exact (zmul _).symm
   · rw [rl h];show f n+zr=un*f n;rw [add0,umul]
theorem svL_cf {A:List Int} {T k:Nat}:cf (els F (svL F A T)) k=if k<T then su A (fun p=>pw (exF F p) (k+1)) else zr:=by
 have e:els F (svL F A T)=mk T fun i=>su A fun p=>pw (exF F p) (i+1):=by
  unfold svL mk els;rw [td];exact xm fun i _=>el_vi _
 rw [e,mk_cf]
theorem dcS_cf {t d g k:Nat} {D R:List Int} (h:k<2*t):cf (els F (dcS F t d g D R)) k=vl (wdB g D (mkR g R)) (8*d+g) (ex F (k+1)):=by
 unfold dcS psL
 rw [svL_cf,if_pos h,su_map,su_range]
 unfold vl
 exact sm_congr fun i _=>by rw [exF_nat,ex_pw,ex_pw,xn]
abbrev dcB (F:Gf) (t d g:Nat) (D R:List Int):Bm F:=bmN (els F (dcS F t d g D R)) (2*t)
theorem dcB_ok (t d g:Nat) (D R:List Int):∃ b0,BM (fun k=>vl (wdB g D (mkR g R)) (8*d+g) (ex F (k+1))) (2*t) (cf (dcB F t d g D R).C) (cf (dcB F t d g D R).B) (dcB F t d g D R).L (dcB F t d g D R).k b0 (dcB F t d g D R).e:=
 let ⟨b0,h⟩:=bmN_ok (els F (dcS F t d g D R)) (2*t)
 ⟨b0,bm_congr h fun k hk=>dcS_cf hk⟩
theorem dcN_L {t d g:Nat} {D R:List Int}:dcN F t d g D R=(dcB F t d g D R).L:=by
 rw [dcN_eq];unfold wkN bL;rw [dcS_len]
theorem dcL_C {t d g:Nat} {D R:List Int}:dcL F t d g D R=vis (trim (dcB F t d g D R).C):=by
 rw [dcL_eq];unfold wkL bC;rw [trL_els,dcS_len]
theorem dcL_top {t d g:Nat} {D R:List Int}:(dcL F t d g D R).length=top (dcB F t d g D R).C:=by rw [dcL_C,zn,trim_len]
theorem pw_ivx {x:El F} (h:x≠zr) (n:Nat):pw (iv x) n=iv (pw x n):=iv_uniq (pw_iv h n)
theorem exF_neg (k:Nat):exF F (-(k:Int))=iv (ex F k):=by
 refine iv_uniq ?_
 have hN:=Gf.N3 (F:=F)
 unfold exF
 rw [← ex_add,← ex_mod]
 have h1:=Int.emod_nonneg (-(k:Int)) (show (F.N:Int)≠0 by omega)
 have h2:=Int.mul_ediv_add_emod (-(k:Int)) (F.N:Int)
 have e:(k+(-(k:Int) % (F.N:Int)).toNat) % F.N=0:=by
  refine Int.ofNat.inj ?_
  show (((k+(-(k:Int) % (F.N:Int)).toNat) % F.N:Nat):Int)=0
  rw [Int.natCast_emod,Int.natCast_add,Int.toNat_of_nonneg h1,show (k:Int) + -(k:Int) % (F.N:Int)=(F.N:Int)*(-(-(k:Int) / (F.N:Int))) by rw [Int.mul_neg];omega]
  exact Int.mul_emod_right _ _
 rw [e];rfl
theorem rt_term (C:List (El F)) (a k:Nat):tv F (vis (trim C)) a k=cf C k*pw (iv (ex F a)) k:=by
 unfold tv
 rw [els_vis,trim_cf,exF_neg,pw_ivx (ex_ne k),pw_ivx (ex_ne a),ex_pw,ex_pw,xn]
theorem trim_trim (C:List (El F)):trim (trim C)=trim C:=trim_ext fun i=>trim_cf C i
theorem dcB_top {t d g:Nat} {D R:List Int}:top (dcB F t d g D R).C≤(dcB F t d g D R).L+1∧(top (dcB F t d g D R).C=(dcB F t d g D R).L+1↔cf (dcB F t d g D R).C (dcB F t d g D R).L≠zr):=by
 obtain ⟨b0,h⟩:=dcB_ok (F:=F) t d g D R
 have h1:top (dcB F t d g D R).C≤(dcB F t d g D R).L+1:=Nat.le_of_not_lt fun hl=>top_ne (dcB F t d g D R).C (by omega) (h.cd _ (by omega))
 refine ⟨h1,fun e => ?_,fun hn => ?_⟩
 · have:=top_ne (dcB F t d g D R).C (by omega)
   rwa [e,Nat.add_sub_cancel] at this
 · have:=Classical.byContradiction fun hl:¬ (dcB F t d g D R).L<top (dcB F t d g D R).C=>hn (top_zero _ (by omega))
   omega
theorem dcZ_root {t d g:Nat} {D R:List Int} (hn:8*d+g≤F.N):dcZ F t d g D R=((xq (8*d+g)).filter fun a=>decide (sm ((dcB F t d g D R).L+1) (fun i=>cf (dcB F t d g D R).C i*pw (iv (ex F a)) i)=zr)).map fun a:Nat=>(a:Int):=by
 obtain ⟨b0,h⟩:=dcB_ok (F:=F) t d g D R
 have hs:=nF_sz F
 have e0:(max 0 (min (8*(d:Int)+(g:Int)) ((szF F:Int) - 1))).toNat=8*d+g:=by rw [← nF_eq] at hn;omega
 rw [dcZ_eq]
 unfold srL
 rw [e0,dcL_C,trL_els,trim_trim]
 unfold rtL
 congr 1
 refine nr fun a _ => ?_
 refine decide_eq_decide.2 ?_
 unfold yS
 rw [vi_zero,zn,trim_len,sm_congr fun k _=>rt_term _ a k,← sm_more dcB_top.1 fun i h1 h2=>by rw [top_zero _ h1,zmul]]
theorem clean_iff {t d g:Nat} {D R:List Int}:clnB (dcS F t d g D R)=true↔∀ k,k<2*t→vl (wdB g D (mkR g R)) (8*d+g) (ex F (k+1))=zr:=by
 have hv:∀ k,k<2*t→(dcS F t d g D R).getD k 0=vi (cf (els F (dcS F t d g D R)) k):=fun k hk=>by
  unfold dcS
  rw [svL_cf,if_pos hk]
  unfold svL
  simp only [zy,zf,xh hk];rfl
 constructor
 · intro h k hk
   rw [← dcS_cf hk,← vi_zero,← hv k hk]
   exact clnB_iff.1 h _ (getD_mem (by rw [dcS_len];exact hk))
 · intro h
   refine clnB_yes fun a ha => ?_
   rw [dcS_len] at ha
   rw [hv a ha,dcS_cf ha,h a ha];rfl
variable (K:Kd F)
theorem clean_word {d g:Nat} {D R:List Int}:clnB (dcS F K.t d g D R)=true↔Wd K.Q (wdB g D (mkR g R)) (8*d+g):=by
 rw [clean_iff]
 unfold Wd
 rw [K.Qt]
 constructor
 · intro h i h1 h2
   have:=h (i - 1) (by omega)
   rwa [show i - 1+1=i by omega] at this
 · exact fun h k hk=>h (k+1) (by omega) (by omega)
theorem dec_few {d g:Nat} {D R:List Int} {b:Nat→Bool} {P:List Nat} (hn:8*d+g≤F.N) (hW:Wd K.Q b (8*d+g)) (hb:∀ k,k<8*d+g→wdB g D (mkR g R) k=flips P b k) (hP:P.Nodup) (hp:∀ p∈P,p<8*d+g) (ht:P.length≤K.t):
 dcN F K.t d g D R=P.length∧(dcL F K.t d g D R).length=P.length+1∧dcZ F K.t d g D R=((xq (8*d+g)).filter fun a=>decide (a∈P)).map (fun a:Nat=>(a:Int))∧(clnB (dcS F K.t d g D R)=true↔P=[]):=by
 obtain ⟨b0,h⟩:=dcB_ok (F:=F) K.t d g D R
 have hS:∀ i,1≤i→i≤2*K.t→vl (wdB g D (mkR g R)) (8*d+g) (ex F i)=su P fun p=>pw (ex F i) p:=fun i h1 h2=>by
  rw [vl_congr hb,vl_flips hP hp,hW i h1 (by rw [K.Qt];exact h2),zadd]
 have h':=h
 rw [← K.Qt] at h'
 obtain ⟨m1,m2,m3⟩:=mends (Q:=K.Q) (S:=fun i=>vl (wdB g D (mkR g R)) (8*d+g) (ex F i)) (by rw [K.Qt];exact h) hP (fun p hp'=>by have:=hp p hp';omega) (by rw [K.Qt];exact hS) (by rw [K.Qt];exact ht)
 refine ⟨by rw [dcN_L];exact m1,?_,?_,?_⟩
 · rw [dcL_top,dcB_top.2.2 m2,m1]
 · rw [dcZ_root hn]
   congr 1
   refine nr fun a ha=>decide_eq_decide.2 ?_
   exact m3 a (by have:=List.mem_range.1 ha;omega)
 · rw [clean_iff]
   constructor
   · intro hc
     have:=h.low [] (fun x=>x) vk fun k hk=>hc k hk
     have:P.length=0:=by rw [← m1];exact Nat.le_zero.1 this
     exact vg this
   · rintro rfl
     exact fun k hk=>hS (k+1) (by omega) (by omega)
theorem dec_right {d g:Nat} {D R:List Int} (hn:8*d+g≤F.N) (h1:dcN F K.t d g D R≤K.t) (h3:(dcZ F K.t d g D R).length=dcN F K.t d g D R):
 Wd K.Q (flips ((dcZ F K.t d g D R).map uh) (wdB g D (mkR g R))) (8*d+g):=by
 obtain ⟨b0,h⟩:=dcB_ok (F:=F) K.t d g D R
 have e:(dcZ F K.t d g D R).map uh=(xq (8*d+g)).filter fun a=>decide (sm ((dcB F K.t d g D R).L+1) (fun i=>cf (dcB F K.t d g D R).C i*pw (iv (ex F a)) i)=zr):=by
  rw [dcZ_root hn,td]
  exact ni _
 have hl:((dcZ F K.t d g D R).map uh).length=(dcB F K.t d g D R).L:=by rw [zn,h3,dcN_L]
 rw [e] at hl ⊢
 have hm:∀ p∈(xq (8*d+g)).filter fun a=>decide (sm ((dcB F K.t d g D R).L+1) (fun i=>cf (dcB F K.t d g D R).C i*pw (iv (ex F a)) i)=zr),p<8*d+g:=fun p hp=>List.mem_range.1 (List.mem_filter.1 hp).1
 refine right_of (Q:=K.Q) (by rw [K.Qt];exact h) (by rw [K.Qt,← dcN_L];exact h1) (List.Nodup.sublist qi qh) (fun p hp=>by have:=hm p hp;omega) hm hl fun p hp => ?_
 have:=(List.mem_filter.1 hp).2
 unfold isRoot
 exact ng this
theorem dcZ_nodup {t d g:Nat} {D R:List Int} (hn:8*d+g≤F.N):((dcZ F t d g D R).map uh).Nodup∧∀ p∈(dcZ F t d g D R).map uh,p<8*d+g:=by
 rw [dcZ_root hn,td]
 refine ⟨?_,fun p hp => ?_⟩
 · exact (ni _).symm ▸ List.Nodup.sublist qi qh
 · obtain ⟨q,hq,rfl⟩:=List.mem_map.1 hp
   exact List.mem_range.1 (List.mem_filter.1 hq).1
theorem reg_congr' {D n:Nat} {g g' b:Nat→Bool} (hD:1≤D) (hg:∀ k,k<D→g k=g' k):∀ i k,k<D→reg D g b n i k=reg D g' b n i k
 | 0,_,_=>rfl
 | i+1,k,hk=>by
   show shf D g _ _ k=shf D g' _ _ k
   unfold shf
   rw [hg k hk,reg_congr' hD hg i (D - 1) (by omega)]
   congr 1
   split
   · rfl
   · exact reg_congr' hD hg i _ (by omega)
theorem pa_right {D:List Int}:Wd K.Q (wdB K.D D (paK K D)) (8*D.length+K.D):=by
 have h:=Wd.made K.Q (bt D) (8*D.length) (r:=bt (paK K D)) fun k hk=>by
  rw [K.QD] at hk
  rw [paK_bt,decide_eq_true hk,zd,K.QD]
  exact reg_congr' K.D1 (fun j hj=>gK_lt K hj) _ _ hk
 rw [K.QD] at h
 rw [up]
 exact h
theorem pa_of {D R:List Int} (h:Wd K.Q (wdB K.D D R) (8*D.length+K.D)) (hR:Byt8 R) (hl:R.length=nP K) (hz:∀ k,K.D≤k→bt R k=false):R=paK K D:=by
 refine byt_ext hR (paK_byt K D) (by rw [hl,paK_len]) fun k hk => ?_
 rw [paK_bt]
 by_cases hD:k<K.D
 · rw [decide_eq_true hD,zd]
   have h':Wd K.Q (fun k=>if k<K.Q.D then bt R k else bt D (k - K.Q.D)) (K.Q.D+8*D.length):=by rw [K.QD,up];exact h
   have:=h'.parity k (by rw [K.QD];exact hD)
   rw [this,K.QD]
   exact (reg_congr' K.D1 (fun j hj=>gK_lt K hj) _ _ hD).symm
 · rw [decide_eq_false hD,yf];exact hz k (by omega)
end
theorem mkR_bt {g:Nat} {R:List Int} (hR:Byt8 R) (hl:R.length=(g+7) / 8) (k:Nat):bt (mkR g R) k=(decide (k<g) && bt R k):=by
 have hout:∀ k,8*R.length≤k→bt R k=false:=fun k hk=>by
  unfold bt
  rw [zy,List.getElem?_eq_none (by omega)]
  exact Nat.zero_testBit _
 unfold mkR
 split
 · by_cases h:k<g
   · rw [decide_eq_true h,zd]
   · rw [decide_eq_false h,yf];exact hout k (by omega)
 · rename_i hg
   obtain ⟨x,hx,x1,x2⟩:=byt_at hR (show R.length - 1<R.length by omega)
   have hp:2 ^ (g % 8)≤2 ^ 8:=zj (by omega) (by omega)
   have hp0:=yg (g % 8)
   rw [hx,and8 x1 (by omega),bt_set (by omega),zu]
   by_cases h8:k / 8=R.length - 1
   · rw [if_pos h8,Nat.testBit_and,Nat.testBit_two_pow_sub_one,x2 _ (yv _ (by omega)),show 8*(R.length - 1)+k % 8=k by omega,Bool.and_comm]
     congr 1
     exact decide_eq_decide.2 (by omega)
   · rw [if_neg h8]
     by_cases h:k<g
     · rw [decide_eq_true h,zd]
     · rw [decide_eq_false h,yf];exact hout k (by omega)
theorem tn_bits {g d:Nat}:∀ (zs:List Int) (D R:List Int),Byt8 D→Byt8 R→D.length=d→g≤8*R.length→(zs.map uh).Nodup→(∀ p∈zs.map uh,p<8*d+g)→
 (∀ k,k<8*d+g→wdB g (tnD g D zs) (tnP g R zs) k=flips (zs.map uh) (wdB g D R) k)∧Byt8 (tnD g D zs)∧Byt8 (tnP g R zs)∧∀ k,g≤k→bt (tnP g R zs) k=bt R k
 | [],D,R,hD,hR,hl,hg,_,_=>by
   rw [tnD_zero,tnP_zero]
   exact ⟨fun k _=>by unfold flips;simp,hD,hR,fun _ _=>rfl⟩
 | z :: zs,D,R,hD,hR,hl,hg,hn,hp=>by
   have hz:=hp z.toNat (xp ..)
   obtain ⟨n1,n2⟩:=List.nodup_cons.1 hn
   have kD:Byt8 (fpD g D z.toNat):=by unfold fpD;split;exact hD;exact flB_byt hD
   have kR:Byt8 (fpP g R z.toNat):=by unfold fpP;split;exact flB_byt hR;exact hR
   obtain ⟨i1,i2,i3,i4⟩:=tn_bits (g:=g) (d:=d) zs (fpD g D z.toNat) (fpP g R z.toNat) kD kR (by rw [fpD_len];exact hl) (by rw [fpP_len];exact hg) n2 fun p h=>hp p (yw _ h)
   have eD:tnD g D (z :: zs)=tnD g (fpD g D z.toNat) zs:=by unfold tnD;rfl
   have eP:tnP g R (z :: zs)=tnP g (fpP g R z.toNat) zs:=by unfold tnP;rfl
   have e1:∀ k,k<8*d+g→wdB g (fpD g D z.toNat) (fpP g R z.toNat) k=(wdB g D R k ^^ decide (k=z.toNat)):=fun k hk=>by
    unfold wdB
    by_cases h:z.toNat<g
    · rw [fpD_lo h,fpP_lo h]
      by_cases h2:k<g
      · rw [if_pos h2,if_pos h2,flB_bt hR (by omega)]
      · rw [if_neg h2,if_neg h2,decide_eq_false (by omega),vv]
    · rw [fpD_hi h,fpP_hi h]
      by_cases h2:k<g
      · rw [if_pos h2,if_pos h2,decide_eq_false (by omega),vv]
      · rw [if_neg h2,if_neg h2,flB_bt hD (by omega)]
        congr 1
        exact decide_eq_decide.2 (by omega)
   rw [eD,eP]
   refine ⟨fun k hk => ?_,i2,i3,fun k hk => ?_⟩
   · rw [i1 k hk]
     unfold flips
     rw [e1 k hk]
     by_cases hkz:k=z.toNat
     · rw [hkz] at *
       simp [n1]
     · simp [hkz]
   · rw [i4 k hk]
     by_cases h:z.toNat<g
     · rw [fpP_lo h,flB_bt hR (by omega),decide_eq_false (by omega),vv]
     · rw [fpP_hi h]
end
end Go.Vx
namespace Go.Vx
open Go Go.Proofs Go.Vx.Fd
noncomputable section
variable [Gl]
theorem mk_wd {g:Nat} {D R:List Int} (hR:Byt8 R) (hl:R.length=(g+7) / 8) (k:Nat):wdB g D (mkR g R) k=wdB g D R k:=by
 unfold wdB
 by_cases h:k<g
 · rw [if_pos h,if_pos h,mkR_bt hR hl,decide_eq_true h,zd]
 · rw [if_neg h,if_neg h]
theorem mk_id {g:Nat} {R:List Int} (hR:Byt8 R) (hl:R.length=(g+7) / 8) (hz:∀ k,g≤k→bt R k=false):mkR g R=R:=by
 refine byt_ext (mkR_byt hR) hR mkR_len fun k _ => ?_
 rw [mkR_bt hR hl]
 by_cases h:k<g
 · rw [decide_eq_true h,zd]
 · rw [decide_eq_false h,yf,hz k (by omega)]
theorem mk_cl {g:Nat} {R:List Int} (hR:Byt8 R) (hl:R.length=(g+7) / 8):mkR g R=clL g R:=by
 refine byt_ext (mkR_byt hR) clL_byt (by rw [mkR_len,clL_len]) fun k _ => ?_
 rw [mkR_bt hR hl,clL_bt]
section
variable {F:Gf} (K:Kd F)
theorem pa_out (D:List Int):∀ k,K.D≤k→bt (paK K D) k=false:=fun k hk=>by rw [paK_bt,decide_eq_false (by omega),yf]
theorem pa_len' (D:List Int):(paK K D).length=(K.D+7) / 8:=paK_len K D
theorem pa_mk (D:List Int):mkR K.D (paK K D)=paK K D:=mk_id (paK_byt K D) (pa_len' K D) (pa_out K D)
theorem pa_tk (D:List Int):((paK K D).drop 0).take (nP K)=paK K D:=by rw [zm,zc (by rw [paK_len];exact zw _)]
theorem pa_clean {D:List Int} {d:Nat} (hd:D.length=d):clnB (dcS F K.t d K.D D (paK K D))=true:=by
 subst hd
 rw [clean_word,pa_mk]
 exact pa_right K
end
theorem cd5 {c:Cd} (m5:c.F.m=5) (t2:c.K.t=2):nF c.F=31∧c.K.D=10∧nP c.K=2:=by
 have n7:nF c.F=31:=by rw [nF_eq];show 2 ^ c.F.m - 1=31;rw [m5]
 have h:=c.hd
 have e:2 ^ c.F.m - 1=31:=by rw [m5]
 rw [e,t2] at h
 have d10:c.K.D=10:=by rw [← h];exact ls5_2
 refine ⟨n7,d10,?_⟩
 unfold nP
 rw [d10]
theorem ex_two {c:Cd} (m5:c.F.m=5) (t2:c.K.t=2):clnB (dcS c.F c.K.t 2 c.K.D [6,9] (paK c.K [7,9]))=false∧dcN c.F c.K.t 2 c.K.D [6,9] (paK c.K [7,9])=1∧(dcL c.F c.K.t 2 c.K.D [6,9] (paK c.K [7,9])).length=2∧
 dcZ c.F c.K.t 2 c.K.D [6,9] (paK c.K [7,9])=[10]∧tnD c.K.D [6,9] [10]=[7,9]∧tnP c.K.D (mkR c.K.D (paK c.K [7,9])) [10]=paK c.K [7,9]:=by
 obtain ⟨n31,d10,p2⟩:=cd5 m5 t2
 have hb:∀ j,j<16→bt [6,9] j=(bt [7,9] j ^^ decide (j=0)):=by decide
 have h:=dec_few c.K (d:=2) (g:=c.K.D) (D:=[6,9]) (R:=paK c.K [7,9]) (b:=wdB c.K.D [7,9] (paK c.K [7,9])) (P:=[10]) (by rw [← nF_eq,n31,d10];decide) (pa_right c.K) (fun k hk=>by
  rw [mk_wd (paK_byt c.K _) (pa_len' c.K _)]
  rw [d10] at hk ⊢
  show (if k<10 then bt (paK c.K [7,9]) k else bt [6,9] (k - 10))=((if k<10 then bt (paK c.K [7,9]) k else bt [7,9] (k - 10)) ^^ decide (k∈[10]))
  by_cases hg:k<10
  · rw [if_pos hg,if_pos hg,decide_eq_false (by simp;omega),vv]
  · rw [if_neg hg,if_neg hg,hb _ (by omega)]
    congr 1
    refine decide_eq_decide.2 ?_
    rw [List.mem_singleton]
    omega) (List.nodup_cons.2 ⟨(fun h=>nomatch h),vk⟩) (fun p hp=>by rw [List.mem_singleton.1 hp,d10];decide) (by rw [t2];decide)
 obtain ⟨h1,h2,h3,h4⟩:=h
 refine ⟨?_,h1,h2,?_,?_,?_⟩
 · cases hc:clnB (dcS c.F c.K.t 2 c.K.D [6,9] (paK c.K [7,9])) with
   | false=>rfl
   | true=>exact absurd (h4.1 hc) (fun h=>nomatch h)
 · rw [h3,d10];decide
 · rw [d10]
   unfold tnD fpD
   show (if (10:Int).toNat<10 then [6,9] else flB [6,9] ((10:Int).toNat - 10))=[7,9]
   rw [if_neg (by decide)]
   unfold flB
   decide
 · rw [pa_mk,d10]
   unfold tnP fpP
   show (if (10:Int).toNat<10 then flB (paK c.K [7,9]) (10:Int).toNat else paK c.K [7,9])=_
   rw [if_neg (by decide)]
end
end Go.Vx
namespace Go.Vx
open Go Go.Proofs
noncomputable section
variable [Gl]
def pickN:Nat→List (Alt C0)→Alt C0
 | 0,a :: _=>a
 | n+1,_ :: l=>pickN n l
 | _,[]=>⟨Unit,fun _=>False,fun _=>.junk,fun _=>[]⟩
def fcOnly {P:Program} (f:Fc P C0) (i:Nat) (pre':f.X→Prop) (hp:∀ x,f.pre x→pre' x→∀ B∈f.alts x,(∀ y,¬ B.post y)∨B=pickN i (f.alts x)) (k:Option Nat):Fc P C0 where
 tg:=f.tg
 X:=f.X
 args:=f.args
 mem:=f.mem
 pre x:=f.pre x∧pre' x
 alts x:=[pickN i (f.alts x)]
 mat vs m:=match k with
  | none=>f.mat vs m
  | some k=>match zi m.length k with
    | true=>f.mat vs m
    | false=>none
 ok x h:=does_pick _ (f.ok x h.1) (hp x h.1 h.2)
section
variable (F:Gf)
def dcPC:(fcDecode F).X→Prop:=fun (_,(_,_,t,d,g,r),_,(o,b,q,l,i,n,c),(o',b',q',l',i',n',c'))=>n=d∧n'=r∧clnB (dcS F t d g ((l.drop i).take n) ((l'.drop i').take n'))=true
def dcPM:(fcDecode F).X→Prop:=fun (_,(_,_,t,d,g,r),_,(o,b,q,l,i,n,c),(o',b',q',l',i',n',c'))=>n=d∧n'=r∧clnB (dcS F t d g ((l.drop i).take n) ((l'.drop i').take n'))=false∧¬ (t<dcN F t d g ((l.drop i).take n) ((l'.drop i').take n')∨(dcL F t d g ((l.drop i).take n) ((l'.drop i').take n')).length≠dcN F t d g ((l.drop i).take n) ((l'.drop i').take n')+1)∧(dcZ F t d g ((l.drop i).take n) ((l'.drop i').take n')).length=dcN F t d g ((l.drop i).take n) ((l'.drop i').take n')
def dcPX:(fcDecode F).X→Prop:=fun (_,(_,_,t,d,g,r),_,(o,b,q,l,i,n,c),(o',b',q',l',i',n',c'))=>n=d∧n'=r∧clnB (dcS F t d g ((l.drop i).take n) ((l'.drop i').take n'))=false∧((t<dcN F t d g ((l.drop i).take n) ((l'.drop i').take n')∨(dcL F t d g ((l.drop i).take n) ((l'.drop i').take n')).length≠dcN F t d g ((l.drop i).take n) ((l'.drop i').take n')+1)∨(dcZ F t d g ((l.drop i).take n) ((l'.drop i').take n')).length≠dcN F t d g ((l.drop i).take n) ((l'.drop i').take n'))
theorem dcPC_ok (x:(fcDecode F).X) (h:(fcDecode F).pre x) (hc:dcPC F x):∀ B∈(fcDecode F).alts x,(∀ y,¬ B.post y)∨B=pickN 2 ((fcDecode F).alts x):=by
 obtain ⟨⟨bd,qd⟩,⟨bC,qC,t,d,g,r⟩,⟨bF,qF,be,qe,bl,ql⟩,⟨o,b,q,l,i,n,c⟩,⟨o',b',q',l',i',n',c'⟩⟩:=x
 obtain ⟨h1,h2,h3⟩:=hc
 intro B hB
 rcases List.mem_cons.1 hB with rfl | hB
 · exact .inl fun _ hp=>by rcases hp with hp | hp;exact hp h1;exact hp h2
 rcases List.mem_cons.1 hB with rfl | hB
 · exact .inl fun _ hp=>by have:=hp.2.1;rw [h3] at this;cases this
 rcases List.mem_cons.1 hB with rfl | hB
 · exact .inr rfl
 · rw [List.mem_singleton.1 hB]
   exact .inl fun _ hp=>by have:=hp.2.1;rw [h3] at this;cases this
theorem dcPM_ok (x:(fcDecode F).X) (h:(fcDecode F).pre x) (hc:dcPM F x):∀ B∈(fcDecode F).alts x,(∀ y,¬ B.post y)∨B=pickN 3 ((fcDecode F).alts x):=by
 obtain ⟨⟨bd,qd⟩,⟨bC,qC,t,d,g,r⟩,⟨bF,qF,be,qe,bl,ql⟩,⟨o,b,q,l,i,n,c⟩,⟨o',b',q',l',i',n',c'⟩⟩:=x
 obtain ⟨h1,h2,h3,h4,h5⟩:=hc
 intro B hB
 rcases List.mem_cons.1 hB with rfl | hB
 · exact .inl fun _ hp=>by rcases hp with hp | hp;exact hp h1;exact hp h2
 rcases List.mem_cons.1 hB with rfl | hB
 · exact .inl fun _ hp=>by rcases hp.2.2 with hp | hp;exact h4 hp;exact hp h5
 rcases List.mem_cons.1 hB with rfl | hB
 · exact .inl fun _ hp=>by have:=hp.2.1;rw [h3] at this;cases this
 · exact .inr (List.mem_singleton.1 hB)
theorem dcPX_ok (x:(fcDecode F).X) (h:(fcDecode F).pre x) (hc:dcPX F x):∀ B∈(fcDecode F).alts x,(∀ y,¬ B.post y)∨B=pickN 1 ((fcDecode F).alts x):=by
 obtain ⟨⟨bd,qd⟩,⟨bC,qC,t,d,g,r⟩,⟨bF,qF,be,qe,bl,ql⟩,⟨o,b,q,l,i,n,c⟩,⟨o',b',q',l',i',n',c'⟩⟩:=x
 obtain ⟨h1,h2,h3,h4⟩:=hc
 intro B hB
 rcases List.mem_cons.1 hB with rfl | hB
 · exact .inl fun _ hp=>by rcases hp with hp | hp;exact hp h1;exact hp h2
 rcases List.mem_cons.1 hB with rfl | hB
 · exact .inr rfl
 rcases List.mem_cons.1 hB with rfl | hB
 · exact .inl fun _ hp=>by have:=hp.2.1;rw [h3] at this;cases this
 · rw [List.mem_singleton.1 hB]
   exact .inl fun _ hp=>by rcases h4 with h4 | h4;exact hp.2.2.1.1 h4;exact h4 hp.2.2.1.2
def fcDecC (k:Option Nat):Fc Tryz.prog C0:=fcOnly (fcDecode F) 2 (dcPC F) (dcPC_ok F) k
def fcDecM (k:Option Nat):Fc Tryz.prog C0:=fcOnly (fcDecode F) 3 (dcPM F) (dcPM_ok F) k
end
theorem first_ok:Tells (C:=C0) Tryz.prog (.fn 9) [] [] (.bool .t):=by
 obtain ⟨c,m5,t2⟩:=code_of 5 2 (by decide) (by decide) (by decide) (by decide)
 obtain ⟨n31,d10,p2⟩:=cd5 m5 t2
 obtain ⟨x1,x2,x3,x4,x5,x6⟩:=ex_two m5 t2
 have pt:=pa_tk c.K [7,9]
 have pl:=paK_len c.K [7,9]
 have pb:=paK_byt c.K [7,9]
 have b79:Byt8 [7,9]:=fun x hx=>by simp at hx;rcases hx with rfl | rfl <;> decide
 have b69:Byt8 [6,9]:=fun x hx=>by simp at hx;rcases hx with rfl | rfl <;> decide
 refine loc_pc (P:=Tryz.prog) (E:=⟨[fcNew c.K,fcDNew,fcSerial c.K,fcDecC c.F (some 11),fcDecM c.F none],[pcSb,pcSameInts,pcDCode],89,[],[],[],none⟩) (L:=[]) mix Tryz.func9 rfl (by kernel_rfl) (by kernel_rfl) rfl rfl ?_
 ((conv=>arg 1;reduce);with_reducible repeat' first | exact ty | refine ta ?_ ?_ | refine ti fun _ => ?_ | refine tf fun _ => ?_ | refine tl ?_)
 all_goals try exact vlf
 · exact ⟨by show 1≤2;decide,by show 2≤2048;decide,by show 8*2+c.K.D≤nF c.F;omega⟩
 · rename_i y hy v hv b0
   change NwY at y
   have hy:NwOK c.K y:=hy
   exact ⟨by show 0+2≤2;decide,by show 2<100000;decide,nofun,b79,hy.2.1,hy.2.2,rfl⟩
 · refine ⟨⟨⟨by show c.K.t≤40;omega,by show 2<100000;decide,by show c.K.D<100000;omega,rfl,by show 1≤2;decide,by show 1≤c.K.D;omega⟩,⟨⟨by show 0+2≤2;decide,by show 2<1000000000;decide,nofun⟩,⟨by show 0+nP c.K≤(paK c.K [7,9]).length;omega,by show nP c.K<1000000000;omega,nofun⟩⟩,b79,?_⟩,rfl,rfl,?_⟩
   · show Byt8 (((paK c.K [7,9]).drop 0).take (nP c.K));rw [pt];exact pb
   · show clnB (dcS c.F c.K.t 2 c.K.D [7,9] (((paK c.K [7,9]).drop 0).take (nP c.K)))=true
     rw [pt];exact pa_clean c.K rfl
 · refine ⟨⟨⟨by show c.K.t≤40;omega,by show 2<100000;decide,by show c.K.D<100000;omega,rfl,by show 1≤2;decide,by show 1≤c.K.D;omega⟩,⟨⟨by show 0+2≤2;decide,by show 2<1000000000;decide,nofun⟩,⟨by show 0+nP c.K≤(paK c.K [7,9]).length;omega,by show nP c.K<1000000000;omega,nofun⟩⟩,b69,?_⟩,rfl,rfl,?_,?_,?_⟩
   · show Byt8 (((paK c.K [7,9]).drop 0).take (nP c.K));rw [pt];exact pb
   · show clnB (dcS c.F c.K.t 2 c.K.D [6,9] (((paK c.K [7,9]).drop 0).take (nP c.K)))=false
     rw [pt];exact x1
   · show ¬ (c.K.t<dcN c.F c.K.t 2 c.K.D [6,9] (((paK c.K [7,9]).drop 0).take (nP c.K))∨(dcL c.F c.K.t 2 c.K.D [6,9] (((paK c.K [7,9]).drop 0).take (nP c.K))).length≠dcN c.F c.K.t 2 c.K.D [6,9] (((paK c.K [7,9]).drop 0).take (nP c.K))+1)
     rw [pt,x2,x3];omega
   · show (dcZ c.F c.K.t 2 c.K.D [6,9] (((paK c.K [7,9]).drop 0).take (nP c.K))).length=dcN c.F c.K.t 2 c.K.D [6,9] (((paK c.K [7,9]).drop 0).take (nP c.K))
     rw [pt,x4,x2];rfl
 all_goals try (
  rename_i y hy v hv b0 s hs w1 A hA w2 B hB w3
  change Os×Os at A
  change Os×Os×Oq at B
  have hA1:Ow [7,9] A.1:=hA.2.2.1
  have hB1:Ow (tnD c.K.D [6,9] (dcZ c.F c.K.t 2 c.K.D [6,9] (((paK c.K [7,9]).drop 0).take (nP c.K)))) B.1:=hB.2.2.2.1.1
  have hB2:Ow (tnP c.K.D (mkR c.K.D (((paK c.K [7,9]).drop 0).take (nP c.K))) (dcZ c.F c.K.t 2 c.K.D [6,9] (((paK c.K [7,9]).drop 0).take (nP c.K)))) B.2.1:=hB.2.2.2.1.2
  have hB3:Oqw (dcZ c.F c.K.t 2 c.K.D [6,9] (((paK c.K [7,9]).drop 0).take (nP c.K))) B.2.2:=hB.2.2.2.2
  have eZ:(dcZ c.F c.K.t 2 c.K.D [6,9] (((paK c.K [7,9]).drop 0).take (nP c.K))).length=1:=by rw [pt,x4];rfl
  rw [pt,x4,x5] at hB1
  rw [pt,x4,x6] at hB2
  rw [pt,x4] at hB3
  have E1:((A.1.2.2.1.drop 0).take 2)=[7,9]:=by rw [zm];exact hA1.eq
  have E2:((B.1.2.2.1.drop 0).take 2)=[7,9]:=by rw [zm];exact hB1.eq
  have E3:((B.2.1.2.2.1.drop 0).take (nP c.K))=paK c.K [7,9]:=by rw [zm,← pl];exact hB2.eq
  have E4:B.2.2.2.2.2.1.take (dcZ c.F c.K.t 2 c.K.D [6,9] (((paK c.K [7,9]).drop 0).take (nP c.K))).length=[10]:=by rw [eZ];exact hB3.eq
  have a1:2≤A.1.2.2.2:=hA1.cap
  have a2:=hA1.len
  have b1:2≤B.1.2.2.2:=hB1.cap
  have b2:=hB1.len
  have b3:(paK c.K [7,9]).length≤B.2.1.2.2.2:=hB2.cap
  have b4:=hB2.len
  have b5:1≤B.2.2.2.2.2.2:=hB3.cap
  have b6:=hB3.len
  exact ⟨by show 0+2≤A.1.2.2.1.length;omega,by show 0+2≤2;decide,hA1.nil,nofun,by show Byt8 ((A.1.2.2.1.drop 0).take 2);rw [E1];exact b79,b79⟩)
 all_goals try (
  rename_i y hy v hv b0 s hs w1 A hA w2 B hB w3 e1
  change Os×Os at A
  change Os×Os×Oq at B
  have hA1:Ow [7,9] A.1:=hA.2.2.1
  have hB1:Ow (tnD c.K.D [6,9] (dcZ c.F c.K.t 2 c.K.D [6,9] (((paK c.K [7,9]).drop 0).take (nP c.K)))) B.1:=hB.2.2.2.1.1
  have hB2:Ow (tnP c.K.D (mkR c.K.D (((paK c.K [7,9]).drop 0).take (nP c.K))) (dcZ c.F c.K.t 2 c.K.D [6,9] (((paK c.K [7,9]).drop 0).take (nP c.K)))) B.2.1:=hB.2.2.2.1.2
  have hB3:Oqw (dcZ c.F c.K.t 2 c.K.D [6,9] (((paK c.K [7,9]).drop 0).take (nP c.K))) B.2.2:=hB.2.2.2.2
  have eZ:(dcZ c.F c.K.t 2 c.K.D [6,9] (((paK c.K [7,9]).drop 0).take (nP c.K))).length=1:=by rw [pt,x4];rfl
  rw [pt,x4,x5] at hB1
  rw [pt,x4,x6] at hB2
  rw [pt,x4] at hB3
  have E1:((A.1.2.2.1.drop 0).take 2)=[7,9]:=by rw [zm];exact hA1.eq
  have E2:((B.1.2.2.1.drop 0).take 2)=[7,9]:=by rw [zm];exact hB1.eq
  have E3:((B.2.1.2.2.1.drop 0).take (nP c.K))=paK c.K [7,9]:=by rw [zm,← pl];exact hB2.eq
  have E4:B.2.2.2.2.2.1.take (dcZ c.F c.K.t 2 c.K.D [6,9] (((paK c.K [7,9]).drop 0).take (nP c.K))).length=[10]:=by rw [eZ];exact hB3.eq
  have a1:2≤A.1.2.2.2:=hA1.cap
  have a2:=hA1.len
  have b1:2≤B.1.2.2.2:=hB1.cap
  have b2:=hB1.len
  have b3:(paK c.K [7,9]).length≤B.2.1.2.2.2:=hB2.cap
  have b4:=hB2.len
  have b5:1≤B.2.2.2.2.2.2:=hB3.cap
  have b6:=hB3.len
  have e1:(ieq ((A.1.2.2.1.drop 0).take 2) [7,9] && true)=false:=e1
  rw [E1,ieq_yes rfl] at e1
  cases e1)
 all_goals try (
  rename_i y hy v hv b0 s hs w1 A hA w2 B hB w3 e1 w4
  change Os×Os at A
  change Os×Os×Oq at B
  have hA1:Ow [7,9] A.1:=hA.2.2.1
  have hB1:Ow (tnD c.K.D [6,9] (dcZ c.F c.K.t 2 c.K.D [6,9] (((paK c.K [7,9]).drop 0).take (nP c.K)))) B.1:=hB.2.2.2.1.1
  have hB2:Ow (tnP c.K.D (mkR c.K.D (((paK c.K [7,9]).drop 0).take (nP c.K))) (dcZ c.F c.K.t 2 c.K.D [6,9] (((paK c.K [7,9]).drop 0).take (nP c.K)))) B.2.1:=hB.2.2.2.1.2
  have hB3:Oqw (dcZ c.F c.K.t 2 c.K.D [6,9] (((paK c.K [7,9]).drop 0).take (nP c.K))) B.2.2:=hB.2.2.2.2
  have eZ:(dcZ c.F c.K.t 2 c.K.D [6,9] (((paK c.K [7,9]).drop 0).take (nP c.K))).length=1:=by rw [pt,x4];rfl
  rw [pt,x4,x5] at hB1
  rw [pt,x4,x6] at hB2
  rw [pt,x4] at hB3
  have E1:((A.1.2.2.1.drop 0).take 2)=[7,9]:=by rw [zm];exact hA1.eq
  have E2:((B.1.2.2.1.drop 0).take 2)=[7,9]:=by rw [zm];exact hB1.eq
  have E3:((B.2.1.2.2.1.drop 0).take (nP c.K))=paK c.K [7,9]:=by rw [zm,← pl];exact hB2.eq
  have E4:B.2.2.2.2.2.1.take (dcZ c.F c.K.t 2 c.K.D [6,9] (((paK c.K [7,9]).drop 0).take (nP c.K))).length=[10]:=by rw [eZ];exact hB3.eq
  have a1:2≤A.1.2.2.2:=hA1.cap
  have a2:=hA1.len
  have b1:2≤B.1.2.2.2:=hB1.cap
  have b2:=hB1.len
  have b3:(paK c.K [7,9]).length≤B.2.1.2.2.2:=hB2.cap
  have b4:=hB2.len
  have b5:1≤B.2.2.2.2.2.2:=hB3.cap
  have b6:=hB3.len
  exact ⟨by show 0+2≤B.1.2.2.1.length;omega,by show 0+2≤2;decide,hB1.nil,nofun,by show Byt8 ((B.1.2.2.1.drop 0).take 2);rw [E2];exact b79,b79⟩)
 all_goals try (
  rename_i y hy v hv b0 s hs w1 A hA w2 B hB w3 e1 w4 e2
  change Os×Os at A
  change Os×Os×Oq at B
  have hA1:Ow [7,9] A.1:=hA.2.2.1
  have hB1:Ow (tnD c.K.D [6,9] (dcZ c.F c.K.t 2 c.K.D [6,9] (((paK c.K [7,9]).drop 0).take (nP c.K)))) B.1:=hB.2.2.2.1.1
  have hB2:Ow (tnP c.K.D (mkR c.K.D (((paK c.K [7,9]).drop 0).take (nP c.K))) (dcZ c.F c.K.t 2 c.K.D [6,9] (((paK c.K [7,9]).drop 0).take (nP c.K)))) B.2.1:=hB.2.2.2.1.2
  have hB3:Oqw (dcZ c.F c.K.t 2 c.K.D [6,9] (((paK c.K [7,9]).drop 0).take (nP c.K))) B.2.2:=hB.2.2.2.2
  have eZ:(dcZ c.F c.K.t 2 c.K.D [6,9] (((paK c.K [7,9]).drop 0).take (nP c.K))).length=1:=by rw [pt,x4];rfl
  rw [pt,x4,x5] at hB1
  rw [pt,x4,x6] at hB2
  rw [pt,x4] at hB3
  have E1:((A.1.2.2.1.drop 0).take 2)=[7,9]:=by rw [zm];exact hA1.eq
  have E2:((B.1.2.2.1.drop 0).take 2)=[7,9]:=by rw [zm];exact hB1.eq
  have E3:((B.2.1.2.2.1.drop 0).take (nP c.K))=paK c.K [7,9]:=by rw [zm,← pl];exact hB2.eq
  have E4:B.2.2.2.2.2.1.take (dcZ c.F c.K.t 2 c.K.D [6,9] (((paK c.K [7,9]).drop 0).take (nP c.K))).length=[10]:=by rw [eZ];exact hB3.eq
  have a1:2≤A.1.2.2.2:=hA1.cap
  have a2:=hA1.len
  have b1:2≤B.1.2.2.2:=hB1.cap
  have b2:=hB1.len
  have b3:(paK c.K [7,9]).length≤B.2.1.2.2.2:=hB2.cap
  have b4:=hB2.len
  have b5:1≤B.2.2.2.2.2.2:=hB3.cap
  have b6:=hB3.len
  refine ⟨by show 0+nP c.K≤B.2.1.2.2.1.length;omega,by show 0+nP c.K≤(paK c.K [7,9]).length;omega,fun h0=>⟨by have:=(hB2.nil h0).1;show nP c.K=0;omega,(hB2.nil h0).2⟩,nofun,?_,?_⟩
  · show Byt8 ((B.2.1.2.2.1.drop 0).take (nP c.K));rw [E3];exact pb
  · show Byt8 (((paK c.K [7,9]).drop 0).take (nP c.K));rw [pt];exact pb)
 all_goals try (
  rename_i y hy v hv b0 s hs w1 A hA w2 B hB w3 e1 w4 e2
  change Os×Os at A
  change Os×Os×Oq at B
  have hA1:Ow [7,9] A.1:=hA.2.2.1
  have hB1:Ow (tnD c.K.D [6,9] (dcZ c.F c.K.t 2 c.K.D [6,9] (((paK c.K [7,9]).drop 0).take (nP c.K)))) B.1:=hB.2.2.2.1.1
  have hB2:Ow (tnP c.K.D (mkR c.K.D (((paK c.K [7,9]).drop 0).take (nP c.K))) (dcZ c.F c.K.t 2 c.K.D [6,9] (((paK c.K [7,9]).drop 0).take (nP c.K)))) B.2.1:=hB.2.2.2.1.2
  have hB3:Oqw (dcZ c.F c.K.t 2 c.K.D [6,9] (((paK c.K [7,9]).drop 0).take (nP c.K))) B.2.2:=hB.2.2.2.2
  have eZ:(dcZ c.F c.K.t 2 c.K.D [6,9] (((paK c.K [7,9]).drop 0).take (nP c.K))).length=1:=by rw [pt,x4];rfl
  rw [pt,x4,x5] at hB1
  rw [pt,x4,x6] at hB2
  rw [pt,x4] at hB3
  have E1:((A.1.2.2.1.drop 0).take 2)=[7,9]:=by rw [zm];exact hA1.eq
  have E2:((B.1.2.2.1.drop 0).take 2)=[7,9]:=by rw [zm];exact hB1.eq
  have E3:((B.2.1.2.2.1.drop 0).take (nP c.K))=paK c.K [7,9]:=by rw [zm,← pl];exact hB2.eq
  have E4:B.2.2.2.2.2.1.take (dcZ c.F c.K.t 2 c.K.D [6,9] (((paK c.K [7,9]).drop 0).take (nP c.K))).length=[10]:=by rw [eZ];exact hB3.eq
  have a1:2≤A.1.2.2.2:=hA1.cap
  have a2:=hA1.len
  have b1:2≤B.1.2.2.2:=hB1.cap
  have b2:=hB1.len
  have b3:(paK c.K [7,9]).length≤B.2.1.2.2.2:=hB2.cap
  have b4:=hB2.len
  have b5:1≤B.2.2.2.2.2.2:=hB3.cap
  have b6:=hB3.len
  have e2:(ieq ((B.1.2.2.1.drop 0).take 2) [7,9] && ieq ((B.2.1.2.2.1.drop 0).take (nP c.K)) (((paK c.K [7,9]).drop 0).take (nP c.K)))=false:=e2
  rw [E2,E3,pt,ieq_yes rfl,ieq_yes rfl] at e2
  cases e2)
 all_goals try (
  rename_i y hy v hv b0 s hs w1 A hA w2 B hB w3 e1 w4 e2 w5
  change Os×Os at A
  change Os×Os×Oq at B
  have hA1:Ow [7,9] A.1:=hA.2.2.1
  have hB1:Ow (tnD c.K.D [6,9] (dcZ c.F c.K.t 2 c.K.D [6,9] (((paK c.K [7,9]).drop 0).take (nP c.K)))) B.1:=hB.2.2.2.1.1
  have hB2:Ow (tnP c.K.D (mkR c.K.D (((paK c.K [7,9]).drop 0).take (nP c.K))) (dcZ c.F c.K.t 2 c.K.D [6,9] (((paK c.K [7,9]).drop 0).take (nP c.K)))) B.2.1:=hB.2.2.2.1.2
  have hB3:Oqw (dcZ c.F c.K.t 2 c.K.D [6,9] (((paK c.K [7,9]).drop 0).take (nP c.K))) B.2.2:=hB.2.2.2.2
  have eZ:(dcZ c.F c.K.t 2 c.K.D [6,9] (((paK c.K [7,9]).drop 0).take (nP c.K))).length=1:=by rw [pt,x4];rfl
  rw [pt,x4,x5] at hB1
  rw [pt,x4,x6] at hB2
  rw [pt,x4] at hB3
  have E1:((A.1.2.2.1.drop 0).take 2)=[7,9]:=by rw [zm];exact hA1.eq
  have E2:((B.1.2.2.1.drop 0).take 2)=[7,9]:=by rw [zm];exact hB1.eq
  have E3:((B.2.1.2.2.1.drop 0).take (nP c.K))=paK c.K [7,9]:=by rw [zm,← pl];exact hB2.eq
  have E4:B.2.2.2.2.2.1.take (dcZ c.F c.K.t 2 c.K.D [6,9] (((paK c.K [7,9]).drop 0).take (nP c.K))).length=[10]:=by rw [eZ];exact hB3.eq
  have a1:2≤A.1.2.2.2:=hA1.cap
  have a2:=hA1.len
  have b1:2≤B.1.2.2.2:=hB1.cap
  have b2:=hB1.len
  have b3:(paK c.K [7,9]).length≤B.2.1.2.2.2:=hB2.cap
  have b4:=hB2.len
  have b5:1≤B.2.2.2.2.2.2:=hB3.cap
  have b6:=hB3.len
  exact ⟨by show (dcZ c.F c.K.t 2 c.K.D [6,9] (((paK c.K [7,9]).drop 0).take (nP c.K))).length≤B.2.2.2.2.2.1.length;omega,by show 1≤1;decide,by show (dcZ c.F c.K.t 2 c.K.D [6,9] (((paK c.K [7,9]).drop 0).take (nP c.K))).length<140737488355000;omega,fun h0=>(by have h1:1=0:=(hB3.nil h0).1;omega),nofun⟩)
 all_goals try (
  rename_i y hy v hv b0 s hs w1 A hA w2 B hB w3 e1 w4 e2 w5 e3
  change Os×Os at A
  change Os×Os×Oq at B
  have hA1:Ow [7,9] A.1:=hA.2.2.1
  have hB1:Ow (tnD c.K.D [6,9] (dcZ c.F c.K.t 2 c.K.D [6,9] (((paK c.K [7,9]).drop 0).take (nP c.K)))) B.1:=hB.2.2.2.1.1
  have hB2:Ow (tnP c.K.D (mkR c.K.D (((paK c.K [7,9]).drop 0).take (nP c.K))) (dcZ c.F c.K.t 2 c.K.D [6,9] (((paK c.K [7,9]).drop 0).take (nP c.K)))) B.2.1:=hB.2.2.2.1.2
  have hB3:Oqw (dcZ c.F c.K.t 2 c.K.D [6,9] (((paK c.K [7,9]).drop 0).take (nP c.K))) B.2.2:=hB.2.2.2.2
  have eZ:(dcZ c.F c.K.t 2 c.K.D [6,9] (((paK c.K [7,9]).drop 0).take (nP c.K))).length=1:=by rw [pt,x4];rfl
  rw [pt,x4,x5] at hB1
  rw [pt,x4,x6] at hB2
  rw [pt,x4] at hB3
  have E1:((A.1.2.2.1.drop 0).take 2)=[7,9]:=by rw [zm];exact hA1.eq
  have E2:((B.1.2.2.1.drop 0).take 2)=[7,9]:=by rw [zm];exact hB1.eq
  have E3:((B.2.1.2.2.1.drop 0).take (nP c.K))=paK c.K [7,9]:=by rw [zm,← pl];exact hB2.eq
  have E4:B.2.2.2.2.2.1.take (dcZ c.F c.K.t 2 c.K.D [6,9] (((paK c.K [7,9]).drop 0).take (nP c.K))).length=[10]:=by rw [eZ];exact hB3.eq
  have a1:2≤A.1.2.2.2:=hA1.cap
  have a2:=hA1.len
  have b1:2≤B.1.2.2.2:=hB1.cap
  have b2:=hB1.len
  have b3:(paK c.K [7,9]).length≤B.2.1.2.2.2:=hB2.cap
  have b4:=hB2.len
  have b5:1≤B.2.2.2.2.2.2:=hB3.cap
  have b6:=hB3.len
  have e3:ieq (B.2.2.2.2.2.1.take (dcZ c.F c.K.t 2 c.K.D [6,9] (((paK c.K [7,9]).drop 0).take (nP c.K))).length) [10]=false:=e3
  rw [E4,ieq_yes rfl] at e3
  cases e3)
 all_goals (
  rename_i y hy v hv b0 s hs w1 A hA w2 B hB w3 e1 w4 e2 w5
  change Os×Os at A
  change Os×Os×Oq at B
  have hA1:Ow [7,9] A.1:=hA.2.2.1
  have hB1:Ow (tnD c.K.D [6,9] (dcZ c.F c.K.t 2 c.K.D [6,9] (((paK c.K [7,9]).drop 0).take (nP c.K)))) B.1:=hB.2.2.2.1.1
  have hB2:Ow (tnP c.K.D (mkR c.K.D (((paK c.K [7,9]).drop 0).take (nP c.K))) (dcZ c.F c.K.t 2 c.K.D [6,9] (((paK c.K [7,9]).drop 0).take (nP c.K)))) B.2.1:=hB.2.2.2.1.2
  have hB3:Oqw (dcZ c.F c.K.t 2 c.K.D [6,9] (((paK c.K [7,9]).drop 0).take (nP c.K))) B.2.2:=hB.2.2.2.2
  have eZ:(dcZ c.F c.K.t 2 c.K.D [6,9] (((paK c.K [7,9]).drop 0).take (nP c.K))).length=1:=by rw [pt,x4];rfl
  rw [pt,x4,x5] at hB1
  rw [pt,x4,x6] at hB2
  rw [pt,x4] at hB3
  have E1:((A.1.2.2.1.drop 0).take 2)=[7,9]:=by rw [zm];exact hA1.eq
  have E2:((B.1.2.2.1.drop 0).take 2)=[7,9]:=by rw [zm];exact hB1.eq
  have E3:((B.2.1.2.2.1.drop 0).take (nP c.K))=paK c.K [7,9]:=by rw [zm,← pl];exact hB2.eq
  have E4:B.2.2.2.2.2.1.take (dcZ c.F c.K.t 2 c.K.D [6,9] (((paK c.K [7,9]).drop 0).take (nP c.K))).length=[10]:=by rw [eZ];exact hB3.eq
  have a1:2≤A.1.2.2.2:=hA1.cap
  have a2:=hA1.len
  have b1:2≤B.1.2.2.2:=hB1.cap
  have b2:=hB1.len
  have b3:(paK c.K [7,9]).length≤B.2.1.2.2.2:=hB2.cap
  have b4:=hB2.len
  have b5:1≤B.2.2.2.2.2.2:=hB3.cap
  have b6:=hB3.len
  show ieq (B.2.2.2.2.2.1.take (dcZ c.F c.K.t 2 c.K.D [6,9] (((paK c.K [7,9]).drop 0).take (nP c.K))).length) [10]=true
  rw [E4];exact ieq_yes rfl)
end
end Go.Vx
namespace Go.Vx
open Go Go.Proofs
noncomputable section
variable [Gl]
def pcFirst:Pc Tryz.prog C0 where
 tg:=.fn 9
 X:=Unit
 args _:=[]
 mem _:=[]
 pre _:=True
 res _:=.bool .t
 mat vs m:=match vs with
  | []=>some ((),[])
  | _=>none
 ok _ _:=first_ok
def fcMade (c:Cd) (n':Nat) (m t n:Int) (h:Does (C:=C0) Tryz.prog (.fn 10) [] [.int .i64 m,.int .i64 t,.int .i64 n] [⟨MdY,MdOK c.K,mdR c.K n',mdL c.K n'⟩]):Fc Tryz.prog C0 where
 tg:=.fn 10
 X:=Unit
 args _:=[.int .i64 m,.int .i64 t,.int .i64 n]
 mem _:=[]
 pre _:=True
 alts _:=[⟨MdY,MdOK c.K,mdR c.K n',mdL c.K n'⟩]
 mat vs m:=match vs with
  | [_,_,_]=>some ((),[])
  | _=>none
 ok _ _:=h
section
variable (c:Cd) (n':Nat) (hn:1≤n'∧n'≤12∧8*n'+c.K.D≤nF c.F) (m t n:Int) (hM:Does (C:=C0) Tryz.prog (.fn 10) [] [.int .i64 m,.int .i64 t,.int .i64 n] [⟨MdY,MdOK c.K,mdR c.K n',mdL c.K n'⟩])
 (o:Bool) (b q:Nat) (l:List Int) (nn cc:Nat) (h:nn≤l.length) (ho:o=false→nn=0∧cc=0) (o2:Bool) (b2 q2:Nat) (l2:List Int) (nn2 cc2:Nat) (h2:nn2≤l2.length) (ho2:o2=false→nn2=0∧cc2=0) (bl:Byt8 (l.take nn)) (bl2:Byt8 (l2.take nn2)) (M:Nat) (hM8:M<256)
include hn hM h ho h2 ho2 bl bl2 hM8
end
end
end Go.Vx
namespace Go.Vx
open Go Go.Proofs
noncomputable section
variable [Gl]
def isRows (c:Ck C0):Prop:=∃ t l,c.cells=.rows t l
theorem rows_ad {ad ad':Nat→Ad} {w:World} {c:Ck C0} (h:isRows c) (hk:Ck.ok ad w c):Ck.ok ad' w c:=by
 obtain ⟨t,l,h⟩:=h
 unfold Ck.ok at hk ⊢
 simp only [h] at hk ⊢
 refine ⟨hk.1,fun i hi f hf => ?_⟩
 rw [hk.2 i hi f hf]
 have e:=congrArg (fun z=>z[f]?) ((C0 t).flat (l.getD i (C0 t).dflt) ad ad')
 have hl:f<((C0 t).enc (l.getD i (C0 t).dflt)).length:=by rw [(C0 t).len];exact hf
 simp only [zf,zt hl,yr,Option.some.injEq] at e
 simp only [zy (l:=(C0 t).enc _),zt hl,ym]
 rw [e]
def pre2 (v:SV):Prop:=∀ ad ad':Nat→Ad,ad 2=ad' 2→SV.va ad v=SV.va ad' v
theorem cell_ad {ad ad':Nat→Ad} {w:World} {a:Addr} {v:SV} (h:pre2 v) (e:ad 2=ad' 2) (hc:cellIs ad w a v):cellIs ad' w a v:=by
 have h:=h ad ad' e
 cases v with
 | junk=>exact hc
 | _=>show w.cell? a=some _;rw [← h];exact hc
section
variable (b q:Nat) (pre:List SV) (tv:Nat→Value) (ys:List (Rw Int)) (c1 c2:Ck C0) (M2:List (Ck C0))
abbrev tlM:List (Ck C0):=⟨b,q,263,false,none,.one pre⟩ :: c1 :: c2 :: ⟨b,q+7,1,false,none,.rows 22 ys⟩ :: M2
abbrev tlG:List (Ck C0):=⟨b,q,263,false,none,.one (pre ++ tvC tv)⟩ :: c1 :: c2 :: ⟨0,0,1,false,some false,.rows 22 ys⟩ :: M2
variable {b q pre tv ys c1 c2 M2}
structure TlOK (pre:List SV) (tv:Nat→Value) (ys:List (Rw Int)) (c1 c2:Ck C0) (M2:List (Ck C0)):Prop where
 len:pre.length=7
 pr:∀ v∈pre,pre2 v
 yl:ys.length=256
 val:∀ k,k<256→tv k=(ys.getD k Rw.nil).val
 r1:isRows c1∧c1.wr=false
 r2:isRows c2∧c2.wr=false
 rM:∀ c∈M2,isRows c∧c.wr=false
variable (H:TlOK pre tv ys c1 c2 M2)
include H
theorem tlG_ro {c:Ck C0} (h:c∈tlG b q pre tv ys c1 c2 M2):c.wr=false:=by
 simp only [vm] at h
 rcases h with rfl | rfl | rfl | rfl | h
 · rfl
 · exact H.r1.2
 · exact H.r2.2
 · rfl
 · exact (H.rM c h).2
theorem tlM_ro {c:Ck C0} (h:c∈tlM b q pre ys c1 c2 M2):c.wr=false:=by
 simp only [vm] at h
 rcases h with rfl | rfl | rfl | rfl | h
 · rfl
 · exact H.r1.2
 · exact H.r2.2
 · rfl
 · exact (H.rM c h).2
omit H in
theorem noWr_of:∀ {m:List (Ck C0)},(∀ c∈m,c.wr=false)→noWr m=true
 | [],_=>rfl
 | c :: m,h=>by
   unfold noWr
   rw [h c (xp ..),noWr_of fun c hc=>h c (yw _ hc)];rfl
theorem tl_noM {k:Nat}:¬ (wrS (tlM b q pre ys c1 c2 M2)).set k:=by
 rintro ⟨c,hc,hw,_⟩
 rw [tlM_ro H hc] at hw;cases hw
theorem tl_noG {k:Nat}:¬ (wrS (tlG b q pre tv ys c1 c2 M2)).set k:=by
 rintro ⟨c,hc,hw,_⟩
 rw [tlG_ro H hc] at hw;cases hw
omit H in
theorem tl_has {c:Ck C0} {t:Nat} {x:(C0 t).α} (hc:c∈tlM b q pre ys c1 c2 M2) (hx:c.cells.Has t x):∃ c'∈tlG b q pre tv ys c1 c2 M2,c'.cells.Has t x:=by
 simp only [vm] at hc
 rcases hc with rfl | rfl | rfl | rfl | h
 · rcases hx with ⟨_,h,_⟩ | ⟨_,_,_,h,_⟩ <;> cases h
 · exact ⟨_,.tail _ (.head _),hx⟩
 · exact ⟨_,.tail _ (.tail _ (.head _)),hx⟩
 · exact ⟨_,.tail _ (.tail _ (.tail _ (.head _))),hx⟩
 · exact ⟨c,.tail _ (.tail _ (.tail _ (.tail _ h))),hx⟩
omit H in
theorem tl_has' {c:Ck C0} {t:Nat} {x:(C0 t).α} (hc:c∈tlG b q pre tv ys c1 c2 M2) (hx:c.cells.Has t x):∃ c'∈tlM b q pre ys c1 c2 M2,c'.cells.Has t x:=by
 simp only [vm] at hc
 rcases hc with rfl | rfl | rfl | rfl | h
 · rcases hx with ⟨_,h,_⟩ | ⟨_,_,_,h,_⟩ <;> cases h
 · exact ⟨_,.tail _ (.head _),hx⟩
 · exact ⟨_,.tail _ (.tail _ (.head _)),hx⟩
 · exact ⟨_,.tail _ (.tail _ (.tail _ (.head _))),hx⟩
 · exact ⟨c,.tail _ (.tail _ (.tail _ (.tail _ h))),hx⟩
theorem tl_in {w:World} (hm:MemOK (wrS (tlG b q pre tv ys c1 c2 M2)) w w (tlG b q pre tv ys c1 c2 M2)):MemOK (wrS (tlM b q pre ys c1 c2 M2)) w w (tlM b q pre ys c1 c2 M2):=by
 have hA:Ck.ok (ads (tlG b q pre tv ys c1 c2 M2)) w ⟨b,q,263,false,none,.one (pre ++ tvC tv)⟩:=hm.ok _ (.head _) rfl
 have hlA:b<w.heap.size:=hm.lt _ (.head _) rfl
 refine memRo (noWr_of fun c hc=>tlM_ro H hc) (fun c hc ho => ?_) (fun c hc ho => ?_) ⟨fun g v hv => ?_,fun g p hp => ?_,fun p hp=>(by cases hp),vk,fun c hc t x hx => ?_⟩
 · simp only [vm] at hc
   rcases hc with rfl | rfl | rfl | rfl | hc
   · refine ⟨.inl (by rw [H.len];show 7≤263;decide),fun f hf => ?_⟩
     have h1:=hA.2 f (by rw [zx];omega)
     have e:(pre ++ tvC tv).getD f .junk=pre.getD f .junk:=by simp only [zy,yx hf]
     rw [e] at h1
     exact cell_ad (ad:=ads (tlG b q pre tv ys c1 c2 M2)) (ad':=ads (tlM b q pre ys c1 c2 M2)) (H.pr _ (getD_mem hf)) rfl h1
   · exact rows_ad H.r1.1 (hm.ok _ (.tail _ (.head _)) ho)
   · exact rows_ad H.r2.1 (hm.ok _ (.tail _ (.tail _ (.head _))) ho)
   · refine ⟨rfl,fun i hi f hf => ?_⟩
     have hf:f<1:=hf
     obtain rfl:f=0:=by omega
     have hi:i<ys.length:=hi
     rw [H.yl] at hi
     have h1:=hA.2 (7+i) (by rw [zx,H.len];simp only [zn,um];omega)
     have e:(pre ++ tvC tv).getD (7+i) .junk=.val (tv i):=by
      simp only [zy,List.getElem?_append_right (show pre.length≤7+i by rw [H.len];omega),H.len,zf,xh (show 7+i - 7<256 by omega),yr,ym]
      rw [show 7+i - 7=i by omega]
     rw [e] at h1
     have h2:w.cell? ⟨b,q+(0*263+(7+i)),none⟩=some (tv i):=h1
     rw [H.val i hi] at h2
     have e3:q+(0*263+(7+i))=q+7+(i*1+0):=by omega
     rw [e3] at h2
     show w.cell? ⟨b,q+7+(i*1+0),none⟩=some (((ys.getD i Rw.nil).sv).va _)
     rw [Rw.sv_va]
     exact h2
   · exact rows_ad (H.rM c hc).1 (hm.ok c (.tail _ (.tail _ (.tail _ (.tail _ hc)))) ho)
 · simp only [vm] at hc
   rcases hc with rfl | rfl | rfl | rfl | hc
   · exact hlA
   · exact hm.lt _ (.tail _ (.head _)) ho
   · exact hm.lt _ (.tail _ (.tail _ (.head _))) ho
   · exact hlA
   · exact hm.lt c (.tail _ (.tail _ (.tail _ (.tail _ hc)))) ho
 · obtain ⟨h1,h2,_⟩:=hm.more.gv g v hv
   exact ⟨h1,h2,tl_noM H⟩
 · obtain ⟨h1,h2,_⟩:=hm.more.gp g p hp
   exact ⟨h1,h2,tl_noM H⟩
 · obtain ⟨c',hc',hx'⟩:=tl_has (tv:=tv) hc hx
   obtain ⟨g1,g2⟩:=hm.more.deep c' hc' t x hx'
   refine ⟨g1,fun B hB => ?_⟩
   have hb:=g2 B hB
   refine ⟨hb.lt,fun _=>.inr ⟨?_,c,hc,t,x,hx,hB⟩,fun d hd hw => ?_,fun p hp=>by cases hp⟩
   · rw [tlM_ro H hc,Bool.and_false]
   · rw [tlM_ro H hd] at hw;cases hw
theorem tl_out {w w1:World} {new:List (Ck C0)} (hn:∀ c∈new,isRows c) (hm:MemOK (wrS (tlG b q pre tv ys c1 c2 M2)) w w (tlG b q pre tv ys c1 c2 M2))
 (h1:MemOK (wrS (tlM b q pre ys c1 c2 M2)) w w1 (tlM b q pre ys c1 c2 M2 ++ new)):MemOK (wrS (tlG b q pre tv ys c1 c2 M2)) w w1 (tlG b q pre tv ys c1 c2 M2 ++ new):=by
 have hsame:∀ k,k<w.heap.size→w1.heap[k]? = w.heap[k]? := fun k hk=>h1.keep k hk (tl_noM H)
 have hlA:b<w.heap.size:=hm.lt _ (.head _) rfl
 have hA:Ck.ok (ads (tlG b q pre tv ys c1 c2 M2)) w ⟨b,q,263,false,none,.one (pre ++ tvC tv)⟩:=hm.ok _ (.head _) rfl
 have hin:∀ {c:Ck C0},c∈tlG b q pre tv ys c1 c2 M2 ++ new→c=⟨b,q,263,false,none,.one (pre ++ tvC tv)⟩∨c=⟨0,0,1,false,some false,.rows 22 ys⟩∨(c∈tlM b q pre ys c1 c2 M2 ++ new∧isRows c):=fun {c} hc=>by
  rcases List.mem_append.1 hc with hc | hc
  · simp only [vm] at hc
    rcases hc with rfl | rfl | rfl | rfl | hc
    · exact .inl rfl
    · exact .inr (.inr ⟨.tail _ (.head _),H.r1.1⟩)
    · exact .inr (.inr ⟨.tail _ (.tail _ (.head _)),H.r2.1⟩)
    · exact .inr (.inl rfl)
    · exact .inr (.inr ⟨.tail _ (.tail _ (.tail _ (.tail _ (uq _ hc)))),(H.rM c hc).1⟩)
  · exact .inr (.inr ⟨ud _ hc,hn c hc⟩)
 have hwn:∀ {c:Ck C0},c∈tlG b q pre tv ys c1 c2 M2 ++ new→c.wr=true→c∈new:=fun {c} hc hw=>by
  rcases List.mem_append.1 hc with hc | hc
  · rw [tlG_ro H hc] at hw;cases hw
  · exact hc
 have hnth:∀ k,k≠0→k≠3→nth (tlG b q pre tv ys c1 c2 M2 ++ new) k=nth (tlM b q pre ys c1 c2 M2 ++ new) k:=fun k h0 h3=>by
  rcases k with _ | _ | _ | _ | k
  · exact absurd rfl h0
  · rfl
  · rfl
  · exact absurd rfl h3
  · rfl
 refine ⟨h1.os,h1.tape,h1.output,h1.size,fun k hk _=>hsame k hk,fun c hc hw ho hb => ?_,fun c hc ho => ?_,fun c hc hw hl a ha => ?_,fun i j hi hj hij hw hl hl2 => ?_,fun c hc ho => ?_,⟨fun g v hv => ?_,fun g p hp => ?_,fun p hp=>(by cases hp),vk,fun c hc t x hx => ?_⟩⟩
 · exact absurd (h1.inS c (ud _ (hwn hc hw)) hw ho hb) (tl_noM H)
 · rcases hin hc with rfl | rfl | ⟨hc,hr⟩
   · refine ⟨hA.1,fun f hf => ?_⟩
     have h2:=hA.2 f hf
     have hh:w1.heap[b]? = w.heap[b]? := hsame b hlA
     have hcell:∀ a:Addr,a.block=b→w1.cell? a=w.cell? a:=fun a ha=>World.cell?_of_block (w:=w) (by rw [ha];exact hh)
     have hv:pre2 ((pre ++ tvC tv).getD f .junk):=by
      rcases List.mem_append.1 (getD_mem (d:=SV.junk) hf) with hv | hv
      · exact H.pr _ hv
      · obtain ⟨k,_,e⟩:=List.mem_map.1 hv
        rw [← e]
        exact fun _ _ _=>rfl
     have h3:=cell_ad (ad:=ads (tlG b q pre tv ys c1 c2 M2)) (ad':=ads (tlG b q pre tv ys c1 c2 M2 ++ new)) (w:=w) hv rfl h2
     revert h3
     generalize (pre ++ tvC tv).getD f .junk=v
     intro h3
     have e:=hcell (Ad.at ⟨b,q,263,true⟩ 0 f) rfl
     cases v with
     | junk=>
       obtain ⟨u,hu⟩:=h3
       exact ⟨u,e.trans hu⟩
     | _=>exact e.trans h3
   · cases ho
   · exact rows_ad hr (h1.ok c hc ho)
 · exact h1.wrok c (ud _ (hwn hc hw)) hw hl a ha
 · have hi0:i≠0:=by rintro rfl;cases hw
   have hi3:i≠3:=by rintro rfl;cases hw
   have hj3:j≠3:=by rintro rfl;cases hl2
   have el:(tlG b q pre tv ys c1 c2 M2 ++ new).length=(tlM b q pre ys c1 c2 M2 ++ new).length:=by simp
   rw [el] at hi hj
   rw [hnth i hi0 hi3] at hw hl ⊢
   by_cases hj0:j=0
   · subst hj0
     exact h1.apart i 0 hi hj hij hw hl rfl
   · rw [hnth j hj0 hj3] at hl2 ⊢
     exact h1.apart i j hi hj hij hw hl hl2
 · rcases hin hc with rfl | rfl | ⟨hc,_⟩
   · exact zk hlA h1.size
   · cases ho
   · exact h1.lt c hc ho
 · obtain ⟨g1,g2,_⟩:=h1.more.gv g v hv
   exact ⟨g1,g2,tl_noG H⟩
 · obtain ⟨g1,g2,_⟩:=h1.more.gp g p hp
   exact ⟨g1,g2,tl_noG H⟩
 · have hx':∃ c'∈tlM b q pre ys c1 c2 M2 ++ new,c'.cells.Has t x∧(c.wr=c'.wr):=by
    rcases List.mem_append.1 hc with hc | hc
    · obtain ⟨c',hc',hx'⟩:=tl_has' hc hx
      exact ⟨c',uq _ hc',hx',by rw [tlG_ro H hc,tlM_ro H hc']⟩
    · exact ⟨c,ud _ hc,hx,rfl⟩
   obtain ⟨c',hc',hx',hw⟩:=hx'
   obtain ⟨g1,g2⟩:=h1.more.deep c' hc' t x hx'
   refine ⟨g1,fun B hB => ?_⟩
   have hb:=g2 B hB
   refine ⟨hb.lt,fun hlt => ?_,fun d hd hwd hld=>hb.no d (ud _ (hwn hd hwd)) hwd hld,fun p hp=>by cases hp⟩
   rcases hb.old hlt with h2 | ⟨h2,c3,h3,t3,x3,h4,h5⟩
   · exact absurd h2 (tl_noM H)
   · obtain ⟨c4,h6,h7⟩:=tl_has (tv:=tv) h3 h4
     exact .inr ⟨by rw [hw];exact h2,c4,h6,t3,x3,h7,h5⟩
end
theorem tail_tells {P:Program} {tg:Tg} {b q:Nat} {pre:List SV} {tv:Nat→Value} {ys:List (Rw Int)} {c1 c2:Ck C0} {M2:List (Ck C0)} (H:TlOK pre tv ys c1 c2 M2) {args:List SV} {res:SV}
 (hargs:SV.vas (ads (tlG b q pre tv ys c1 c2 M2)) args=SV.vas (ads (tlM b q pre ys c1 c2 M2)) args) (hres:SV.va (ads (tlG b q pre tv ys c1 c2 M2)) res=SV.va (ads (tlM b q pre ys c1 c2 M2)) res)
 (h:Tells P tg (tlM b q pre ys c1 c2 M2) args res):Tells P tg (tlG b q pre tv ys c1 c2 M2) args res:=by
 intro w hm
 obtain ⟨f,vals,hr,hc⟩:=h w (tl_in H hm)
 refine ⟨f,vals,by rw [hargs];exact hr,hc.mono ?_⟩
 rintro e w' ⟨r,m',rfl,hm',hE,rfl,rfl⟩
 have h2:=tl_out (new:=[]) H (fun c hc=>nomatch hc) hm (by rw [wx];exact hm')
 rw [wx] at h2
 exact ⟨r,_,by rw [hres],h2,⟨zw _,fun k _=>⟨rfl,rfl,rfl,rfl,rfl⟩,fun k h3 h4=>by omega⟩,rfl,rfl⟩
theorem tail_does {P:Program} {tg:Tg} {b q:Nat} {pre:List SV} {tv:Nat→Value} {ys:List (Rw Int)} {c1 c2:Ck C0} {M2:List (Ck C0)} (H:TlOK pre tv ys c1 c2 M2) {args:List SV} {res:SV} {Y:Type} {post:Y→Prop} {nw:Y→Ck C0} (hnw:∀ y,isRows (nw y)∧(nw y).wr=true)
 (hargs:SV.vas (ads (tlG b q pre tv ys c1 c2 M2)) args=SV.vas (ads (tlM b q pre ys c1 c2 M2)) args) (hres:∀ y,SV.va (ads (tlG b q pre tv ys c1 c2 M2 ++ [nw y])) res=SV.va (ads (tlM b q pre ys c1 c2 M2 ++ [nw y])) res)
 (h:Does P tg (tlM b q pre ys c1 c2 M2) args [⟨Y,post,fun _=>res,fun y=>tlM b q pre ys c1 c2 M2 ++ [nw y]⟩]):Does P tg (tlG b q pre tv ys c1 c2 M2) args [⟨Y,post,fun _=>res,fun y=>tlG b q pre tv ys c1 c2 M2 ++ [nw y]⟩]:=by
 intro w hm
 obtain ⟨f,vals,hr,hc⟩:=h w (tl_in H hm)
 refine ⟨f,vals,by rw [hargs];exact hr,hc.mono ?_⟩
 rintro e w' ⟨r,m',rfl,hm',hE,A,hA,y,hp,hr',hm2⟩
 obtain rfl:=List.mem_singleton.1 hA
 obtain rfl:r=res:=hr'
 obtain rfl:m'=tlM b q pre ys c1 c2 M2 ++ [nw y]:=hm2
 have h2:=tl_out (new:=[nw y]) H (fun c hc=>by rw [List.mem_singleton.1 hc];exact (hnw y).1) hm hm'
 refine ⟨r,_,by rw [hres y],h2,⟨by rw [zx];omega,fun k hk=>by rw [nth_app,if_pos hk];exact ⟨rfl,rfl,rfl,rfl,rfl⟩,fun k h3 h4 _ => ?_⟩,_,List.mem_singleton.2 rfl,y,hp,rfl,rfl⟩
 have h5:nth (tlG b q pre tv ys c1 c2 M2 ++ [nw y]) k∈[nw y]:=by
  rw [zx] at h4
  have h4:k<(tlG b q pre tv ys c1 c2 M2).length+1:=h4
  obtain rfl:k=(tlG b q pre tv ys c1 c2 M2).length:=by omega
  rw [nth_app,if_neg (Nat.lt_irrefl _),qo]
  exact .head _
 rw [List.mem_singleton.1 h5]
 exact (hnw y).2
end
end Go.Vx
namespace Go.Vx
open Go Go.Proofs
noncomputable section
variable [Gl]
section
variable {F:Gf} (K:Kd F)
abbrev prC (n cL:Nat):List SV:=[.junk,.junk,.int .i64 (n:Int),.int .i64 (K.D:Int),.int .i64 (nP K:Int),.junk,.sl 2 0 (nP K) cL]
theorem prC_ok (n cL:Nat):∀ v∈prC K n cL,pre2 v:=by
 intro v hv ad ad' e
 simp only [prC,vm,List.not_mem_nil,or_false] at hv
 rcases hv with rfl | rfl | rfl | rfl | rfl | rfl | rfl <;> first | rfl | (simp only [SV.va];rw [e])
structure TbIn (rest:List SV) (TB:List (Rw Int)):Prop where
 len:TB.length=256
 val:∃ tv,rest=tvC tv∧∀ k,k<256→tv k=(TB.getD k Rw.nil).val
theorem TbIn.of {tv:Nat→Value} {ys:List (Rw Int)} (h:TvOK K 256 tv ys):TbIn (tvC tv) ys∧TbOK K ys:=
 ⟨⟨h.len,tv,rfl,h.val⟩,⟨Nat.le_of_eq h.len.symm,h.on,h.row⟩⟩
def pcRightG:Pc Tryz.prog C0 where
 tg:=.fn 26
 X:=DxY×Sl3×List SV
 args:=fun ((n,b,q,cL,bd,qd,od,ld,i0,cd,bL,qL,oL,lo,TB),(o2,b2,q2,l2,i2,n2,c2),rest)=>[.ptr 0 0 0,.sl 1 i0 n cd,.sl 4 i2 n2 c2]
 mem:=fun ((n,b,q,cL,bd,qd,od,ld,i0,cd,bL,qL,oL,lo,TB),(o2,b2,q2,l2,i2,n2,c2),rest)=>[⟨b,q,263,false,none,.one (.junk :: .junk :: .int .i64 (n:Int) :: .int .i64 (K.D:Int) :: .int .i64 (nP K:Int) :: .junk :: .sl 2 0 (nP K) cL :: rest)⟩,⟨bd,qd,1,false,some od,.rows 5 ld⟩,⟨bL,qL,1,false,some oL,.rows 5 lo⟩,⟨0,0,1,false,some false,.rows 22 TB⟩,⟨b2,q2,1,false,some o2,.rows 5 l2⟩]
 pre:=fun (s,(o2,b2,q2,l2,i2,n2,c2),rest)=>(DxY.pre K s∧i2+n2≤l2.length∧(o2=false→n2=0∧c2=0)∧Byt8 ((l2.drop i2).take n2))∧TbIn rest s.2.2.2.2.2.2.2.2.2.2.2.2.2.2
 res:=fun ((n,b,q,cL,bd,qd,od,ld,i0,cd,bL,qL,oL,lo,TB),(o2,b2,q2,l2,i2,n2,c2),rest)=>.bool (.tm (ieq (paK K ((ld.drop i0).take n)) ((l2.drop i2).take n2)))
 mat vs m:=match vs with
  | [.ptr k _ _,.sl s i0 n cd,.sl v i2 n2 c2]=>match nth m k,nth m s,nth m v,nth m (k+3) with
    | ⟨b,q,_,_,_,.one (_ :: _ :: _ :: _ :: _ :: _ :: .sl w _ _ cL :: rest)⟩,⟨bd,qd,_,_,gd,.rows 5 ld⟩,⟨b2,q2,_,_,g2,.rows 5 l2⟩,⟨_,_,_,_,_,.rows 22 TB⟩=>match nth m w with
        | ⟨bL,qL,_,_,g,.rows 5 lo⟩=>some (((n,b,q,cL,bd,qd,onOf gd,ld,i0,cd,bL,qL,onOf g,lo,TB),(onOf g2,b2,q2,l2,i2,n2,c2),rest),[k,s,w,k+3,v])
        | _=>none
    | _,_,_,_=>none
  | _=>none
 ok:=fun ((n,b,q,cL,bd,qd,od,ld,i0,cd,bL,qL,oL,lo,TB),(o2,b2,q2,l2,i2,n2,c2),rest) h=>by
  obtain ⟨⟨h1,h2,h3,h4⟩,hl,tv,rfl,hv⟩:=h
  exact tail_tells (pre:=prC K n cL) (tv:=tv) (ys:=TB) (c1:=⟨bd,qd,1,false,some od,.rows 5 ld⟩) (c2:=⟨bL,qL,1,false,some oL,.rows 5 lo⟩) (M2:=[⟨b2,q2,1,false,some o2,.rows 5 l2⟩])
   ⟨rfl,prC_ok K n cL,hl,hv,⟨⟨_,_,rfl⟩,rfl⟩,⟨⟨_,_,rfl⟩,rfl⟩,fun c hc=>by rw [List.mem_singleton.1 hc];exact ⟨⟨_,_,rfl⟩,rfl⟩⟩ rfl rfl
   (right_ok K n b q cL bd qd od ld i0 cd bL qL oL lo TB o2 b2 q2 l2 i2 n2 c2 h1 h2 h3 h4)
def fcFastG:Fc Tryz.prog C0 where
 tg:=.fn 23
 X:=DxY×List SV
 args:=fun ((n,b,q,cL,bd,qd,od,ld,i0,cd,bL,qL,oL,lo,TB),rest)=>[.ptr 0 0 0,.sl 1 i0 n cd]
 mem:=fun ((n,b,q,cL,bd,qd,od,ld,i0,cd,bL,qL,oL,lo,TB),rest)=>[⟨b,q,263,false,none,.one (.junk :: .junk :: .int .i64 (n:Int) :: .int .i64 (K.D:Int) :: .int .i64 (nP K:Int) :: .junk :: .sl 2 0 (nP K) cL :: rest)⟩,⟨bd,qd,1,false,some od,.rows 5 ld⟩,⟨bL,qL,1,false,some oL,.rows 5 lo⟩,⟨0,0,1,false,some false,.rows 22 TB⟩]
 pre:=fun (s,rest)=>DxY.pre K s∧TbIn rest s.2.2.2.2.2.2.2.2.2.2.2.2.2.2
 alts:=fun ((n,b,q,cL,bd,qd,od,ld,i0,cd,bL,qL,oL,lo,TB),rest)=>[⟨Nat,fun _=>True,fun _=>.tup [.sl 4 0 (nP K) (nP K),.nili],fun y=>[⟨b,q,263,false,none,.one (.junk :: .junk :: .int .i64 (n:Int) :: .int .i64 (K.D:Int) :: .int .i64 (nP K:Int) :: .junk :: .sl 2 0 (nP K) cL :: rest)⟩,⟨bd,qd,1,false,some od,.rows 5 ld⟩,⟨bL,qL,1,false,some oL,.rows 5 lo⟩,⟨0,0,1,false,some false,.rows 22 TB⟩,⟨y,0,1,true,none,.rows 5 (paK K ((ld.drop i0).take n))⟩]⟩]
 mat vs m:=match vs with
  | [.ptr k _ _,.sl s i0 n cd]=>match nth m k,nth m s,nth m (k+3) with
    | ⟨b,q,_,_,_,.one (_ :: _ :: _ :: _ :: _ :: _ :: .sl w _ _ cL :: rest)⟩,⟨bd,qd,_,_,gd,.rows 5 ld⟩,⟨_,_,_,_,_,.rows 22 TB⟩=>match nth m w with
        | ⟨bL,qL,_,_,g,.rows 5 lo⟩=>some (((n,b,q,cL,bd,qd,onOf gd,ld,i0,cd,bL,qL,onOf g,lo,TB),rest),[k,s,w,k+3])
        | _=>none
    | _,_,_=>none
  | _=>none
 ok:=fun ((n,b,q,cL,bd,qd,od,ld,i0,cd,bL,qL,oL,lo,TB),rest) h=>by
  obtain ⟨h1,hl,tv,rfl,hv⟩:=h
  exact tail_does (pre:=prC K n cL) (tv:=tv) (ys:=TB) (c1:=⟨bd,qd,1,false,some od,.rows 5 ld⟩) (c2:=⟨bL,qL,1,false,some oL,.rows 5 lo⟩) (M2:=[]) (nw:=fun y=>⟨y,0,1,true,none,.rows 5 (paK K ((ld.drop i0).take n))⟩)
   ⟨rfl,prC_ok K n cL,hl,hv,⟨⟨_,_,rfl⟩,rfl⟩,⟨⟨_,_,rfl⟩,rfl⟩,fun c hc=>nomatch hc⟩ (fun y=>⟨⟨_,_,rfl⟩,rfl⟩) rfl (fun y=>rfl)
   ((fcFast K).ok (n,b,q,cL,bd,qd,od,ld,i0,cd,bL,qL,oL,lo,TB) h1)
end
end
end Go.Vx
namespace Go.Vx
open Go Go.Proofs Go.Vx.Fd
noncomputable section
variable [Gl]
theorem does_post {P:Program} {tg:Tg} {mem:List (Ck C0)} {args:List SV} {Y:Type} {post post':Y→Prop} {res:Y→SV} {out:Y→List (Ck C0)} (h:Does P tg mem args [⟨Y,post,res,out⟩]) (hp:∀ y,post y→post' y):Does P tg mem args [⟨Y,post',res,out⟩]:=by
 intro w hm
 obtain ⟨f,vals,hr,hc⟩:=h w hm
 refine ⟨f,vals,hr,hc.mono ?_⟩
 rintro e w' ⟨r,m',he,hm',hx,B,hB,y,hy,h1⟩
 obtain rfl:=List.mem_singleton.1 hB
 exact ⟨r,m',he,hm',hx,_,.head _,y,hp y hy,h1⟩
theorem Ow.sl {L:List Int} {y:Os} (h:Ow L y) {n:Nat} (e:L.length=n) (hb:n<1000000000):Sl3.pre (y.1,y.2.1,0,y.2.2.1,0,n,y.2.2.2)∧(y.2.2.1.drop 0).take n=L:=by
 have h1:=h.cap
 have h2:=h.len
 subst e
 exact ⟨⟨by show 0+L.length≤y.2.2.1.length;omega,hb,h.nil⟩,h.eq⟩
theorem plainE:∀ g,g<6→Plain C0 (Gl.A g)
 | 0,_=>⟨0,_,_,List.Mem.head _⟩
 | 1,_=>⟨1,_,_,List.Mem.head _⟩
 | 2,_=>⟨2,_,_,List.Mem.head _⟩
 | 3,_=>⟨3,_,_,List.Mem.head _⟩
 | 4,_=>⟨4,_,_,List.Mem.head _⟩
 | 5,_=>⟨5,_,_,List.Mem.head _⟩
 | n+6,h=>absurd h (by omega)
section
variable {F:Gf} (K:Kd F) (d:Nat) (A B:List Int)
abbrev DcIs:(fcDecode F).X→Prop:=fun (_,(_,_,t',d',g',r),_,(o,b,q,l,i,n,c),(o',b',q',l',i',n',c'))=>(t'=K.t∧d'=d∧g'=K.D∧r=nP K)∧((n=d∧Sl3.pre (o,b,q,l,i,n,c))∧n'=nP K∧Sl3.pre (o',b',q',l',i',n',c'))∧(l.drop i).take n=A∧(l'.drop i').take n'=B
abbrev mdC:Prop:=clnB (dcS F K.t d K.D A B)=true
abbrev mdM:Prop:=clnB (dcS F K.t d K.D A B)=false∧¬ (K.t<dcN F K.t d K.D A B∨(dcL F K.t d K.D A B).length≠dcN F K.t d K.D A B+1)∧(dcZ F K.t d K.D A B).length=dcN F K.t d K.D A B
abbrev mdX:Prop:=clnB (dcS F K.t d K.D A B)=false∧((K.t<dcN F K.t d K.D A B∨(dcL F K.t d K.D A B).length≠dcN F K.t d K.D A B+1)∨(dcZ F K.t d K.D A B).length≠dcN F K.t d K.D A B)
abbrev mdU:List Int:=tnD K.D A (dcZ F K.t d K.D A B)
abbrev mdV:List Int:=tnP K.D (mkR K.D B) (dcZ F K.t d K.D A B)
theorem md_one:mdC K d A B∨mdM K d A B∨mdX K d A B:=by
 unfold mdC mdM mdX
 cases h:clnB (dcS F K.t d K.D A B) with
 | true=>exact .inl rfl
 | false=>
   by_cases h1:(K.t<dcN F K.t d K.D A B∨(dcL F K.t d K.D A B).length≠dcN F K.t d K.D A B+1)
   · exact .inr (.inr ⟨rfl,.inl h1⟩)
   · by_cases h2:(dcZ F K.t d K.D A B).length=dcN F K.t d K.D A B
     · exact .inr (.inl ⟨rfl,h1,h2⟩)
     · exact .inr (.inr ⟨rfl,.inr h2⟩)
structure DcOK:Prop where
 t:K.t≤40
 d1:1≤d
 d2:d<100000
 g2:K.D<100000
 a:Byt8 A
 b:Byt8 B
 la:A.length=d
 lb:B.length=nP K
variable {K d A B}
theorem dc_pre (H:DcOK K d A B) (x:(fcDecode F).X) (h:DcIs K d A B x):(fcDecode F).pre x:=by
 obtain ⟨_,⟨bC,qC,t',d',g',r⟩,_,⟨o,b,q,l,i,n,c⟩,⟨o',b',q',l',i',n',c'⟩⟩:=x
 obtain ⟨⟨rfl,rfl,rfl,rfl⟩,⟨⟨rfl,h1⟩,rfl,h2⟩,h3,h4⟩:=h
 exact ⟨⟨H.t,H.d2,H.g2,rfl,H.d1,K.D1⟩,⟨h1,h2⟩,by rw [h3];exact H.a,by rw [h4];exact H.b⟩
def fcDcC (H:DcOK K d A B) (hC:mdC K d A B) (k:Option Nat):Fc Tryz.prog C0 where
 tg:=(fcDecode F).tg
 X:=(fcDecode F).X
 args:=(fcDecode F).args
 mem:=(fcDecode F).mem
 pre:=DcIs K d A B
 alts:=fun ((bd,qd),(bC,qC,t,d',g,r),(bF,qF,be,qe,bl,ql),(o,b,q,l,i,n,c),(o',b',q',l',i',n',c'))=>[⟨Os×Os,fun y=>Ow A y.1∧Ow (mkR K.D B) y.2,fun y=>.tup [.sl 7 0 d' y.1.2.2.2,.sl 8 0 r y.2.2.2.2,.nils,.nili],fun y=>dcC F bd qd bC qC t d' g r bF qF be qe bl ql ++ [⟨b,q,1,false,some o,.rows 5 l⟩,⟨b',q',1,false,some o',.rows 5 l'⟩,osB true y.1,osB true y.2]⟩]
 mat vs m:=match k with
  | none=>(fcDecode F).mat vs m
  | some k=>match zi m.length k with
    | true=>(fcDecode F).mat vs m
    | false=>none
 ok x h:=by
  have hp:=dc_pre H x h
  obtain ⟨⟨bd,qd⟩,⟨bC,qC,t',d',g',r⟩,⟨bF,qF,be,qe,bl,ql⟩,⟨o,b,q,l,i,n,c⟩,⟨o',b',q',l',i',n',c'⟩⟩:=x
  obtain ⟨⟨rfl,rfl,rfl,rfl⟩,⟨⟨rfl,h1⟩,rfl,h2⟩,h3,h4⟩:=h
  refine does_post (does_pick _ ((fcDecode F).ok _ hp) (dcPC_ok F _ hp ⟨rfl,rfl,by show clnB (dcS F K.t n K.D _ _)=true;rw [h3,h4];exact hC⟩)) fun y hy => ?_
  obtain ⟨_,_,y1,y2⟩:=hy
  rw [h3] at y1
  rw [h4] at y2
  exact ⟨y1,y2⟩
def fcDcM (H:DcOK K d A B) (hM:mdM K d A B) (k:Option Nat):Fc Tryz.prog C0 where
 tg:=(fcDecode F).tg
 X:=(fcDecode F).X
 args:=(fcDecode F).args
 mem:=(fcDecode F).mem
 pre:=DcIs K d A B
 alts:=fun ((bd,qd),(bC,qC,t,d',g,r),(bF,qF,be,qe,bl,ql),(o,b,q,l,i,n,c),(o',b',q',l',i',n',c'))=>[⟨Os×Os×Oq,fun y=>(Ow (mdU K d A B) y.1∧Ow (mdV K d A B) y.2.1)∧Oqw (dcZ F K.t d K.D A B) y.2.2,fun y=>.tup [.sl 7 0 d' y.1.2.2.2,.sl 8 0 r y.2.1.2.2.2,.sl 9 0 (dcZ F K.t d K.D A B).length y.2.2.2.2.2.2,.nili],fun y=>dcC F bd qd bC qC t d' g r bF qF be qe bl ql ++ [⟨b,q,1,false,some o,.rows 5 l⟩,⟨b',q',1,false,some o',.rows 5 l'⟩,osB true y.1,osB true y.2.1,oqC true y.2.2]⟩]
 mat vs m:=match k with
  | none=>(fcDecode F).mat vs m
  | some k=>match zi m.length k with
    | true=>(fcDecode F).mat vs m
    | false=>none
 ok x h:=by
  have hp:=dc_pre H x h
  obtain ⟨⟨bd,qd⟩,⟨bC,qC,t',d',g',r⟩,⟨bF,qF,be,qe,bl,ql⟩,⟨o,b,q,l,i,n,c⟩,⟨o',b',q',l',i',n',c'⟩⟩:=x
  obtain ⟨⟨rfl,rfl,rfl,rfl⟩,⟨⟨rfl,h1⟩,rfl,h2⟩,h3,h4⟩:=h
  have hh:=does_pick _ ((fcDecode F).ok _ hp) (dcPM_ok F _ hp ⟨rfl,rfl,by show clnB (dcS F K.t n K.D _ _)=false;rw [h3,h4];exact hM.1,by show ¬ (K.t<dcN F K.t n K.D _ _∨(dcL F K.t n K.D _ _).length≠dcN F K.t n K.D _ _+1);rw [h3,h4];exact hM.2.1,by show (dcZ F K.t n K.D _ _).length=dcN F K.t n K.D _ _;rw [h3,h4];exact hM.2.2⟩)
  subst h3 h4
  exact does_post hh fun y hy=>⟨hy.2.2.2.1,hy.2.2.2.2⟩
def fcDcX (H:DcOK K d A B) (hX:mdX K d A B):Fc Tryz.prog C0 where
 tg:=(fcDecode F).tg
 X:=(fcDecode F).X
 args:=(fcDecode F).args
 mem:=(fcDecode F).mem
 pre:=DcIs K d A B
 alts:=fun ((bd,qd),(bC,qC,t,d',g,r),(bF,qF,be,qe,bl,ql),(o,b,q,l,i,n,c),(o',b',q',l',i',n',c'))=>[⟨Unit,fun _=>True,fun _=>.tup [.nils,.nils,.nils,eV 1],fun _=>dcC F bd qd bC qC t d' g r bF qF be qe bl ql ++ [⟨b,q,1,false,some o,.rows 5 l⟩,⟨b',q',1,false,some o',.rows 5 l'⟩]⟩]
 mat:=(fcDecode F).mat
 ok x h:=by
  have hp:=dc_pre H x h
  obtain ⟨⟨bd,qd⟩,⟨bC,qC,t',d',g',r⟩,⟨bF,qF,be,qe,bl,ql⟩,⟨o,b,q,l,i,n,c⟩,⟨o',b',q',l',i',n',c'⟩⟩:=x
  obtain ⟨⟨rfl,rfl,rfl,rfl⟩,⟨⟨rfl,h1⟩,rfl,h2⟩,h3,h4⟩:=h
  exact does_post (does_pick _ ((fcDecode F).ok _ hp) (dcPX_ok F _ hp ⟨rfl,rfl,by show clnB (dcS F K.t n K.D _ _)=false;rw [h3,h4];exact hX.1,by show (K.t<dcN F K.t n K.D _ _∨(dcL F K.t n K.D _ _).length≠dcN F K.t n K.D _ _+1)∨(dcZ F K.t n K.D _ _).length≠dcN F K.t n K.D _ _;rw [h3,h4];exact hX.2⟩)) fun _ _=>trivial
structure RtW (K:Kd F) (d:Nat) (U V:List Int):Prop where
 ok:DcOK K d U V
 cl:mdC K d U V
 pa:paK K U=V
 fx:mkR K.D V=V
theorem rt_of (ht:K.t≤40) (h1:1≤d) (h2:d<100000) (h3:K.D<100000) {U V:List Int} (hU:Byt8 U) (hV:Byt8 V) (lU:U.length=d) (lV:V.length=nP K) (hz:∀ k,K.D≤k→bt V k=false) (hw:Wd K.Q (wdB K.D U V) (8*d+K.D)):RtW K d U V:=by
 have hm:=mk_id hV lV hz
 refine ⟨⟨ht,h1,h2,h3,hU,hV,lU,lV⟩,?_,?_,hm⟩
 · show clnB _=true
   rw [clean_word,hm];exact hw
 · rw [← lU] at hw
   exact (pa_of K hw hV lV hz).symm
theorem rt_C (H:DcOK K d A B) (hC:mdC K d A B):RtW K d A (mkR K.D B):=
 rt_of H.t H.d1 H.d2 H.g2 H.a (mkR_byt H.b) H.la (by rw [mkR_len];exact H.lb) (fun k hk=>by rw [mkR_bt H.b H.lb,decide_eq_false (by omega),yf]) ((clean_word K).1 hC)
theorem rt_M (H:DcOK K d A B) (hn:8*d+K.D≤F.N) (hM:mdM K d A B):RtW K d (mdU K d A B) (mdV K d A B):=by
 obtain ⟨_,h1,h2⟩:=hM
 have yB:Byt8 (mkR K.D B):=mkR_byt H.b
 have lB:(mkR K.D B).length=nP K:=by rw [mkR_len];exact H.lb
 have hP:nP K=(K.D+7) / 8:=rfl
 obtain ⟨dz1,dz2⟩:=dcZ_nodup (F:=F) (t:=K.t) (d:=d) (g:=K.D) (D:=A) (R:=B) hn
 obtain ⟨tb1,tb2,tb3,tb4⟩:=tn_bits (g:=K.D) (d:=d) (dcZ F K.t d K.D A B) A (mkR K.D B) H.a yB H.la (by omega) dz1 dz2
 have hW:=dec_right K (d:=d) (g:=K.D) (D:=A) (R:=B) hn (by omega) h2
 exact rt_of H.t H.d1 H.d2 H.g2 tb2 tb3 (by rw [tnD_len];exact H.la) (by rw [tnP_len];exact lB) (fun k hk=>by rw [tb4 k hk,mkR_bt H.b H.lb,decide_eq_false (by omega),yf]) (fun i h3 h4=>by rw [vl_congr tb1];exact hW i h3 h4)
end
end
end Go.Vx
namespace Go.Vx
open Go Go.Proofs Go.Vx.Fd
noncomputable section
variable [Gl]
theorem sub_len:∀ {P Q:List Nat},P.Nodup→(∀ x∈P,x∈Q)→P.length≤Q.length
 | [],Q,_,_=>zg _
 | x :: P,Q,hn,hs=>by
   obtain ⟨n1,n2⟩:=List.nodup_cons.1 hn
   have hx:=hs x (xp ..)
   have h:=sub_len (P:=P) (Q:=Q.erase x) n2 fun y hy=>(List.mem_erase_of_ne fun e=>by rw [e] at hy;exact n1 hy).2 (hs y (yw _ hy))
   rw [List.length_erase_of_mem hx] at h
   have:=List.length_pos_of_mem hx
   rw [List.length_cons]
   omega
theorem wd_ext {g d:Nat} {D R D' R':List Int} (hD:Byt8 D) (hD':Byt8 D') (hR:Byt8 R) (hR':Byt8 R') (l:D.length=d) (l':D'.length=d) (lr:R.length=R'.length) (hw:∀ k,k<8*d+g→wdB g D R k=wdB g D' R' k) (hz:∀ k,g≤k→bt R k=bt R' k):D=D'∧R=R':=by
 constructor
 · refine byt_ext hD hD' (l.trans l'.symm) fun k hk => ?_
   have h:=hw (g+k) (by omega)
   unfold wdB at h
   rw [if_neg (by omega),if_neg (by omega),show g+k - g=k by omega] at h
   exact h
 · refine byt_ext hR hR' lr fun k hk => ?_
   by_cases hg:k<g
   · have h:=hw k (by omega)
     unfold wdB at h
     rw [if_pos hg,if_pos hg] at h
     exact h
   · exact hz k (by omega)
section
variable {F:Gf} (K:Kd F)
def toldL (n:Nat) (S:List Int):List Int:=((xq n).filter fun a=>decide (a∈S.map uh)).map fun a:Nat=>(a:Int)
theorem toldL_nat {n:Nat} {S:List Int}:(toldL n S).map uh=(xq n).filter fun a=>decide (a∈S.map uh):=by
 unfold toldL
 rw [td]
 exact (xm fun a _=>zu a).trans (ni _)
theorem toldL_len {n:Nat} {S:List Int} (hS:(S.map uh).Nodup) (hp:∀ p∈S.map uh,p<n):(toldL n S).length=S.length:=by
 have e:(toldL n S).length=((xq n).filter fun a=>decide (a∈S.map uh)).length:=by unfold toldL;rw [zn]
 rw [e]
 refine Nat.le_antisymm ?_ ?_
 · have:=sub_len (P:=(xq n).filter fun a=>decide (a∈S.map uh)) (Q:=S.map uh) (List.Nodup.sublist qi qh) fun x hx=>ng (List.mem_filter.1 hx).2
   rwa [zn] at this
 · have:=sub_len (P:=S.map uh) (Q:=(xq n).filter fun a=>decide (a∈S.map uh)) hS fun x hx=>List.mem_filter.2 ⟨List.mem_range.2 (hp x hx),decide_eq_true hx⟩
   rwa [zn] at this
variable {d:Nat} {A S:List Int}
end
end
end Go.Vx
namespace Go.Vx
open Go Go.Proofs
noncomputable section
variable [Gl]
theorem xbits_ok (m t:Int) (n:Nat) (o:Bool) (b q:Nat) (l:List Int) (L c:Nat) (D:Nat) (hn:n<1000000) (hD:D<1000000):Tells (C:=C0) Tryz.prog (.fn 24) [⟨b,q,1,false,some o,.rows 5 l⟩] [xcV m t (n:Int) 0 L c (D:Int)] (.int .i64 ((8*n+D:Nat):Int)):=by
 refine loc_pc (P:=Tryz.prog) (E:=⟨[],[],9,[],[],[],none⟩) (L:=[]) mix Tryz.func24 rfl (by kernel_rfl) (by kernel_rfl) rfl rfl ?_
 ((conv=>arg 1;reduce);with_reducible repeat' first | exact ty | refine ta ?_ ?_ | refine ti fun _ => ?_ | refine tf fun _ => ?_ | refine tl ?_)
 all_goals try exact vlf
 all_goals try (refine inR64 ?_ ?_ <;> omega)
 all_goals try (show 8*(n:Int)+(D:Int)=((8*n+D:Nat):Int);omega)
def pcXbits:Pc Tryz.prog C0 where
 tg:=.fn 24
 X:=(Int×Int×Nat)×(Bool×Nat×Nat×List Int×Nat×Nat)×Nat
 args:=fun ((m,t,n),(o,b,q,l,L,c),D)=>[xcV m t (n:Int) 0 L c (D:Int)]
 mem:=fun ((m,t,n),(o,b,q,l,L,c),D)=>[⟨b,q,1,false,some o,.rows 5 l⟩]
 pre:=fun ((m,t,n),(o,b,q,l,L,c),D)=>n<1000000∧D<1000000
 res:=fun ((m,t,n),(o,b,q,l,L,c),D)=>.int .i64 ((8*n+D:Nat):Int)
 mat vs m:=match vs with
  | [.agg [.int _ x,.int _ t,.int _ (n:Nat),.sl s _ L c,.int _ (D:Nat)]]=>match nth m s with
    | ⟨b,q,_,_,g,.rows 5 l⟩=>some (((x,t,n),(onOf g,b,q,l,L,c),D),[s])
    | _=>none
  | _=>none
 ok:=fun ((m,t,n),(o,b,q,l,L,c),D) h=>xbits_ok m t n o b q l L c D h.1 h.2
section
variable {F:Gf} (K:Kd F) (d:Nat)
end
end
end Go.Vx
namespace Go.Vx
open Go Go.Proofs
noncomputable section
variable [Gl]
section
variable (c:Cd) (n':Nat) (hn:1≤n'∧n'≤12∧8*n'+c.K.D≤nF c.F) (m t n:Int) (hM:Does (C:=C0) Tryz.prog (.fn 10) [] [.int .i64 m,.int .i64 t,.int .i64 n] [⟨MdY,MdOK c.K,mdR c.K n',mdL c.K n'⟩])
 (o:Bool) (b q:Nat) (l:List Int) (nn cc:Nat) (h:nn≤l.length) (ho:o=false→nn=0∧cc=0) (bl:Byt8 (l.take nn))
include hn
include hM h ho bl
end
end
end Go.Vx
namespace Go.Vx
open Go Go.Proofs
noncomputable section
variable [Gl]
section
variable {F:Gf} (K:Kd F) (d:Nat)
def ocZ (A B:List Int):List Int:=if clnB (dcS F K.t d K.D A B)=true then [] else dcZ F K.t d K.D A B
theorem ocZ_C {A B:List Int} (h:mdC K d A B):ocZ K d A B=[]:=by unfold ocZ;exact if_pos h
theorem ocZ_M {A B:List Int} (h:mdM K d A B):ocZ K d A B=dcZ F K.t d K.D A B:=by
 unfold ocZ
 exact if_neg fun e=>by rw [h.1] at e;cases e
def fcDeT:Fc Tryz.prog C0 where
 tg:=(fcDecode F).tg
 X:=(fcDecode F).X
 args:=(fcDecode F).args
 mem:=(fcDecode F).mem
 pre:=fun (u,v,x,(o,b,q,l,i,n,c),(o',b',q',l',i',n',c'))=>DcIs K d ((l.drop i).take n) ((l'.drop i').take n') (u,v,x,(o,b,q,l,i,n,c),(o',b',q',l',i',n',c'))∧DcOK K d ((l.drop i).take n) ((l'.drop i').take n')∧(mdC K d ((l.drop i).take n) ((l'.drop i').take n')∨mdM K d ((l.drop i).take n) ((l'.drop i').take n'))
 alts:=fun ((bd,qd),(bC,qC,t,d',g,r),(bF,qF,be,qe,bl,ql),(o,b,q,l,i,n,c),(o',b',q',l',i',n',c'))=>[⟨Os×Os×Oq,fun y=>(Ow (tnD K.D ((l.drop i).take n) (ocZ K d ((l.drop i).take n) ((l'.drop i').take n'))) y.1∧Ow (tnP K.D (mkR K.D ((l'.drop i').take n')) (ocZ K d ((l.drop i).take n) ((l'.drop i').take n'))) y.2.1)∧Oqw (ocZ K d ((l.drop i).take n) ((l'.drop i').take n')) y.2.2,fun y=>.tup [.sl 7 0 d' y.1.2.2.2,.sl 8 0 r y.2.1.2.2.2,.sl 9 0 (ocZ K d ((l.drop i).take n) ((l'.drop i').take n')).length y.2.2.2.2.2.2,.nili],fun y=>dcC F bd qd bC qC t d' g r bF qF be qe bl ql ++ [⟨b,q,1,false,some o,.rows 5 l⟩,⟨b',q',1,false,some o',.rows 5 l'⟩,osB true y.1,osB true y.2.1,oqC true y.2.2]⟩]
 mat:=(fcDecode F).mat
 ok:=fun ((bd,qd),(bC,qC,t,d',g,r),(bF,qF,be,qe,bl,ql),(o,b,q,l,i,n,c),(o',b',q',l',i',n',c')) h=>by
  rcases h.2.2 with hC | hM
  · have hd:=(fcDcC h.2.1 hC none).ok ((bd,qd),(bC,qC,t,d',g,r),(bF,qF,be,qe,bl,ql),(o,b,q,l,i,n,c),(o',b',q',l',i',n',c')) h.1
    intro w hm
    obtain ⟨f,vals,hr,hc⟩:=hd w hm
    refine ⟨f,vals,hr,hc.mono ?_⟩
    rintro e w' ⟨r',m',he,hm',hx,B,hB,y,hy,h1,h2⟩
    obtain rfl:=List.mem_singleton.1 hB
    have hk:memLt m'.length m'=true:=by rw [h2];rfl
    have ho:=(MemOK.offs (o:=[oqC true ((false,0,0,[],0):Oq)]) hm' hk fun x hx=>by
     rw [List.mem_singleton.1 hx]
     exact ⟨rfl,fun t y hy=>(by
      rcases hy with ⟨l,e,hy⟩ | ⟨_,_,_,e,_⟩
      · injection e with e1 e2
        subst e1
        rw [← eq_of_heq e2] at hy
        cases hy
      · cases e),fun n=>rfl⟩).1
    refine ⟨.tup [.sl 7 0 d' y.1.2.2.2,.sl 8 0 r y.2.2.2.2,.sl 9 0 (ocZ K d ((l.drop i).take n) ((l'.drop i').take n')).length 0,.nili],m' ++ [oqC true ((false,0,0,[],0):Oq)],?_,ho,⟨?_,fun k hk => ?_,fun k h3 h4 h5 => ?_⟩,_,.head _,(y.1,y.2,(false,0,0,[],0)),⟨⟨by show Ow (tnD K.D _ (ocZ K d _ _)) _;rw [ocZ_C K d hC,tnD_zero];exact hy.1,by show Ow (tnP K.D _ (ocZ K d _ _)) _;rw [ocZ_C K d hC,tnP_zero];exact hy.2⟩,by show Oqw (ocZ K d _ _) _;rw [ocZ_C K d hC];exact ⟨rfl,zw _,zw _,fun _=>⟨rfl,rfl⟩⟩⟩,rfl,by rw [h2];rfl⟩
    · rw [he,h1,h2,ocZ_C K d hC];rfl
    · exact xl hx.len (by rw [zx];omega)
    · rw [nth_app,if_pos (zk hk hx.len)]
      exact hx.same k hk
    · rw [nth_app] at h5 ⊢
      by_cases hk:k<m'.length
      · rw [if_pos hk] at h5 ⊢
        exact hx.new k h3 hk h5
      · rw [if_neg hk] at h5 ⊢
        rw [zx] at h4
        have h4:k<m'.length+1:=h4
        rw [show k - m'.length=0 by omega];rfl
  · have hd:=(fcDcM h.2.1 hM none).ok ((bd,qd),(bC,qC,t,d',g,r),(bF,qF,be,qe,bl,ql),(o,b,q,l,i,n,c),(o',b',q',l',i',n',c')) h.1
    intro w hm
    obtain ⟨f,vals,hr,hc⟩:=hd w hm
    refine ⟨f,vals,hr,hc.mono ?_⟩
    rintro e w' ⟨r',m',he,hm',hx,B,hB,y,hy,h1,h2⟩
    obtain rfl:=List.mem_singleton.1 hB
    refine ⟨r',m',he,hm',hx,_,.head _,y,⟨⟨by show Ow (tnD K.D _ (ocZ K d _ _)) _;rw [ocZ_M K d hM];exact hy.1.1,by show Ow (tnP K.D _ (ocZ K d _ _)) _;rw [ocZ_M K d hM];exact hy.1.2⟩,by show Oqw (ocZ K d _ _) _;rw [ocZ_M K d hM];exact hy.2⟩,?_,h2⟩
    rw [h1]
    show SV.tup [_,_,.sl 9 0 _ _,_]=SV.tup [_,_,.sl 9 0 (ocZ K d _ _).length _,_]
    rw [ocZ_M K d hM]
end
end
end Go.Vx
namespace Go.Vx
open Go Go.Proofs Go.Vx.Fd
noncomputable section
variable [Gl]
@[irreducible] def cnN (f:Nat→Bool) (n:Nat):Nat:=((xq n).filter f).length
section
variable {f h:Nat→Bool} {n:Nat}
theorem cnN_zero:cnN f 0=0:=by unfold cnN;rfl
theorem cnN_succ:cnN f (n+1)=cnN f n+(f n).toNat:=by
 unfold cnN
 rw [uc,sk,zx]
 congr 1
 cases e:f n
 · rw [rm (by rw [e];exact ve)];rfl
 · rw [rl e];rfl
theorem cnN_congr (e:∀ k,k<n→f k=h k):cnN f n=cnN h n:=by
 unfold cnN
 rw [nr fun k hk=>e k (List.mem_range.1 hk)]
theorem cnN_none (e:∀ k,k<n→f k=false):cnN f n=0:=by
 induction n with
 | zero=>exact cnN_zero
 | succ n ih=>rw [cnN_succ,ih fun k hk=>e k (by omega),e n (by omega)];rfl
theorem cnN_add (a b:Nat):cnN f (a+b)=cnN f a+cnN (fun k=>f (a+k)) b:=by
 induction b with
 | zero=>rw [cnN_zero];rfl
 | succ b ih=>rw [← qy,cnN_succ,cnN_succ,ih,qy]
theorem cnN_le:cnN f n≤n:=by
 unfold cnN
 exact xl (sg ..) (by rw [um];exact zw _)
end
@[irreducible] def dsL (A B:List Int) (n:Nat):Nat:=cnN (fun k=>bt A k ^^ bt B k) n
theorem dsL_zero {A B:List Int}:dsL A B 0=0:=by unfold dsL;exact cnN_zero
theorem dsL_succ {A B:List Int} {n:Nat}:dsL A B (n+1)=dsL A B n+(bt A n ^^ bt B n).toNat:=by unfold dsL;exact cnN_succ
theorem dsL_le {A B:List Int} {n:Nat}:dsL A B n≤n:=by unfold dsL;exact cnN_le
@[irreducible] def dfL (g d:Nat) (A P U V:List Int):List Nat:=(xq (8*d+g)).filter fun k=>wdB g U V k ^^ wdB g A P k
section
variable {g d r:Nat} {A P U V:List Int}
theorem dfL_mem {k:Nat} (hk:k<8*d+g):decide (k∈dfL g d A P U V)=(wdB g U V k ^^ wdB g A P k):=by
 have:(k∈dfL g d A P U V)↔(wdB g U V k ^^ wdB g A P k)=true:=by
  unfold dfL
  exact ⟨fun h=>(List.mem_filter.1 h).2,fun h=>List.mem_filter.2 ⟨List.mem_range.2 hk,h⟩⟩
 cases e:(wdB g U V k ^^ wdB g A P k)
 · exact decide_eq_false (by rw [this,e];exact ve)
 · exact decide_eq_true (this.2 e)
theorem dfL_nodup:(dfL g d A P U V).Nodup:=by unfold dfL;exact List.Nodup.sublist qi qh
theorem dfL_lt {p:Nat} (h:p∈dfL g d A P U V):p<8*d+g:=by unfold dfL at h;exact List.mem_range.1 (List.mem_filter.1 h).1
theorem dfL_le:(dfL g d A P U V).length≤8*d+g:=by
 unfold dfL
 exact xl (sg ..) (by rw [um];exact zw _)
theorem dfL_self:(xq (8*d+g)).filter (fun a=>decide (a∈dfL g d A P U V))=dfL g d A P U V:=by
 rw [nr fun k hk=>dfL_mem (List.mem_range.1 hk)]
 unfold dfL;rfl
theorem ds_df (hP:∀ k,g≤k→bt P k=false) (hV:∀ k,g≤k→bt V k=false) (hg:g≤8*r):dsL U A (8*d)+dsL V P (8*r)=(dfL g d A P U V).length:=by
 have e:(dfL g d A P U V).length=cnN (fun k=>wdB g U V k ^^ wdB g A P k) (8*d+g):=by unfold dfL cnN;rfl
 rw [e,up (8*d) g,cnN_add]
 unfold dsL
 obtain ⟨x,hx⟩:∃ x,8*r=g+x:=⟨8*r - g,by omega⟩
 rw [hx,cnN_add,cnN_none (n:=x) (fun k _=>by rw [hP _ (by omega),hV _ (by omega)];rfl),Nat.add_zero,up]
 congr 1
 · exact cnN_congr fun k hk=>by unfold wdB;rw [if_pos hk,if_pos hk]
 · exact cnN_congr fun k hk=>by unfold wdB;rw [if_neg (by omega),if_neg (by omega),Nat.add_sub_cancel_left]
end
section
variable {F:Gf} (K:Kd F) {d:Nat} {A U V:List Int}
theorem near_few (H:DcOK K d U V) (hA:Byt8 A) (la:A.length=d) (hn:8*d+K.D≤F.N) (hl:(dfL K.D d A (paK K A) U (mkR K.D V)).length≤K.t):(mdC K d U V∨mdM K d U V)∧tnD K.D U (ocZ K d U V)=A:=by
 have W:=pa_right K (D:=A)
 rw [la] at W
 have hP:nP K=(K.D+7) / 8:=rfl
 have yV:Byt8 (mkR K.D V):=mkR_byt H.b
 have lV:(mkR K.D V).length=nP K:=by rw [mkR_len];exact H.lb
 have zV:∀ k,K.D≤k→bt (mkR K.D V) k=false:=fun k hk=>by rw [mkR_bt H.b H.lb,decide_eq_false (by omega),yf]
 obtain ⟨e1,e2,e3,e4⟩:=dec_few K (d:=d) (g:=K.D) (D:=U) (R:=V) (b:=wdB K.D A (paK K A)) (P:=dfL K.D d A (paK K A) U (mkR K.D V)) hn W (fun k hk=>by
  unfold flips
  rw [dfL_mem hk,← qf,Bool.xor_comm _ (wdB K.D U (mkR K.D V) k),qf,pm,vv]) dfL_nodup (fun p hp=>dfL_lt hp) hl
 rw [dfL_self] at e3
 by_cases h0:dfL K.D d A (paK K A) U (mkR K.D V)=[]
 · have hc:mdC K d U V:=e4.2 h0
   refine ⟨.inl hc,?_⟩
   rw [ocZ_C K d hc,tnD_zero]
   refine (wd_ext (g:=K.D) (d:=d) H.a hA yV (paK_byt K A) H.la la (by rw [lV,paK_len]) (fun k hk => ?_) fun k hk=>by rw [zV k hk,pa_out K A k hk]).1
   have:=dfL_mem (A:=A) (P:=paK K A) (U:=U) (V:=mkR K.D V) hk
   rw [h0,decide_eq_false (fun h=>nomatch h)] at this
   cases h1:wdB K.D U (mkR K.D V) k <;> cases h2:wdB K.D A (paK K A) k <;> rw [h1,h2] at this <;> first | rfl | cases this
 · have hm:mdM K d U V:=by
    refine ⟨?_,?_,?_⟩
    · cases hc:clnB (dcS F K.t d K.D U V) with
      | false=>rfl
      | true=>exact absurd (e4.1 hc) h0
    · rw [e1,e2];omega
    · rw [e3,e1,zn]
   refine ⟨.inr hm,?_⟩
   rw [ocZ_M K d hm]
   have ez:(dcZ F K.t d K.D U V).map uh=dfL K.D d A (paK K A) U (mkR K.D V):=by rw [e3,td];exact ni _
   obtain ⟨b1,b2,b3,b4⟩:=tn_bits (g:=K.D) (d:=d) (dcZ F K.t d K.D U V) U (mkR K.D V) H.a yV H.la (by omega) (by rw [ez];exact dfL_nodup) (fun p hp=>by rw [ez] at hp;exact dfL_lt hp)
   refine (wd_ext (g:=K.D) (d:=d) b2 hA b3 (paK_byt K A) (by rw [tnD_len];exact H.la) la (by rw [tnP_len,lV,paK_len]) (fun k hk => ?_) fun k hk=>by rw [b4 k hk,zV k hk,pa_out K A k hk]).1
   rw [b1 k hk,ez]
   unfold flips
   rw [dfL_mem hk,← qf,pm,ow]
theorem far_few (H:DcOK K d U V) (hn:8*d+K.D≤F.N) (h:mdC K d U V∨mdM K d U V):
 (dfL K.D d (tnD K.D U (ocZ K d U V)) (tnP K.D (mkR K.D V) (ocZ K d U V)) U (mkR K.D V)).length=(ocZ K d U V).length∧(ocZ K d U V).length≤K.t∧RtW K d (tnD K.D U (ocZ K d U V)) (tnP K.D (mkR K.D V) (ocZ K d U V)):=by
 have hP:nP K=(K.D+7) / 8:=rfl
 have yV:Byt8 (mkR K.D V):=mkR_byt H.b
 have lV:(mkR K.D V).length=nP K:=by rw [mkR_len];exact H.lb
 rcases h with hC | hM
 · rw [ocZ_C K d hC,tnD_zero,tnP_zero]
   refine ⟨?_,zg _,rt_C H hC⟩
   have:dfL K.D d U (mkR K.D V) U (mkR K.D V)=[]:=by
    unfold dfL
    rw [List.filter_eq_nil_iff]
    intro k _
    rw [pm]
    exact ve
   rw [this];rfl
 · rw [ocZ_M K d hM]
   obtain ⟨z1,z2⟩:=dcZ_nodup (F:=F) (t:=K.t) (d:=d) (g:=K.D) (D:=U) (R:=V) hn
   obtain ⟨b1,b2,b3,b4⟩:=tn_bits (g:=K.D) (d:=d) (dcZ F K.t d K.D U V) U (mkR K.D V) H.a yV H.la (by omega) z1 z2
   refine ⟨?_,by rw [hM.2.2];have:=hM.2.1;omega,rt_M H hn hM⟩
   have e:dfL K.D d (tnD K.D U (dcZ F K.t d K.D U V)) (tnP K.D (mkR K.D V) (dcZ F K.t d K.D U V)) U (mkR K.D V)=(toldL (8*d+K.D) (dcZ F K.t d K.D U V)).map uh:=by
    rw [toldL_nat]
    unfold dfL
    refine nr fun k hk => ?_
    rw [b1 k (List.mem_range.1 hk)]
    unfold flips
    rw [← qf,pm,ow]
   rw [e,zn,toldL_len z1 z2]
theorem mdX_no (h:mdX K d U V):¬ (mdC K d U V∨mdM K d U V):=by
 rintro (hC | hM)
 · have:=h.1;rw [hC] at this;cases this
 · rcases h.2 with h | h
   · exact hM.2.1 h
   · exact h hM.2.2
theorem fpD_byt {g:Nat} {P:List Int} {z:Nat} (h:Byt8 P):Byt8 (fpD g P z):=by unfold fpD;split;exact h;exact flB_byt h
theorem fpP_byt {g:Nat} {P:List Int} {z:Nat} (h:Byt8 P):Byt8 (fpP g P z):=by unfold fpP;split;exact flB_byt h;exact h
theorem DcOK.flip (H:DcOK K d U V) (z:Nat):DcOK K d (fpD K.D U z) (fpP K.D V z):=
 ⟨H.t,H.d1,H.d2,H.g2,fpD_byt H.a,fpP_byt H.b,by rw [fpD_len];exact H.la,by rw [fpP_len];exact H.lb⟩
end
end
end Go.Vx
namespace Go.Vx
open Go Go.Proofs
noncomputable section
variable [Gl]
theorem does_alt {P:Program} {tg:Tg} {mem:List (Ck C0)} {args:List SV} {Y:Type} {post post':Y→Prop} {res:Y→SV} {out:Y→List (Ck C0)} {alts:List (Alt C0)} (h:Does P tg mem args [⟨Y,post,res,out⟩]) (hp:∀ y,post y→post' y) (hm:⟨Y,post',res,out⟩∈alts):Does P tg mem args alts:=by
 intro w hw
 obtain ⟨f,vals,hr,hc⟩:=h w hw
 refine ⟨f,vals,hr,hc.mono ?_⟩
 rintro e w' ⟨r,m',he,hm',hx,B,hB,y,hy,h1⟩
 obtain rfl:=List.mem_singleton.1 hB
 exact ⟨r,m',he,hm',hx,_,hm,y,hp y hy,h1⟩
section
variable {F:Gf} (K:Kd F) (d:Nat)
def fcDeN:Fc Tryz.prog C0 where
 tg:=(fcDecode F).tg
 X:=(fcDecode F).X
 args:=(fcDecode F).args
 mem:=(fcDecode F).mem
 pre:=fun (u,v,x,(o,b,q,l,i,n,c),(o',b',q',l',i',n',c'))=>DcIs K d ((l.drop i).take n) ((l'.drop i').take n') (u,v,x,(o,b,q,l,i,n,c),(o',b',q',l',i',n',c'))∧DcOK K d ((l.drop i).take n) ((l'.drop i').take n')
 alts:=fun ((bd,qd),(bC,qC,t,d',g,r),(bF,qF,be,qe,bl,ql),(o,b,q,l,i,n,c),(o',b',q',l',i',n',c'))=>
  [⟨Unit,fun _=>mdX K d ((l.drop i).take n) ((l'.drop i').take n'),fun _=>.tup [.nils,.nils,.nils,eV 1],fun _=>dcC F bd qd bC qC t d' g r bF qF be qe bl ql ++ [⟨b,q,1,false,some o,.rows 5 l⟩,⟨b',q',1,false,some o',.rows 5 l'⟩]⟩,
   ⟨Os×Os×Oq,fun y=>(mdC K d ((l.drop i).take n) ((l'.drop i').take n')∨mdM K d ((l.drop i).take n) ((l'.drop i').take n'))∧(Ow (tnD K.D ((l.drop i).take n) (ocZ K d ((l.drop i).take n) ((l'.drop i').take n'))) y.1∧Ow (tnP K.D (mkR K.D ((l'.drop i').take n')) (ocZ K d ((l.drop i).take n) ((l'.drop i').take n'))) y.2.1)∧Oqw (ocZ K d ((l.drop i).take n) ((l'.drop i').take n')) y.2.2,fun y=>.tup [.sl 7 0 d' y.1.2.2.2,.sl 8 0 r y.2.1.2.2.2,.sl 9 0 (ocZ K d ((l.drop i).take n) ((l'.drop i').take n')).length y.2.2.2.2.2.2,.nili],fun y=>dcC F bd qd bC qC t d' g r bF qF be qe bl ql ++ [⟨b,q,1,false,some o,.rows 5 l⟩,⟨b',q',1,false,some o',.rows 5 l'⟩,osB true y.1,osB true y.2.1,oqC true y.2.2]⟩]
 mat:=(fcDecode F).mat
 ok:=fun ((bd,qd),(bC,qC,t,d',g,r),(bF,qF,be,qe,bl,ql),(o,b,q,l,i,n,c),(o',b',q',l',i',n',c')) h=>by
  rcases md_one K d ((l.drop i).take n) ((l'.drop i').take n') with hC | hM | hX
  · exact does_alt ((fcDeT K d).ok ((bd,qd),(bC,qC,t,d',g,r),(bF,qF,be,qe,bl,ql),(o,b,q,l,i,n,c),(o',b',q',l',i',n',c')) ⟨h.1,h.2,.inl hC⟩) (fun y hy=>⟨.inl hC,hy⟩) (.tail _ (.head _))
  · exact does_alt ((fcDeT K d).ok ((bd,qd),(bC,qC,t,d',g,r),(bF,qF,be,qe,bl,ql),(o,b,q,l,i,n,c),(o',b',q',l',i',n',c')) ⟨h.1,h.2,.inr hM⟩) (fun y hy=>⟨.inr hM,hy⟩) (.tail _ (.head _))
  · exact does_alt ((fcDcX h.2 hX).ok ((bd,qd),(bC,qC,t,d',g,r),(bF,qF,be,qe,bl,ql),(o,b,q,l,i,n,c),(o',b',q',l',i',n',c')) h.1) (fun _ _=>hX) (.head _)
end
theorem rbitX_ok (o:Bool) (b q:Nat) (l:List Int) (i n c:Nat) (z:Int) (h:pcRbit.pre ((o,b,q,l,i,n,c),z)):Tells (C:=C0) Tryz.prog (.fn 46) [⟨b,q,1,false,some o,.rows 5 l⟩] [.sl 0 i n c,.int .i64 z] (.int .i64 ((bt ((l.drop i).take n) z.toNat).toNat:Int)):=by
 refine loc_pc (P:=Tryz.prog) (E:=⟨[],[pcRbit],8,[],[],[],none⟩) (L:=[]) mix Tryz.func46 rfl (by kernel_rfl) (by kernel_rfl) rfl rfl ?_
 ((conv=>arg 1;reduce);with_reducible repeat' first | exact ty | refine ta ?_ ?_ | refine ti fun _ => ?_ | refine tf fun _ => ?_ | refine tl ?_)
 all_goals try exact vlf
 all_goals exact h
def pcRbitX:Pc Tryz.prog C0 where
 tg:=.fn 46
 X:=Sl3×Int
 args:=fun ((o,b,q,l,i,n,c),z)=>[.sl 0 i n c,.int .i64 z]
 mem:=fun ((o,b,q,l,i,n,c),z)=>[⟨b,q,1,false,some o,.rows 5 l⟩]
 pre:=pcRbit.pre
 res:=fun ((o,b,q,l,i,n,c),z)=>.int .i64 ((bt ((l.drop i).take n) z.toNat).toNat:Int)
 mat:=pcRbit.mat
 ok:=fun ((o,b,q,l,i,n,c),z) h=>rbitX_ok o b q l i n c z h
def Rd3 (P Q:List Int):Inv' C0:=⟨3,Nat,fun i=>[(5,.int .i64 (dsL P Q i:Int)),(6,.int .i64 (i:Int))],fun _ m=>m,fun i=>i≤8*min P.length Q.length,fun i=>8*min P.length Q.length - i⟩
abbrev dsR (P Q:List Int):Nat:=dsL P Q (8*min P.length Q.length)+8*(max P.length Q.length - min P.length Q.length)
theorem rdist_ok (o:Bool) (b q:Nat) (l:List Int) (i n c:Nat) (o2:Bool) (b2 q2:Nat) (l2:List Int) (i2 n2 c2:Nat) (h:Sl3.pre (o,b,q,l,i,n,c)) (h2:Sl3.pre (o2,b2,q2,l2,i2,n2,c2)) (P Q:List Int) (hP:(l.drop i).take n=P) (hQ:(l2.drop i2).take n2=Q) (kP:Byt8 P) (kQ:Byt8 Q):
 Tells (C:=C0) Tryz.prog (.fn 21) [⟨b,q,1,false,some o,.rows 5 l⟩,⟨b2,q2,1,false,some o2,.rows 5 l2⟩] [.sl 0 i n c,.sl 1 i2 n2 c2] (.int .i64 (dsR P Q:Int)):=by
 have lP:P.length=n:=by rw [← hP];exact row_len h.1
 have lQ:Q.length=n2:=by rw [← hQ];exact row_len h2.1
 have n1:=h.2.1
 have n3:=h2.2.1
 refine loc_pc (P:=Tryz.prog) (E:=⟨[],[pcRbitX],40,[],[],[],none⟩) (L:=[Rd3 P Q]) mix Tryz.func21 rfl (by kernel_rfl) (by kernel_rfl) rfl rfl ?_
 ((conv=>arg 1;reduce);with_reducible repeat' first | exact ty | refine ta ?_ ?_ | refine ti fun _ => ?_ | refine tf fun _ => ?_ | refine tl ?_)
 all_goals try exact vlf
 · refine Stands.one (0:Nat) ⟨zg _,?_⟩
   ((conv=>arg 1;reduce);with_reducible repeat' first | exact ty | refine ta ?_ ?_ | refine ti fun _ => ?_ | refine tf fun _ => ?_ | refine tl ?_)
   all_goals first | exact vlf | (show (0:Int)=((dsL P Q 0:Nat):Int);rw [dsL_zero];rfl) | (show ((dsL P Q 0:Nat):Int)=(0:Int);rw [dsL_zero];rfl)
 iterate 2 (focus
  rename_i j hj d
  change Nat at j
  have d:(j:Int)<8*min (n:Int) (n2:Int):=ng d
  first
  | exact ⟨h,⟨by show 0≤(j:Int);omega,by show (j:Int)<_;omega⟩,hP.symm ▸ kP⟩
  | exact ⟨h2,⟨by show 0≤(j:Int);omega,by show (j:Int)<_;omega⟩,hQ.symm ▸ kQ⟩)
 iterate 5 (focus
  rename_i j hj d e
  change Nat at j
  have hj:j≤8*min P.length Q.length:=hj
  have d:(j:Int)<8*min (n:Int) (n2:Int):=ng d
  have dl:=dsL_le (A:=P) (B:=Q) (n:=j)
  have ds:=dsL_succ (A:=P) (B:=Q) (n:=j)
  rw [hP,hQ,zu] at e
  first
  | exact inR64 (n:=(dsL P Q j:Int)+1) (by omega) (by omega)
  | exact inR64 (n:=(j:Int)+1) (by omega) (by omega)
  | (have eV:(bt P j ^^ bt Q j)=true:=by
      have e:=ng e
      cases h1:bt P j <;> cases h2:bt Q j <;> rw [h1,h2] at e <;> first | rfl | exact absurd rfl e
     rw [eV] at ds
     have eD:(dsL P Q j:Int)+1=((dsL P Q (j+1):Nat):Int):=by rw [ds];rfl
     refine Stands.one (j+1:Nat) ⟨by show j+1≤_;omega,by show _ - (j+1)<_ - j;omega,?_⟩
     ((conv=>arg 1;reduce);with_reducible repeat' first | exact ty | refine ta ?_ ?_ | refine ti fun _ => ?_ | refine tf fun _ => ?_ | refine tl ?_)
     all_goals first | exact vlf | exact eD | exact eD.symm)
  | (have eV:(bt P j ^^ bt Q j)=false:=by
      have e:=nf e
      cases h1:bt P j <;> cases h2:bt Q j <;> rw [h1,h2] at e <;> first | rfl | exact absurd (by decide) e
     rw [eV] at ds
     have eD:(dsL P Q j:Int)=((dsL P Q (j+1):Nat):Int):=by rw [ds];rfl
     refine Stands.one (j+1:Nat) ⟨by show j+1≤_;omega,by show _ - (j+1)<_ - j;omega,?_⟩
     ((conv=>arg 1;reduce);with_reducible repeat' first | exact ty | refine ta ?_ ?_ | refine ti fun _ => ?_ | refine tf fun _ => ?_ | refine tl ?_)
     all_goals first | exact vlf | exact eD | exact eD.symm))
 iterate 2 (focus
  rename_i j hj d
  change Nat at j
  have hj:j≤8*min P.length Q.length:=hj
  have d:¬ (j:Int)<8*min (n:Int) (n2:Int):=nf d
  obtain rfl:j=8*min P.length Q.length:=by omega
  have dl:=dsL_le (A:=P) (B:=Q) (n:=8*min P.length Q.length)
  first
  | (refine inR64 ?_ ?_ <;> omega)
  | (show (dsL P Q (8*min P.length Q.length):Int)+8*(max (n:Int) (n2:Int) - min (n:Int) (n2:Int))=((dsL P Q (8*min P.length Q.length)+8*(max P.length Q.length - min P.length Q.length):Nat):Int);omega))
def pcRdist:Pc Tryz.prog C0 where
 tg:=.fn 21
 X:=Sl3×Sl3
 args:=fun ((o,b,q,l,i,n,c),(o2,b2,q2,l2,i2,n2,c2))=>[.sl 0 i n c,.sl 1 i2 n2 c2]
 mem:=fun ((o,b,q,l,i,n,c),(o2,b2,q2,l2,i2,n2,c2))=>[⟨b,q,1,false,some o,.rows 5 l⟩,⟨b2,q2,1,false,some o2,.rows 5 l2⟩]
 pre:=fun ((o,b,q,l,i,n,c),(o2,b2,q2,l2,i2,n2,c2))=>(Sl3.pre (o,b,q,l,i,n,c)∧Byt8 ((l.drop i).take n))∧Sl3.pre (o2,b2,q2,l2,i2,n2,c2)∧Byt8 ((l2.drop i2).take n2)
 res:=fun ((o,b,q,l,i,n,c),(o2,b2,q2,l2,i2,n2,c2))=>.int .i64 (dsR ((l.drop i).take n) ((l2.drop i2).take n2):Int)
 mat vs m:=match vs with
  | [.sl s i n c,.sl s2 i2 n2 c2]=>match nth m s,nth m s2 with
    | ⟨b,q,_,_,g,.rows 5 l⟩,⟨b2,q2,_,_,g2,.rows 5 l2⟩=>some (((onOf g,b,q,l,i,n,c),(onOf g2,b2,q2,l2,i2,n2,c2)),[s,s2])
    | _,_=>none
  | _=>none
 ok:=fun ((o,b,q,l,i,n,c),(o2,b2,q2,l2,i2,n2,c2)) h=>rdist_ok o b q l i n c o2 b2 q2 l2 i2 n2 c2 h.1.1 h.2.1 _ _ rfl rfl h.1.2 h.2.2
section
variable {F:Gf} (K:Kd F) {d:Nat} {A U V:List Int}
theorem dsR_eq {A B:List Int} {n:Nat} (h:A.length=n) (h':B.length=n):dsR A B=dsL A B (8*n):=by
 unfold dsR
 rw [h,h',Nat.min_self,Nat.max_self,qo];rfl
theorem word_sum {P:List Int} (H:DcOK K d U V) (la:A.length=d) (lP:P.length=nP K) (zP:∀ k,K.D≤k→bt P k=false):dsR U A+dsR (clL K.D V) P=(dfL K.D d A P U (mkR K.D V)).length:=by
 have hP:nP K=(K.D+7) / 8:=rfl
 rw [dsR_eq H.la la,dsR_eq (n:=nP K) (by rw [clL_len];exact H.lb) lP,← mk_cl H.b H.lb]
 exact ds_df zP (fun k hk=>by rw [mkR_bt H.b H.lb,decide_eq_false (by omega),yf]) (by omega)
theorem near_sum (H:DcOK K d U V) (la:A.length=d):dsR U A+dsR (clL K.D V) (paK K A)=(dfL K.D d A (paK K A) U (mkR K.D V)).length:=
 word_sum K H la (paK_len K A) (pa_out K A)
theorem far_sum (H:DcOK K d U V) (hn:8*d+K.D≤F.N) (h:mdC K d U V∨mdM K d U V):dsR U (tnD K.D U (ocZ K d U V))+dsR (clL K.D V) (tnP K.D (mkR K.D V) (ocZ K d U V))=(ocZ K d U V).length:=by
 obtain ⟨f1,f2,f3⟩:=far_few K H hn h
 rw [word_sum K H f3.ok.la f3.ok.lb (fun k hk=>by rw [← f3.pa];exact pa_out K _ k hk),f1]
end
end
end Go.Vx
namespace Go.Vx
open Go Go.Proofs
noncomputable section
variable [Gl]
theorem Oqw.of2 {L:List Int} {y:Os} (h:Ow L y):Oqw L ((y.1,y.2.1,0,y.2.2.1,y.2.2.2):Oq):=⟨h.eq,h.cap,h.len,h.nil⟩
theorem Oqw.sl2 {L:List Int} {y:Oq} (h:Oqw L y) {n:Nat} (e:L.length=n) (hb:n<1000000000):Sl3.pre (y.1,y.2.1,y.2.2.1,y.2.2.2.1,0,n,y.2.2.2.2)∧(y.2.2.2.1.drop 0).take n=L:=by
 have h1:=h.cap
 have h2:=h.len
 subst e
 exact ⟨⟨by show 0+L.length≤y.2.2.2.1.length;omega,hb,h.nil⟩,h.eq⟩
abbrev NrX:=Nat×List Int×List Int×Oq×Oq
def Nr10 (n r M:Nat) (H:List Int→List Int→Prop):Inv' C0:=⟨10,NrX,fun x=>[(22,.int .i64 (x.1:Int)),(20,.sl 14 0 n x.2.2.2.1.2.2.2.2),(21,.sl 15 0 r x.2.2.2.2.2.2.2.2),(66,.junk),(68,.junk)],fun x m=>match m with
 | a0 :: a1 :: a2 :: a3 :: a4 :: a5 :: a6 :: a7 :: a8 :: a9 :: a10 :: a11 :: a12 :: a13 :: _=>[a0,a1,a2,a3,a4,a5,a6,a7,a8,a9,a10,a11,a12,a13,obC true x.2.2.2.1,obC true x.2.2.2.2]
 | m=>m,fun x=>x.1≤M∧H x.2.1 x.2.2.1∧Oqw x.2.1 x.2.2.2.1∧Oqw x.2.2.1 x.2.2.2.2,fun x=>M - x.1⟩
def Nr14 (r:Nat) (H:List Int→Prop):Inv' C0:=⟨14,Nat×List Int×Oq,fun x=>[(23,.int .i64 (x.1:Int)),(21,.sl 15 0 r x.2.2.2.2.2.2)],fun x m=>match m with
 | a0 :: a1 :: a2 :: a3 :: a4 :: a5 :: a6 :: a7 :: a8 :: a9 :: a10 :: a11 :: a12 :: a13 :: a14 :: _=>[a0,a1,a2,a3,a4,a5,a6,a7,a8,a9,a10,a11,a12,a13,a14,obC true x.2.2]
 | m=>m,fun x=>x.1≤2∧H x.2.1∧Oqw x.2.1 x.2.2,fun x=>2 - x.1⟩
section
variable (c:Cd) (n':Nat) (hn:1≤n'∧n'≤12∧8*n'+c.K.D≤nF c.F) (m t n:Int) (hM:Does (C:=C0) Tryz.prog (.fn 10) [] [.int .i64 m,.int .i64 t,.int .i64 n] [⟨MdY,MdOK c.K,mdR c.K n',mdL c.K n'⟩])
 (o:Bool) (b q:Nat) (l:List Int) (nn cc:Nat) (h:nn≤l.length) (ho:o=false→nn=0∧cc=0) (o2:Bool) (b2 q2:Nat) (l2:List Int) (nn2 cc2:Nat) (h2:nn2≤l2.length) (ho2:o2=false→nn2=0∧cc2=0) (o3:Bool) (b3 q3:Nat) (l3:List Int) (nn3 cc3:Nat) (h3:nn3≤l3.length) (ho3:o3=false→nn3=0∧cc3=0) (bl:Byt8 (l.take nn)) (bl2:∀ x∈l2.take nn2,inR .i64 x) (bl3:Byt8 (l3.take nn3))
include hn hM h ho h2 ho2 h3 ho3 bl bl2 bl3
set_option maxHeartbeats 16000000 in
theorem near_ok:
 Tells (C:=C0) Tryz.prog (.fn 7) [⟨b,q,1,false,some o,.rows 5 l⟩,⟨b2,q2,1,false,some o2,.rows 3 l2⟩,⟨b3,q3,1,false,some o3,.rows 5 l3⟩] [.int .i64 m,.int .i64 t,.int .i64 n,.sl 0 0 nn cc,.sl 1 0 nn2 cc2,.sl 2 0 nn3 cc3] (.bool .t):=by
 obtain ⟨g1,g2,g3,g4⟩:=cd_facts c
 obtain ⟨ns,n7,nh⟩:=nF_sz c.F
 have D1:=c.K.D1
 have hP:nP c.K=(c.K.D+7) / 8:=rfl
 have eA:(fitL n' (l.take nn)).length=n':=fitL_len
 have yA:Byt8 (fitL n' (l.take nn)):=fitL_byt bl
 have tA:((fitL n' (l.take nn)).drop 0).take n'=(fitL n' (l.take nn)):=by rw [zm,zc (by rw [fitL_len];exact zw _)]
 have lP:=paK_len c.K (fitL n' (l.take nn))
 have tP:=pa_tk c.K (fitL n' (l.take nn))
 have hnN:8*n'+c.K.D≤c.F.N:=by rw [← nF_eq];exact hn.2.2
 refine loc_pc (P:=Tryz.prog) (E:=⟨[fcMade c n' m t n hM,fcFit,fcFastG c.K,fcRbytes,fcFlip,fcDeN c.K n',fcXclear],[pcFirst,pcDCode,pcXbits,pcXpar,pcSb,pcRdist,pcRightG c.K],184,[(12,[],[.p 0,.p 2,.p 3,.p 4,.p 5,.p 6,.q 1,.q 7,.q 8,.q 11,.q 14,.q 9,.p 10,.q 12,.p 13,.q 15,.p 16,.e 17,.p 18,.p 19,.p 20,.p 21,.p 22,.p 23]),(16,[],[.p 0,.p 1,.p 4,.p 6,.q 2,.q 3,.e 5,.q 7,.p 8,.p 9]),(21,[],[.p 0,.p 1,.p 4,.p 6,.q 2,.q 3,.e 5,.q 7,.p 8,.p 9])],[],[],none⟩) (L:=[Nr10 n' (nP c.K) nn2 (DcOK c.K n'),Nr14 (nP c.K) (fun V=>Byt8 V∧V.length=nP c.K)]) mix Tryz.func7 rfl (by kernel_rfl) (by kernel_rfl) rfl rfl ?_
 ((conv=>arg 1;reduce);with_reducible repeat' first | exact ty | refine ta ?_ ?_ | refine ti fun _ => ?_ | refine tf fun _ => ?_ | refine tl ?_)
 all_goals try exact vlf
 all_goals try exact ⟨by show n'<1000000;omega,by show c.K.D<1000000;omega⟩
 all_goals try exact plainE 1 (by decide)
 all_goals try (show c.K.D<1000000;omega)
 all_goals try exact ⟨⟨by show 0+nn3≤l3.length;omega,ho3⟩,by show (c.K.D+7) / 8<100000;omega⟩
 · exact ⟨⟨by show 0+nn≤l.length;omega,ho⟩,by show n'<100000;omega⟩
 · rename_i y hy b1 g60 fa hfa
   obtain ⟨_,hN1,hN2,hN3⟩:=hy
   obtain ⟨t1,t2⟩:=TbIn.of c.K hN1
   exact ⟨⟨by show 0+n'≤(fitL n' (l.take nn)).length;omega,by show n'<100000;omega,nofun,tA.symm ▸ yA,hN2,hN3,rfl,t2⟩,t1⟩
 · exact ⟨by show 0+n'≤(fitL n' (l.take nn)).length;omega,by show n'<1000000000;omega,nofun⟩
 · exact ⟨by show 0+nP c.K≤(paK c.K (((fitL n' (l.take nn)).drop 0).take n')).length;rw [tA];omega,by show nP c.K<1000000000;omega,nofun⟩
 · rename_i y hy b1 g60 fa hfa p hp u0 hu0 v0 hv0
   change Oq at u0
   change Oq at v0
   have hu0:Oqw (((fitL n' (l.take nn)).drop 0).take n') u0:=hu0
   have hv0:Oqw (((paK c.K (((fitL n' (l.take nn)).drop 0).take n')).drop 0).take (nP c.K)) v0:=hv0
   rw [tA] at hu0 hv0
   rw [tP] at hv0
   refine Stands.one ((0,(fitL n' (l.take nn)),paK c.K (fitL n' (l.take nn)),u0,v0):NrX) ⟨⟨zg _,⟨by show c.K.t≤40;omega,hn.1,by omega,by omega,yA,paK_byt c.K _,eA,lP⟩,hu0,hv0⟩,?_⟩
   ((conv=>arg 1;reduce);with_reducible repeat' first | exact ty | refine ta ?_ ?_ | refine ti fun _ => ?_ | refine tf fun _ => ?_ | refine tl ?_)
   all_goals first
    | exact vlf
    | (show n'=(((fitL n' (l.take nn)).drop 0).take n').length;rw [tA,eA])
    | (show (((fitL n' (l.take nn)).drop 0).take n').length=n';rw [tA,eA])
    | (show nP c.K=(((paK c.K (((fitL n' (l.take nn)).drop 0).take n')).drop 0).take (nP c.K)).length;rw [tA,tP,lP])
    | (show (((paK c.K (((fitL n' (l.take nn)).drop 0).take n')).drop 0).take (nP c.K)).length=nP c.K;rw [tA,tP,lP])
 iterate 6
  focus
   rename_i y hy b1 g60 fa hfa p hp u0 hu0 v0 hv0 x hx e
   change NrX at x
   obtain ⟨i,U,V,u,v⟩:=x
   obtain ⟨k1,k2,k3,k4⟩:i≤nn2∧DcOK c.K n' U V∧Oqw U u∧Oqw V v:=hx
   obtain ⟨s1,e1⟩:=k3.sl2 (n:=n') k2.la (by omega)
   obtain ⟨s2,e2⟩:=k4.sl2 (n:=nP c.K) k2.lb (by omega)
   have e:(i:Int)<(nn2:Int):=ng e
   have g60:¬ (60:Int)<(nn2:Int):=nf g60
   have r1:=tmod_rng (l2.getD ((i:Int).toNat+0) 0) (8*n'+c.K.D) (by omega)
   have r2:=tmod_rng ((l2.getD ((i:Int).toNat+0) 0).tmod ((8*n'+c.K.D:Nat):Int)+((8*n'+c.K.D:Nat):Int)) (8*n'+c.K.D) (by omega)
   have r3:=qq ((8*n'+c.K.D:Nat):Int) (a:=(l2.getD ((i:Int).toNat+0) 0).tmod ((8*n'+c.K.D:Nat):Int)+((8*n'+c.K.D:Nat):Int)) (by omega)
   first
   | exact on_of ho2 (by omega)
   | exact e
   | (show (i:Int).toNat+0<l2.length;omega)
   | (show inR .i64 ((l2.getD ((i:Int).toNat+0) 0).tmod ((8*n'+c.K.D:Nat):Int)+((8*n'+c.K.D:Nat):Int));exact inR64 (by omega) (by omega))
   | exact ⟨⟨s1.1,by have:=k3.cap;rw [k2.la] at this;exact this,s1.2.2⟩,⟨s2.1,by have:=k4.cap;rw [k2.lb] at this;exact this,s2.2.2⟩,by show n'<100000;omega,by show nP c.K<100000;omega,by show ((c.K.D:Int)).toNat≤8*nP c.K;omega,r3,by show (((l2.getD ((i:Int).toNat+0) 0).tmod ((8*n'+c.K.D:Nat):Int)+((8*n'+c.K.D:Nat):Int)).tmod ((8*n'+c.K.D:Nat):Int))<8*(n':Int)+(((c.K.D:Int).toNat:Nat):Int);omega⟩
 iterate 2
  focus
   rename_i y hy b1 g60 fa hfa p hp u0 hu0 v0 hv0 x hx e z hz
   change NrX at x
   obtain ⟨i,U,V,u,v⟩:=x
   obtain ⟨k1,k2,k3,k4⟩:i≤nn2∧DcOK c.K n' U V∧Oqw U u∧Oqw V v:=hx
   obtain ⟨s1,e1⟩:=k3.sl2 (n:=n') k2.la (by omega)
   obtain ⟨s2,e2⟩:=k4.sl2 (n:=nP c.K) k2.lb (by omega)
   have e:(i:Int)<(nn2:Int):=ng e
   have g60:¬ (60:Int)<(nn2:Int):=nf g60
   have r1:=tmod_rng (l2.getD ((i:Int).toNat+0) 0) (8*n'+c.K.D) (by omega)
   have r2:=tmod_rng ((l2.getD ((i:Int).toNat+0) 0).tmod ((8*n'+c.K.D:Nat):Int)+((8*n'+c.K.D:Nat):Int)) (8*n'+c.K.D) (by omega)
   have r3:=qq ((8*n'+c.K.D:Nat):Int) (a:=(l2.getD ((i:Int).toNat+0) 0).tmod ((8*n'+c.K.D:Nat):Int)+((8*n'+c.K.D:Nat):Int)) (by omega)
   change Os×Os at z
   have z1:Ow (fpD c.K.D ((u.2.2.2.1.drop 0).take n') ((((l2.getD ((i:Int).toNat+0) 0).tmod ((8*n'+c.K.D:Nat):Int)+((8*n'+c.K.D:Nat):Int)).tmod ((8*n'+c.K.D:Nat):Int))).toNat) z.1:=hz.1
   have z2:Ow (fpP c.K.D ((v.2.2.2.1.drop 0).take (nP c.K)) ((((l2.getD ((i:Int).toNat+0) 0).tmod ((8*n'+c.K.D:Nat):Int)+((8*n'+c.K.D:Nat):Int)).tmod ((8*n'+c.K.D:Nat):Int))).toNat) z.2:=hz.2
   rw [e1] at z1
   rw [e2] at z2
   first
   | exact inR64 (n:=(i:Int)+1) (by omega) (by omega)
   | (refine Stands.one ((i+1,fpD c.K.D U ((((l2.getD ((i:Int).toNat+0) 0).tmod ((8*n'+c.K.D:Nat):Int)+((8*n'+c.K.D:Nat):Int)).tmod ((8*n'+c.K.D:Nat):Int))).toNat,fpP c.K.D V ((((l2.getD ((i:Int).toNat+0) 0).tmod ((8*n'+c.K.D:Nat):Int)+((8*n'+c.K.D:Nat):Int)).tmod ((8*n'+c.K.D:Nat):Int))).toNat,(z.1.1,z.1.2.1,0,z.1.2.2.1,z.1.2.2.2),(z.2.1,z.2.2.1,0,z.2.2.2.1,z.2.2.2.2)):NrX) ⟨⟨by show i+1≤nn2;omega,k2.flip c.K _,Oqw.of2 z1,Oqw.of2 z2⟩,by show nn2 - (i+1)<nn2 - i;omega,?_⟩
      exact vgo)
 · rename_i y hy b1 g60 fa hfa p hp u0 hu0 v0 hv0 x hx e
   change NrX at x
   obtain ⟨i,U,V,u,v⟩:=x
   obtain ⟨k1,k2,k3,k4⟩:i≤nn2∧DcOK c.K n' U V∧Oqw U u∧Oqw V v:=hx
   obtain ⟨s1,e1⟩:=k3.sl2 (n:=n') k2.la (by omega)
   obtain ⟨s2,e2⟩:=k4.sl2 (n:=nP c.K) k2.lb (by omega)
   refine Stands.one ((0,V,v):Nat×List Int×Oq) ⟨⟨zg _,⟨k2.b,k2.lb⟩,k4⟩,?_⟩
   exact vgo
 iterate 2
  focus
   rename_i y hy b1 g60 fa hfa p hp u0 hu0 v0 hv0 x hx e r hr d
   change NrX at x
   obtain ⟨i,U,V,u,v⟩:=x
   obtain ⟨k1,k2,k3,k4⟩:i≤nn2∧DcOK c.K n' U V∧Oqw U u∧Oqw V v:=hx
   obtain ⟨s1,e1⟩:=k3.sl2 (n:=n') k2.la (by omega)
   obtain ⟨s2,e2⟩:=k4.sl2 (n:=nP c.K) k2.lb (by omega)
   change Nat×List Int×Oq at r
   obtain ⟨j,V2,v2⟩:=r
   obtain ⟨q1,⟨q2,q3⟩,q4⟩:j≤2∧(Byt8 V2∧V2.length=nP c.K)∧Oqw V2 v2:=hr
   have H2:DcOK c.K n' U V2:=⟨k2.t,k2.d1,k2.d2,k2.g2,k2.a,q2,k2.la,q3⟩
   obtain ⟨s5,e5⟩:=q4.sl2 (n:=nP c.K) q3 (by omega)
   first
   | exact ⟨⟨s1,e1.symm ▸ k2.a⟩,⟨by show 0+n'≤(fitL n' (l.take nn)).length;omega,by show n'<1000000000;omega,nofun⟩,tA.symm ▸ yA⟩
   | exact ⟨by show c.K.D<1000000;omega,s5,by show Byt8 ((v2.2.2.2.1.drop 0).take (nP c.K));rw [e5];exact q2⟩
 iterate 3
  focus
   rename_i y hy b1 g60 fa hfa p hp u0 hu0 v0 hv0 x hx e r hr d c1 hc1
   change NrX at x
   obtain ⟨i,U,V,u,v⟩:=x
   obtain ⟨k1,k2,k3,k4⟩:i≤nn2∧DcOK c.K n' U V∧Oqw U u∧Oqw V v:=hx
   obtain ⟨s1,e1⟩:=k3.sl2 (n:=n') k2.la (by omega)
   obtain ⟨s2,e2⟩:=k4.sl2 (n:=nP c.K) k2.lb (by omega)
   change Nat×List Int×Oq at r
   obtain ⟨j,V2,v2⟩:=r
   obtain ⟨q1,⟨q2,q3⟩,q4⟩:j≤2∧(Byt8 V2∧V2.length=nP c.K)∧Oqw V2 v2:=hr
   have H2:DcOK c.K n' U V2:=⟨k2.t,k2.d1,k2.d2,k2.g2,k2.a,q2,k2.la,q3⟩
   obtain ⟨s5,e5⟩:=q4.sl2 (n:=nP c.K) q3 (by omega)
   change Oq at c1
   have hc1:Oqw (clL c.K.D ((v2.2.2.2.1.drop 0).take (nP c.K))) c1:=hc1
   rw [e5] at hc1
   obtain ⟨s6,e6⟩:=hc1.sl2 (n:=nP c.K) (by rw [clL_len];exact q3) (by omega)
   have ns:=near_sum c.K H2 eA
   have nl:=dfL_le (g:=c.K.D) (d:=n') (A:=(fitL n' (l.take nn))) (P:=paK c.K (fitL n' (l.take nn))) (U:=U) (V:=mkR c.K.D V2)
   first
   | (refine ⟨⟨?_,?_⟩,⟨by show 0+nP c.K≤(paK c.K (((fitL n' (l.take nn)).drop 0).take n')).length;rw [tA];omega,by show nP c.K<1000000000;omega,nofun⟩,by show Byt8 (((paK c.K (((fitL n' (l.take nn)).drop 0).take n')).drop 0).take (nP c.K));rw [tA,tP];exact paK_byt c.K _⟩
      · (show Sl3.pre (c1.1,c1.2.1,c1.2.2.1,c1.2.2.2.1,0,((v2.2.2.2.1.drop 0).take (nP c.K)).length,c1.2.2.2.2);rw [e5,q3];exact s6)
      · (show Byt8 ((c1.2.2.2.1.drop 0).take ((v2.2.2.2.1.drop 0).take (nP c.K)).length);rw [e5,q3,e6];exact clL_byt))
   | (show inR .i64 ((dsR ((u.2.2.2.1.drop 0).take n') (((fitL n' (l.take nn)).drop 0).take n'):Int)+(dsR ((c1.2.2.2.1.drop 0).take ((v2.2.2.2.1.drop 0).take (nP c.K)).length) (((paK c.K (((fitL n' (l.take nn)).drop 0).take n')).drop 0).take (nP c.K)):Int));rw [e1,e5,q3,e6,tA,tP];exact inR64 (by omega) (by omega))
   | exact ⟨⟨⟨rfl,rfl,rfl,rfl⟩,⟨⟨rfl,s1⟩,rfl,s5⟩,rfl,rfl⟩,by show DcOK c.K n' ((u.2.2.2.1.drop 0).take n') ((v2.2.2.2.1.drop 0).take (nP c.K));rw [e1,e5];exact H2⟩
 iterate 1
  focus
   rename_i y hy b1 g60 fa hfa p hp u0 hu0 v0 hv0 x hx e r hr d c1 hc1 w hw e9
   change NrX at x
   obtain ⟨i,U,V,u,v⟩:=x
   obtain ⟨k1,k2,k3,k4⟩:i≤nn2∧DcOK c.K n' U V∧Oqw U u∧Oqw V v:=hx
   obtain ⟨s1,e1⟩:=k3.sl2 (n:=n') k2.la (by omega)
   obtain ⟨s2,e2⟩:=k4.sl2 (n:=nP c.K) k2.lb (by omega)
   change Nat×List Int×Oq at r
   obtain ⟨j,V2,v2⟩:=r
   obtain ⟨q1,⟨q2,q3⟩,q4⟩:j≤2∧(Byt8 V2∧V2.length=nP c.K)∧Oqw V2 v2:=hr
   have H2:DcOK c.K n' U V2:=⟨k2.t,k2.d1,k2.d2,k2.g2,k2.a,q2,k2.la,q3⟩
   obtain ⟨s5,e5⟩:=q4.sl2 (n:=nP c.K) q3 (by omega)
   change Oq at c1
   have hc1:Oqw (clL c.K.D ((v2.2.2.2.1.drop 0).take (nP c.K))) c1:=hc1
   rw [e5] at hc1
   obtain ⟨s6,e6⟩:=hc1.sl2 (n:=nP c.K) (by rw [clL_len];exact q3) (by omega)
   have ns:=near_sum c.K H2 eA
   have nl:=dfL_le (g:=c.K.D) (d:=n') (A:=(fitL n' (l.take nn))) (P:=paK c.K (fitL n' (l.take nn))) (U:=U) (V:=mkR c.K.D V2)
   have hw:mdX c.K n' ((u.2.2.2.1.drop 0).take n') ((v2.2.2.2.1.drop 0).take (nP c.K)):=hw
   rw [e1,e5] at hw
   refine absurd (near_few c.K H2 yA eA hnN ?_).1 (mdX_no c.K hw)
   have e9:(!decide (Gl.A 1=Gl.A 1) || decide ((dsR ((u.2.2.2.1.drop 0).take n') (((fitL n' (l.take nn)).drop 0).take n'):Int)+(dsR ((c1.2.2.2.1.drop 0).take ((v2.2.2.2.1.drop 0).take (nP c.K)).length) (((paK c.K (((fitL n' (l.take nn)).drop 0).take n')).drop 0).take (nP c.K)):Int)≤(c.K.t:Int)) || decide ((0:Int)+0+0≠0))=true:=e9
   rw [e1,e5,q3,e6,tA,tP,decide_eq_true rfl] at e9
   simp only [Bool.not_true,nq,yd,decide_eq_true_eq] at e9
   first
   | omega
 iterate 2
  focus
   rename_i y hy b1 g60 fa hfa p hp u0 hu0 v0 hv0 x hx e r hr d c1 hc1 w hw e9 fb hfb
   change Nat×List Int×Oq at r
   obtain ⟨j,V2,v2⟩:=r
   have d:(j:Int)<2:=ng d
   change Nat at fb
   first
   | exact inR64 (n:=(j:Int)+1) (by omega) (by omega)
   | (refine Stands.one ((j+1,fitL (nP c.K) (l3.take nn3),(true,fb,0,fitL (nP c.K) (l3.take nn3),nP c.K)):Nat×List Int×Oq) ⟨⟨by show j+1≤2;omega,⟨fitL_byt bl3,fitL_len⟩,⟨zc (zw _),by rw [fitL_len];exact zw _,by show nP c.K≤(fitL (nP c.K) (l3.take nn3)).length;rw [fitL_len];exact zw _,nofun⟩⟩,by show 2 - (j+1)<2 - j;omega,?_⟩
      exact vgo)
 iterate 2
  focus
   rename_i y hy b1 g60 fa hfa p hp u0 hu0 v0 hv0 x hx e r hr d c1 hc1 w hw
   change NrX at x
   obtain ⟨i,U,V,u,v⟩:=x
   obtain ⟨k1,k2,k3,k4⟩:i≤nn2∧DcOK c.K n' U V∧Oqw U u∧Oqw V v:=hx
   obtain ⟨s1,e1⟩:=k3.sl2 (n:=n') k2.la (by omega)
   obtain ⟨s2,e2⟩:=k4.sl2 (n:=nP c.K) k2.lb (by omega)
   change Nat×List Int×Oq at r
   obtain ⟨j,V2,v2⟩:=r
   obtain ⟨q1,⟨q2,q3⟩,q4⟩:j≤2∧(Byt8 V2∧V2.length=nP c.K)∧Oqw V2 v2:=hr
   have H2:DcOK c.K n' U V2:=⟨k2.t,k2.d1,k2.d2,k2.g2,k2.a,q2,k2.la,q3⟩
   obtain ⟨s5,e5⟩:=q4.sl2 (n:=nP c.K) q3 (by omega)
   change Oq at c1
   have hc1:Oqw (clL c.K.D ((v2.2.2.2.1.drop 0).take (nP c.K))) c1:=hc1
   rw [e5] at hc1
   obtain ⟨s6,e6⟩:=hc1.sl2 (n:=nP c.K) (by rw [clL_len];exact q3) (by omega)
   change Os×Os×Oq at w
   obtain ⟨hcm,⟨w1,w2⟩,w3⟩:=hw
   have hcm:mdC c.K n' ((u.2.2.2.1.drop 0).take n') ((v2.2.2.2.1.drop 0).take (nP c.K))∨mdM c.K n' ((u.2.2.2.1.drop 0).take n') ((v2.2.2.2.1.drop 0).take (nP c.K)):=hcm
   have w1:Ow (tnD c.K.D ((u.2.2.2.1.drop 0).take n') (ocZ c.K n' ((u.2.2.2.1.drop 0).take n') ((v2.2.2.2.1.drop 0).take (nP c.K)))) w.1:=w1
   have w2:Ow (tnP c.K.D (mkR c.K.D ((v2.2.2.2.1.drop 0).take (nP c.K))) (ocZ c.K n' ((u.2.2.2.1.drop 0).take n') ((v2.2.2.2.1.drop 0).take (nP c.K)))) w.2.1:=w2
   rw [e1,e5] at hcm w1 w2
   obtain ⟨f1,f2,f3⟩:=far_few c.K H2 hnN hcm
   have fs:=far_sum c.K H2 hnN hcm
   obtain ⟨s7,e7⟩:=w1.sl f3.ok.la (by omega)
   obtain ⟨s8,e8⟩:=w2.sl f3.ok.lb (by omega)
   first
   | exact ⟨⟨s1,e1.symm ▸ k2.a⟩,s7,e7.symm ▸ f3.ok.a⟩
   | exact ⟨by show c.K.D<1000000;omega,s5,by show Byt8 ((v2.2.2.2.1.drop 0).take (nP c.K));rw [e5];exact q2⟩
 iterate 3
  focus
   rename_i y hy b1 g60 fa hfa p hp u0 hu0 v0 hv0 x hx e r hr d c1 hc1 w hw c2 hc2
   change NrX at x
   obtain ⟨i,U,V,u,v⟩:=x
   obtain ⟨k1,k2,k3,k4⟩:i≤nn2∧DcOK c.K n' U V∧Oqw U u∧Oqw V v:=hx
   obtain ⟨s1,e1⟩:=k3.sl2 (n:=n') k2.la (by omega)
   obtain ⟨s2,e2⟩:=k4.sl2 (n:=nP c.K) k2.lb (by omega)
   change Nat×List Int×Oq at r
   obtain ⟨j,V2,v2⟩:=r
   obtain ⟨q1,⟨q2,q3⟩,q4⟩:j≤2∧(Byt8 V2∧V2.length=nP c.K)∧Oqw V2 v2:=hr
   have H2:DcOK c.K n' U V2:=⟨k2.t,k2.d1,k2.d2,k2.g2,k2.a,q2,k2.la,q3⟩
   obtain ⟨s5,e5⟩:=q4.sl2 (n:=nP c.K) q3 (by omega)
   change Oq at c1
   have hc1:Oqw (clL c.K.D ((v2.2.2.2.1.drop 0).take (nP c.K))) c1:=hc1
   rw [e5] at hc1
   obtain ⟨s6,e6⟩:=hc1.sl2 (n:=nP c.K) (by rw [clL_len];exact q3) (by omega)
   change Os×Os×Oq at w
   obtain ⟨hcm,⟨w1,w2⟩,w3⟩:=hw
   have hcm:mdC c.K n' ((u.2.2.2.1.drop 0).take n') ((v2.2.2.2.1.drop 0).take (nP c.K))∨mdM c.K n' ((u.2.2.2.1.drop 0).take n') ((v2.2.2.2.1.drop 0).take (nP c.K)):=hcm
   have w1:Ow (tnD c.K.D ((u.2.2.2.1.drop 0).take n') (ocZ c.K n' ((u.2.2.2.1.drop 0).take n') ((v2.2.2.2.1.drop 0).take (nP c.K)))) w.1:=w1
   have w2:Ow (tnP c.K.D (mkR c.K.D ((v2.2.2.2.1.drop 0).take (nP c.K))) (ocZ c.K n' ((u.2.2.2.1.drop 0).take n') ((v2.2.2.2.1.drop 0).take (nP c.K)))) w.2.1:=w2
   rw [e1,e5] at hcm w1 w2
   obtain ⟨f1,f2,f3⟩:=far_few c.K H2 hnN hcm
   have fs:=far_sum c.K H2 hnN hcm
   obtain ⟨s7,e7⟩:=w1.sl f3.ok.la (by omega)
   obtain ⟨s8,e8⟩:=w2.sl f3.ok.lb (by omega)
   change Oq at c2
   have hc2:Oqw (clL c.K.D ((v2.2.2.2.1.drop 0).take (nP c.K))) c2:=hc2
   rw [e5] at hc2
   obtain ⟨s9,e9⟩:=hc2.sl2 (n:=nP c.K) (by rw [clL_len];exact q3) (by omega)
   first
   | (refine ⟨⟨?_,?_⟩,s8,e8.symm ▸ f3.ok.b⟩
      · (show Sl3.pre (c2.1,c2.2.1,c2.2.2.1,c2.2.2.2.1,0,((v2.2.2.2.1.drop 0).take (nP c.K)).length,c2.2.2.2.2);rw [e5,q3];exact s9)
      · (show Byt8 ((c2.2.2.2.1.drop 0).take ((v2.2.2.2.1.drop 0).take (nP c.K)).length);rw [e5,q3,e9];exact clL_byt))
   | (show inR .i64 ((dsR ((u.2.2.2.1.drop 0).take n') ((w.1.2.2.1.drop 0).take n'):Int)+(dsR ((c2.2.2.2.1.drop 0).take ((v2.2.2.2.1.drop 0).take (nP c.K)).length) ((w.2.1.2.2.1.drop 0).take (nP c.K)):Int));rw [e1,e5,q3,e9,e7,e8];exact inR64 (by omega) (by omega))
   | (obtain ⟨_,hN1,hN2,hN3⟩:=hy
      obtain ⟨t1,t2⟩:=TbIn.of c.K hN1
      exact ⟨⟨⟨s7.1,by show n'<100000;omega,s7.2.2,e7.symm ▸ f3.ok.a,hN2,hN3,rfl,t2⟩,s8.1,s8.2.2,e8.symm ▸ f3.ok.b⟩,t1⟩)
 iterate 1
  focus
   rename_i y hy b1 g60 fa hfa p hp u0 hu0 v0 hv0 x hx e r hr d c1 hc1 w hw c2 hc2 g1 g2
   change NrX at x
   obtain ⟨i,U,V,u,v⟩:=x
   obtain ⟨k1,k2,k3,k4⟩:i≤nn2∧DcOK c.K n' U V∧Oqw U u∧Oqw V v:=hx
   obtain ⟨s1,e1⟩:=k3.sl2 (n:=n') k2.la (by omega)
   obtain ⟨s2,e2⟩:=k4.sl2 (n:=nP c.K) k2.lb (by omega)
   change Nat×List Int×Oq at r
   obtain ⟨j,V2,v2⟩:=r
   obtain ⟨q1,⟨q2,q3⟩,q4⟩:j≤2∧(Byt8 V2∧V2.length=nP c.K)∧Oqw V2 v2:=hr
   have H2:DcOK c.K n' U V2:=⟨k2.t,k2.d1,k2.d2,k2.g2,k2.a,q2,k2.la,q3⟩
   obtain ⟨s5,e5⟩:=q4.sl2 (n:=nP c.K) q3 (by omega)
   change Oq at c1
   have hc1:Oqw (clL c.K.D ((v2.2.2.2.1.drop 0).take (nP c.K))) c1:=hc1
   rw [e5] at hc1
   obtain ⟨s6,e6⟩:=hc1.sl2 (n:=nP c.K) (by rw [clL_len];exact q3) (by omega)
   change Os×Os×Oq at w
   obtain ⟨hcm,⟨w1,w2⟩,w3⟩:=hw
   have hcm:mdC c.K n' ((u.2.2.2.1.drop 0).take n') ((v2.2.2.2.1.drop 0).take (nP c.K))∨mdM c.K n' ((u.2.2.2.1.drop 0).take n') ((v2.2.2.2.1.drop 0).take (nP c.K)):=hcm
   have w1:Ow (tnD c.K.D ((u.2.2.2.1.drop 0).take n') (ocZ c.K n' ((u.2.2.2.1.drop 0).take n') ((v2.2.2.2.1.drop 0).take (nP c.K)))) w.1:=w1
   have w2:Ow (tnP c.K.D (mkR c.K.D ((v2.2.2.2.1.drop 0).take (nP c.K))) (ocZ c.K n' ((u.2.2.2.1.drop 0).take n') ((v2.2.2.2.1.drop 0).take (nP c.K)))) w.2.1:=w2
   rw [e1,e5] at hcm w1 w2
   obtain ⟨f1,f2,f3⟩:=far_few c.K H2 hnN hcm
   have fs:=far_sum c.K H2 hnN hcm
   obtain ⟨s7,e7⟩:=w1.sl f3.ok.la (by omega)
   obtain ⟨s8,e8⟩:=w2.sl f3.ok.lb (by omega)
   first
   | exact ⟨by show 0+n'≤(fitL n' (l.take nn)).length;omega,s7.1,nofun,s7.2.2,tA.symm ▸ yA,e7.symm ▸ f3.ok.a⟩
 iterate 1
  focus
   rename_i y hy b1 g60 fa hfa p hp u0 hu0 v0 hv0 x hx e r hr d c1 hc1 w hw c2 hc2 gg
   change NrX at x
   obtain ⟨i,U,V,u,v⟩:=x
   obtain ⟨k1,k2,k3,k4⟩:i≤nn2∧DcOK c.K n' U V∧Oqw U u∧Oqw V v:=hx
   obtain ⟨s1,e1⟩:=k3.sl2 (n:=n') k2.la (by omega)
   obtain ⟨s2,e2⟩:=k4.sl2 (n:=nP c.K) k2.lb (by omega)
   change Nat×List Int×Oq at r
   obtain ⟨j,V2,v2⟩:=r
   obtain ⟨q1,⟨q2,q3⟩,q4⟩:j≤2∧(Byt8 V2∧V2.length=nP c.K)∧Oqw V2 v2:=hr
   have H2:DcOK c.K n' U V2:=⟨k2.t,k2.d1,k2.d2,k2.g2,k2.a,q2,k2.la,q3⟩
   obtain ⟨s5,e5⟩:=q4.sl2 (n:=nP c.K) q3 (by omega)
   change Oq at c1
   have hc1:Oqw (clL c.K.D ((v2.2.2.2.1.drop 0).take (nP c.K))) c1:=hc1
   rw [e5] at hc1
   obtain ⟨s6,e6⟩:=hc1.sl2 (n:=nP c.K) (by rw [clL_len];exact q3) (by omega)
   change Os×Os×Oq at w
   obtain ⟨hcm,⟨w1,w2⟩,w3⟩:=hw
   have hcm:mdC c.K n' ((u.2.2.2.1.drop 0).take n') ((v2.2.2.2.1.drop 0).take (nP c.K))∨mdM c.K n' ((u.2.2.2.1.drop 0).take n') ((v2.2.2.2.1.drop 0).take (nP c.K)):=hcm
   have w1:Ow (tnD c.K.D ((u.2.2.2.1.drop 0).take n') (ocZ c.K n' ((u.2.2.2.1.drop 0).take n') ((v2.2.2.2.1.drop 0).take (nP c.K)))) w.1:=w1
   have w2:Ow (tnP c.K.D (mkR c.K.D ((v2.2.2.2.1.drop 0).take (nP c.K))) (ocZ c.K n' ((u.2.2.2.1.drop 0).take n') ((v2.2.2.2.1.drop 0).take (nP c.K)))) w.2.1:=w2
   rw [e1,e5] at hcm w1 w2
   obtain ⟨f1,f2,f3⟩:=far_few c.K H2 hnN hcm
   have fs:=far_sum c.K H2 hnN hcm
   obtain ⟨s7,e7⟩:=w1.sl f3.ok.la (by omega)
   obtain ⟨s8,e8⟩:=w2.sl f3.ok.lb (by omega)
   change Oq at c2
   have hc2:Oqw (clL c.K.D ((v2.2.2.2.1.drop 0).take (nP c.K))) c2:=hc2
   rw [e5] at hc2
   obtain ⟨s9,e9⟩:=hc2.sl2 (n:=nP c.K) (by rw [clL_len];exact q3) (by omega)
   have ns:=near_sum c.K H2 eA
   have nl:=dfL_le (g:=c.K.D) (d:=n') (A:=(fitL n' (l.take nn))) (P:=paK c.K (fitL n' (l.take nn))) (U:=U) (V:=mkR c.K.D V2)
   exfalso
   have gg:(!ieq (paK c.K ((w.1.2.2.1.drop 0).take n')) ((w.2.1.2.2.1.drop 0).take (nP c.K)) || decide ((c.K.t:Int)<(dsR ((u.2.2.2.1.drop 0).take n') ((w.1.2.2.1.drop 0).take n'):Int)+(dsR ((c2.2.2.2.1.drop 0).take ((v2.2.2.2.1.drop 0).take (nP c.K)).length) ((w.2.1.2.2.1.drop 0).take (nP c.K)):Int)) || decide ((dsR ((u.2.2.2.1.drop 0).take n') ((w.1.2.2.1.drop 0).take n'):Int)+(dsR ((c2.2.2.2.1.drop 0).take ((v2.2.2.2.1.drop 0).take (nP c.K)).length) ((w.2.1.2.2.1.drop 0).take (nP c.K)):Int)≠((ocZ c.K n' ((u.2.2.2.1.drop 0).take n') ((v2.2.2.2.1.drop 0).take (nP c.K))).length:Int)) || (decide ((dsR ((u.2.2.2.1.drop 0).take n') (((fitL n' (l.take nn)).drop 0).take n'):Int)+(dsR ((c1.2.2.2.1.drop 0).take ((v2.2.2.2.1.drop 0).take (nP c.K)).length) (((paK c.K (((fitL n' (l.take nn)).drop 0).take n')).drop 0).take (nP c.K)):Int)≤(c.K.t:Int)) && !ieq (((fitL n' (l.take nn)).drop 0).take n') ((w.1.2.2.1.drop 0).take n')))=true:=gg
   rw [e1,e5,q3,e9,e6,tA,tP,e7,e8,ieq_yes f3.pa] at gg
   simp only [Bool.not_true,nq,yd,Bool.and_eq_true,decide_eq_true_eq] at gg
   first
   | (rcases gg with (gg | gg) | ⟨gg,g2⟩
      · omega
      · omega
      · rw [(near_few c.K H2 yA eA hnN (by omega)).2,ieq_yes rfl] at g2
        cases g2)
 iterate 2
  focus
   rename_i y hy b1 g60 fa hfa p hp u0 hu0 v0 hv0 x hx e r hr d c1 hc1 w hw c2 hc2 gg fb hfb
   change Nat×List Int×Oq at r
   obtain ⟨j,V2,v2⟩:=r
   have d:(j:Int)<2:=ng d
   change Nat at fb
   first
   | exact inR64 (n:=(j:Int)+1) (by omega) (by omega)
   | (refine Stands.one ((j+1,fitL (nP c.K) (l3.take nn3),(true,fb,0,fitL (nP c.K) (l3.take nn3),nP c.K)):Nat×List Int×Oq) ⟨⟨by show j+1≤2;omega,⟨fitL_byt bl3,fitL_len⟩,⟨zc (zw _),by rw [fitL_len];exact zw _,by show nP c.K≤(fitL (nP c.K) (l3.take nn3)).length;rw [fitL_len];exact zw _,nofun⟩⟩,by show 2 - (j+1)<2 - j;omega,?_⟩
      exact vgo)
end
end
end Go.Vx
