/-
  Round 10: encode.New's contract; a Decoder: seek.
  Round 10: a Decoder: turn.
  Round 10: Decode: the walk.
  Round 10: Decode's contract.
  Round 10: a decoder made for the statements.
  Round 10: what Decode makes of a word: plain facts.
  Round 10: what Decode makes of words with their parity; of the chapter's examples: plain facts.
  Round 10: Decode in one way; the chapter's examples.
  Round 10: DecodeSpare: the walk.
  Round 10: DecodeSpare: the walk, another way.
  Conditions: none.
-/
import Derived.Test.YtfjogcklhibboaaGreatDoorM8
open Bool renaming false_and → yu, or_eq_false_iff → xd, true_and → yw, xor_false → vo
open Int renaming natCast_nonneg → vy, ofNat_tdiv → ym, ofNat_tmod → zb, tmod_nonneg → qn, toNat → sb, toNat_natCast → zo
open List renaming drop_zero → zq, eq_nil_of_length_eq_zero → vg, filter_congr → pm, foldl_append → uo, foldl_cons → ur, getD_eq_getElem?_getD → zy, length_append → zu, length_map → zm, length_set → zg, map_map → se, nodup_nil → uu, range → xj, take_left → ot, take_of_length_le → za, take_zero → rm
open Nat renaming ble → vz, ble_eq_true_of_le → om, blt → xz, le_refl → zx, lt_succ_self → wl, mod_lt → zc, mul_comm → xn, pow_le_pow_right → zi, two_pow_pos → yd
set_option linter.unusedVariables false
set_option linter.unusedSimpArgs false
set_option linter.unusedSectionVars false
set_option maxRecDepth 100000
namespace Go.Vx
open Go Go.Proofs
noncomputable section
variable [Gl]
section
variable {F:Gf} (K:Kd F)
abbrev NwY:=(Nat×(Nat×Nat×Nat)×Os×(Nat×Nat×List Int×Nat))×(Nat→Value)×List (Rw Int)
abbrev nwL (n:Nat) (y:NwY):List (Ck C0):=[⟨y.1.1,0,263,true,none,.one (.ptr 2 0 0 :: .int .i64 (K.t:Int) :: .int .i64 (n:Int) :: .int .i64 (K.D:Int) :: .int .i64 (nP K:Int) :: .sl 5 0 (nb K.G).length y.1.2.2.1.2.2.2 :: .sl 6 0 (nP K) y.1.2.2.2.2.2.2 :: tvC y.2.1)⟩,⟨0,0,1,false,some false,.rows 22 y.2.2⟩,
        ⟨y.1.2.1.1,0,4,true,none,.one [.int .i64 (F.m:Int),.int .i64 (szF F:Int),.sl 3 0 (nF F) (nF F),.sl 4 0 (szF F) (szF F)]⟩,⟨y.1.2.1.2.1,0,1,true,none,.rows 3 (xT F)⟩,⟨y.1.2.1.2.2,0,1,true,none,.rows 3 (lT F)⟩,osB true y.1.2.2.1,
        ⟨y.1.2.2.2.1,y.1.2.2.2.2.1,1,true,none,.rows 5 y.1.2.2.2.2.2.1⟩]
abbrev NwOK (y:NwY):Prop:=TvOK K 256 y.2.1 y.2.2∧nP K≤y.1.2.2.2.2.2.1.length∧y.1.2.2.2.2.2.1.take (nP K)=by' (nP K) (gK K)
def fcNew:Fc Tryz.prog C0 where
 tg:=.fn 27
 X:=Nat
 args n:=[.int .i64 (F.m:Int),.int .i64 (K.t:Int),.int .i64 (n:Int)]
 mem _:=[]
 pre n:=1≤n∧n≤2048∧8*n+K.D≤nF F
 alts n:=[⟨NwY,NwOK K,fun _=>.tup [.ptr 0 0 0,.nili],nwL K n⟩]
 mat vs m:=match vs with
  | [_,_,.int _ (n:Int)]=>some (n.toNat,[])
  | _=>none
 ok n h:=cnew_ok K n h.1 h.2.1 h.2.2
end
section
variable (F:Gf)
theorem seek_ok (bd qd bw qw bC qC t d g r bF qF be qe bl ql:Nat) (hd:d<100000) (hg:g<100000) (o:Bool) (b q:Nat) (l:List Int) (i n c:Nat) (o':Bool) (b' q':Nat) (l':List Int) (i' n' c':Nat) (bs qs:Nat) (S:List Int) (oL:Bool) (bL qL:Nat) (L:List Int) (z k:Nat) (hz:z≤k) (hk:k≤L.length) (hz2:z≤2048) (hoL:oL=false→z=0∧k=0) (len:Int) (W:List Int) (hW:L.take z=W):
 Does (C:=C0) Tryz.prog (.fn 36) (dwC F bd qd bw qw [.sl 6 i n c,.sl 7 i' n' c',.sl 8 0 (2*t) (2*t),.sl 9 0 z k,.int .i64 len,.nils,.bool .f] bC qC t d g r bF qF be qe bl ql ++ [⟨b,q,1,false,some o,.rows 5 l⟩,⟨b',q',1,false,some o',.rows 5 l'⟩,⟨bs,qs,1,false,none,.rows 3 S⟩,⟨bL,qL,1,false,some oL,.rows 3 L⟩]) [.ptr 0 0 0,.ptr 1 0 0]
  [⟨Oq,fun y=>Oqw (srL F W (8*(d:Int)+(g:Int))) y∧((srL F W (8*(d:Int)+(g:Int))).length:Int)≠len,fun y=>eV 1,fun y=>dwC F bd qd bw qw [.sl 6 i n c,.sl 7 i' n' c',.sl 8 0 (2*t) (2*t),.sl 9 0 z k,.int .i64 len,.sl 10 0 (srL F W (8*(d:Int)+(g:Int))).length y.2.2.2.2,.bool .f] bC qC t d g r bF qF be qe bl ql ++ [⟨b,q,1,false,some o,.rows 5 l⟩,⟨b',q',1,false,some o',.rows 5 l'⟩,⟨bs,qs,1,false,none,.rows 3 S⟩,⟨bL,qL,1,false,some oL,.rows 3 L⟩,oqC true y]⟩,
   ⟨Oq,fun y=>Oqw (srL F W (8*(d:Int)+(g:Int))) y∧((srL F W (8*(d:Int)+(g:Int))).length:Int)=len,fun y=>.nili,fun y=>dwC F bd qd bw qw [.sl 6 i n c,.sl 7 i' n' c',.sl 8 0 (2*t) (2*t),.sl 9 0 z k,.int .i64 len,.sl 10 0 (srL F W (8*(d:Int)+(g:Int))).length y.2.2.2.2,.bool .f] bC qC t d g r bF qF be qe bl ql ++ [⟨b,q,1,false,some o,.rows 5 l⟩,⟨b',q',1,false,some o',.rows 5 l'⟩,⟨bs,qs,1,false,none,.rows 3 S⟩,⟨bL,qL,1,false,some oL,.rows 3 L⟩,oqC true y]⟩]:=by
 refine loc_fn (P:=Tryz.prog) (E:=⟨[fcSearch F],[pcCoField,pcCoBits],34,[(1,[],[.p 0,.p 1,.p 2,.p 3,.p 6,.p 7,.p 8,.p 10,.p 11,.p 12,.q 4,.q 5,.q 9,.q 13,.q 14,.e 15,.p 16,.p 17,.e 18])],[],[],none⟩) (L:=[]) mix Tryz.func36 rfl (by kernel_rfl) (by kernel_rfl) rfl rfl ?_
 ((conv=>arg 1;reduce);with_reducible repeat' first | exact ty | refine ta ?_ ?_ | refine ti fun _ => ?_ | refine tf fun _ => ?_ | refine tl ?_)
 all_goals try exact vlf
 all_goals have eW:(L.drop 0).take (min z 2048)=W:=by rw [zq,Nat.min_eq_left hz2];exact hW
 · exact ⟨vy d,by show (d:Int)<_;omega,vy g,by show (g:Int)<_;omega⟩
 · exact ⟨⟨by show 0+z≤L.length;omega,by show z<1000000000;omega,hoL⟩,hz⟩
 · rename_i y hy e
   have hy:Oqw (srL F ((L.drop 0).take (min z 2048)) (8*(d:Int)+(g:Int))) y:=hy
   rw [eW] at hy e
   rw [eW]
   refine Ends.one (y:Oq) ⟨hy,ng e⟩ ?_
   exact vgo
 · rename_i y hy e
   have hy:Oqw (srL F ((L.drop 0).take (min z 2048)) (8*(d:Int)+(g:Int))) y:=hy
   rw [eW] at hy e
   rw [eW]
   refine Ends.next (Ends.one (y:Oq) ⟨hy,Classical.not_not.1 (nf e)⟩ ?_)
   exact vgo
def fcSeek:Fc Tryz.prog C0 where
 tg:=.fn 36
 X:=(Nat×Nat×Nat×Nat)×Co5×(Nat×Nat×Nat×Nat×Nat×Nat)×Sl3×Sl3×(Nat×Nat×List Int)×(Bool×Nat×Nat×List Int×Nat×Nat)×Int
 args _:=[.ptr 0 0 0,.ptr 1 0 0]
 mem:=fun ((bd,qd,bw,qw),(bC,qC,t,d,g,r),(bF,qF,be,qe,bl,ql),(o,b,q,l,i,n,c),(o',b',q',l',i',n',c'),(bs,qs,S),(oL,bL,qL,L,z,k),len)=>dwC F bd qd bw qw [.sl 6 i n c,.sl 7 i' n' c',.sl 8 0 (2*t) (2*t),.sl 9 0 z k,.int .i64 len,.nils,.bool .f] bC qC t d g r bF qF be qe bl ql ++ [⟨b,q,1,false,some o,.rows 5 l⟩,⟨b',q',1,false,some o',.rows 5 l'⟩,⟨bs,qs,1,false,none,.rows 3 S⟩,⟨bL,qL,1,false,some oL,.rows 3 L⟩]
 pre:=fun (_,(_,_,t,d,g,r),_,_,_,_,(oL,bL,qL,L,z,k),len)=>(d<100000∧g<100000)∧z≤k∧k≤L.length∧z≤2048∧(oL=false→z=0∧k=0)
 alts:=fun ((bd,qd,bw,qw),(bC,qC,t,d,g,r),(bF,qF,be,qe,bl,ql),(o,b,q,l,i,n,c),(o',b',q',l',i',n',c'),(bs,qs,S),(oL,bL,qL,L,z,k),len)=>[⟨Oq,fun y=>Oqw (srL F (L.take z) (8*(d:Int)+(g:Int))) y∧((srL F (L.take z) (8*(d:Int)+(g:Int))).length:Int)≠len,fun y=>eV 1,fun y=>dwC F bd qd bw qw [.sl 6 i n c,.sl 7 i' n' c',.sl 8 0 (2*t) (2*t),.sl 9 0 z k,.int .i64 len,.sl 10 0 (srL F (L.take z) (8*(d:Int)+(g:Int))).length y.2.2.2.2,.bool .f] bC qC t d g r bF qF be qe bl ql ++ [⟨b,q,1,false,some o,.rows 5 l⟩,⟨b',q',1,false,some o',.rows 5 l'⟩,⟨bs,qs,1,false,none,.rows 3 S⟩,⟨bL,qL,1,false,some oL,.rows 3 L⟩,oqC true y]⟩,
      ⟨Oq,fun y=>Oqw (srL F (L.take z) (8*(d:Int)+(g:Int))) y∧((srL F (L.take z) (8*(d:Int)+(g:Int))).length:Int)=len,fun y=>.nili,fun y=>dwC F bd qd bw qw [.sl 6 i n c,.sl 7 i' n' c',.sl 8 0 (2*t) (2*t),.sl 9 0 z k,.int .i64 len,.sl 10 0 (srL F (L.take z) (8*(d:Int)+(g:Int))).length y.2.2.2.2,.bool .f] bC qC t d g r bF qF be qe bl ql ++ [⟨b,q,1,false,some o,.rows 5 l⟩,⟨b',q',1,false,some o',.rows 5 l'⟩,⟨bs,qs,1,false,none,.rows 3 S⟩,⟨bL,qL,1,false,some oL,.rows 3 L⟩,oqC true y]⟩]
 mat vs m:=match vs with
  | [.ptr kk _ _,.ptr w _ _]=>match nth m kk,nth m w with
    | ⟨bd,qd,_,_,_,.one (.ptr p _ _ :: _)⟩,⟨bw,qw,_,_,_,.one (.sl s i n c :: .sl s' i' n' c' :: .sl y _ _ _ :: .sl v _ z k :: .int _ len :: _)⟩=>match nth m p with
      | ⟨bC,qC,_,_,_,.one (.ptr f _ _ :: .int _ (t:Nat) :: .int _ (d:Nat) :: .int _ (g:Nat) :: .int _ (r:Nat) :: _)⟩=>match nth m f with
        | ⟨bF,qF,_,_,_,.one (_ :: _ :: .sl x _ _ _ :: .sl h _ _ _ :: _)⟩=>match nth m x,nth m h,nth m s,nth m s',nth m y,nth m v with
          | ⟨be,qe,_,_,_,_⟩,⟨bl,ql,_,_,_,_⟩,⟨b,q,_,_,o,.rows 5 l⟩,⟨b',q',_,_,o',.rows 5 l'⟩,⟨bs,qs,_,_,_,.rows 3 S⟩,⟨bL,qL,_,_,oL,.rows 3 L⟩=>some (((bd,qd,bw,qw),(bC,qC,t,d,g,r),(bF,qF,be,qe,bl,ql),(onOf o,b,q,l,i,n,c),(onOf o',b',q',l',i',n',c'),(bs,qs,S),(onOf oL,bL,qL,L,z,k),len),[kk,w,p,f,x,h,s,s',y,v])
          | _,_,_,_,_,_=>none
        | _=>none
      | _=>none
    | _,_=>none
  | _=>none
 ok:=fun ((bd,qd,bw,qw),(bC,qC,t,d,g,r),(bF,qF,be,qe,bl,ql),(o,b,q,l,i,n,c),(o',b',q',l',i',n',c'),(bs,qs,S),(oL,bL,qL,L,z,k),len) h=>seek_ok F bd qd bw qw bC qC t d g r bF qF be qe bl ql h.1.1 h.1.2 o b q l i n c o' b' q' l' i' n' c' bs qs S oL bL qL L z k h.2.1 h.2.2.1 h.2.2.2.1 h.2.2.2.2 len _ rfl
end
end
end Go.Vx
namespace Go.Vx
open Go Go.Proofs
noncomputable section
variable [Gl]
@[irreducible] def tnD (g:Nat) (D:List Int) (zs:List Int):List Int:=zs.foldl (fun D z=>fpD g D z.toNat) D
@[irreducible] def tnP (g:Nat) (R:List Int) (zs:List Int):List Int:=zs.foldl (fun R z=>fpP g R z.toNat) R
theorem tnD_zero {g:Nat} {D:List Int}:tnD g D []=D:=by unfold tnD;rfl
theorem tnP_zero {g:Nat} {D:List Int}:tnP g D []=D:=by unfold tnP;rfl
theorem tnD_succ {g:Nat} {D zs:List Int} {j:Nat} (h:j<zs.length):tnD g D (zs.take (j+1))=fpD g (tnD g D (zs.take j)) (zs.getD j 0).toNat:=by
 unfold tnD;rw [take_snoc h,uo];rfl
theorem tnP_succ {g:Nat} {D zs:List Int} {j:Nat} (h:j<zs.length):tnP g D (zs.take (j+1))=fpP g (tnP g D (zs.take j)) (zs.getD j 0).toNat:=by
 unfold tnP;rw [take_snoc h,uo];rfl
theorem tnD_len {g:Nat} {D zs:List Int}:(tnD g D zs).length=D.length:=by
 unfold tnD
 induction zs generalizing D with
 | nil=>rfl
 | cons z zs ih=>rw [ur,ih,fpD_len]
theorem tnP_len {g:Nat} {D zs:List Int}:(tnP g D zs).length=D.length:=by
 unfold tnP
 induction zs generalizing D with
 | nil=>rfl
 | cons z zs ih=>rw [ur,ih,fpP_len]
section
variable (F:Gf)
def Tn0:Inv' C0:=⟨2,Unit,fun _=>[(12,.int .i64 0)],fun _ m=>m,fun _=>True,fun _=>1000000000⟩
def Tn1 (d r g z:Nat) (D R Z:List Int) (zz:z=Z.length):Inv' C0:=⟨2,Nat×Os×Os,fun x=>[(12,.int .i64 (x.1:Int))],fun x m=>match m with
 | a0 :: ⟨bw,qw,_,_,_,.one (_ :: _ :: w2 :: w3 :: w4 :: w5 :: w6 :: _)⟩ :: a2 :: a3 :: a4 :: a5 :: a6 :: a7 :: a8 :: a9 :: a10 :: _=>
   [a0,⟨bw,qw,7,true,none,.one [.sl 11 0 d x.2.1.2.2.2,.sl 12 0 r x.2.2.2.2.2,w2,w3,w4,w5,w6]⟩,a2,a3,a4,a5,a6,a7,a8,a9,a10,osB true x.2.1,osB true x.2.2]
 | m=>m,fun x=>(1≤x.1∧x.1≤z)∧Ow (tnD g D (Z.take x.1)) x.2.1∧Ow (tnP g R (Z.take x.1)) x.2.2,fun x=>z - x.1⟩
theorem turn_ok (bd qd bw qw bC qC t d g r bF qF be qe bl ql:Nat) (hd:d<100000) (hg:g≤8*r) (hr:r<100000) (o:Bool) (b q:Nat) (l:List Int) (i c:Nat) (h:i+d≤l.length) (hc:d≤c) (ho:o=false→d=0∧c=0) (o':Bool) (b' q':Nat) (l':List Int) (i' c':Nat) (h':i'+r≤l'.length) (hc':r≤c') (ho':o'=false→r=0∧c'=0) (bs qs:Nat) (S:List Int) (oL:Bool) (bL qL:Nat) (L:List Int) (w3 k3:Nat) (len:Int) (oZ:Bool) (bZ qZ:Nat) (zl:List Int) (z k:Nat) (hz:z≤k) (hk:k≤zl.length) (hz2:z<1000000) (hoZ:oZ=false→z=0∧k=0) (Z:List Int) (hZ:zl.take z=Z) (hzz:∀ x∈Z,0≤x∧x<8*(d:Int)+(g:Int)) (D R:List Int) (hD:(l.drop i).take d=D) (hR:(l'.drop i').take r=R):
 Does (C:=C0) Tryz.prog (.fn 37) (dwC F bd qd bw qw [.sl 6 i d c,.sl 7 i' r c',.sl 8 0 (2*t) (2*t),.sl 9 0 w3 k3,.int .i64 len,.sl 10 0 z k,.bool .f] bC qC t d g r bF qF be qe bl ql ++ [⟨b,q,1,false,some o,.rows 5 l⟩,⟨b',q',1,false,some o',.rows 5 l'⟩,⟨bs,qs,1,false,none,.rows 3 S⟩,⟨bL,qL,1,false,some oL,.rows 3 L⟩,⟨bZ,qZ,1,false,some oZ,.rows 3 zl⟩]) [.ptr 0 0 0,.ptr 1 0 0]
  [⟨Unit,fun _=>z=0,fun _=>.nili,fun y=>dwC F bd qd bw qw [.sl 6 i d c,.sl 7 i' r c',.sl 8 0 (2*t) (2*t),.sl 9 0 w3 k3,.int .i64 len,.sl 10 0 z k,.bool .f] bC qC t d g r bF qF be qe bl ql ++ [⟨b,q,1,false,some o,.rows 5 l⟩,⟨b',q',1,false,some o',.rows 5 l'⟩,⟨bs,qs,1,false,none,.rows 3 S⟩,⟨bL,qL,1,false,some oL,.rows 3 L⟩,⟨bZ,qZ,1,false,some oZ,.rows 3 zl⟩]⟩,
   ⟨Os×Os,fun y=>z≠0∧Ow (tnD g D Z) y.1∧Ow (tnP g R Z) y.2,fun _=>.nili,fun y=>dwC F bd qd bw qw [.sl 11 0 d y.1.2.2.2,.sl 12 0 r y.2.2.2.2,.sl 8 0 (2*t) (2*t),.sl 9 0 w3 k3,.int .i64 len,.sl 10 0 z k,.bool .f] bC qC t d g r bF qF be qe bl ql ++ [⟨b,q,1,false,some o,.rows 5 l⟩,⟨b',q',1,false,some o',.rows 5 l'⟩,⟨bs,qs,1,false,none,.rows 3 S⟩,⟨bL,qL,1,false,some oL,.rows 3 L⟩,⟨bZ,qZ,1,false,some oZ,.rows 3 zl⟩,osB true y.1,osB true y.2]⟩]:=by
 have zz:z=Z.length:=by rw [← hZ,List.length_take];omega
 have zv:∀ j,j<z→zl.getD j 0=Z.getD j 0:=fun j hj=>by rw [← hZ];simp only [zy];rw [List.getElem?_take_of_lt hj]
 refine loc_fn (P:=Tryz.prog) (E:=⟨[fcFlip],[],44,[(4,[],[.p 0,.p 1,.p 2,.p 3,.p 4,.p 6,.p 7,.p 8,.p 10,.p 11,.p 12,.p 14,.q 5,.q 9,.q 13,.e 15,.p 16,.p 17,.p 18,.p 19,.p 20,.p 21,.e 22,.p 23,.p 24,.e 25,.p 26])],[],[],none⟩) (L:=[Tn0,Tn1 d r g z D R Z zz]) mix Tryz.func37 rfl (by kernel_rfl) (by kernel_rfl) rfl rfl ?_
 ((conv=>arg 1;reduce);with_reducible repeat' first | exact ty | refine ta ?_ ?_ | refine ti fun _ => ?_ | refine tf fun _ => ?_ | refine tl ?_)
 all_goals try exact vlf
 · exact Stands.one () ⟨trivial,by exact vgo⟩
 all_goals try (
  rename_i x hx e
  have e:(0:Int)<(z:Int):=ng e
  have zv0:zl.getD ((0:Int).toNat+0) 0=Z.getD 0 0:=zv 0 (by omega)
  have zb0:=hzz _ (getD_mem (l:=Z) (d:=0) (i:=0) (by omega))
  first
  | exact e
  | exact on_of hoZ (by omega)
  | (show 0<zl.length;omega)
  | (refine ⟨⟨h,hc,ho⟩,⟨h',hc',ho'⟩,hd,hr,?_,?_,?_⟩
     · show (g:Int).toNat≤8*r;omega
     · show 0≤zl.getD ((0:Int).toNat+0) 0;rw [zv0];omega
     · show zl.getD ((0:Int).toNat+0) 0<8*(d:Int)+(((g:Int).toNat:Nat):Int);rw [zv0];omega))
 · rename_i x hx e y hy
   have e:(0:Int)<(z:Int):=ng e
   have zv0:zl.getD ((0:Int).toNat+0) 0=Z.getD 0 0:=zv 0 (by omega)
   obtain ⟨y1,y2⟩:=y
   obtain ⟨hy1,hy2⟩:Ow (fpD (g:Int).toNat ((l.drop i).take d) (zl.getD ((0:Int).toNat+0) 0).toNat) y1∧Ow (fpP (g:Int).toNat ((l'.drop i').take r) (zl.getD ((0:Int).toNat+0) 0).toNat) y2:=hy
   rw [hD,zv0,zo] at hy1
   rw [hR,zv0,zo] at hy2
   refine Stands.next (Stands.one ((1,y1,y2):Nat×Os×Os) ⟨⟨⟨zx 1,by show 1≤z;omega⟩,?_,?_⟩,by show z - 1<1000000000;omega,?_⟩)
   · show Ow (tnD g D (Z.take (0+1))) y1
     rw [tnD_succ (by omega),rm,tnD_zero];exact hy1
   · show Ow (tnP g R (Z.take (0+1))) y2
     rw [tnP_succ (by omega),rm,tnP_zero];exact hy2
   exact vgo
 · rename_i x hx e
   have e:¬ (0:Int)<(z:Int):=nf e
   refine Ends.one () (show z=0 by omega) ?_
   exact vgo
 all_goals try (
  rename_i x hx e
  obtain ⟨j,y1,y2⟩:=x
  obtain ⟨⟨k1,k2⟩,k3,k4⟩:(1≤j∧j≤z)∧Ow (tnD g D (Z.take j)) y1∧Ow (tnP g R (Z.take j)) y2:=hx
  have e:(j:Int)<(z:Int):=ng e
  have zvj:zl.getD ((j:Int).toNat+0) 0=Z.getD j 0:=zv j (by omega)
  have zbj:=hzz _ (getD_mem (l:=Z) (d:=0) (i:=j) (by omega))
  have lD:(tnD g D (Z.take j)).length=d:=by rw [tnD_len,← hD];exact row_len h
  have lR:(tnP g R (Z.take j)).length=r:=by rw [tnP_len,← hR];exact row_len h'
  first
  | exact e
  | exact on_of hoZ (by omega)
  | (show (j:Int).toNat+0<zl.length;omega)
  | (refine ⟨⟨?_,by rw [← lD];exact k3.cap,fun e=>by rw [← lD];exact k3.nil e⟩,⟨?_,by rw [← lR];exact k4.cap,fun e=>by rw [← lR];exact k4.nil e⟩,hd,hr,?_,?_,?_⟩
     · have a1:=k3.cap;have a2:=k3.len;show 0+d≤y1.2.2.1.length;omega
     · have a1:=k4.cap;have a2:=k4.len;show 0+r≤y2.2.2.1.length;omega
     · show (g:Int).toNat≤8*r;omega
     · show 0≤zl.getD ((j:Int).toNat+0) 0;rw [zvj];omega
     · show zl.getD ((j:Int).toNat+0) 0<8*(d:Int)+(((g:Int).toNat:Nat):Int);rw [zvj];omega))
 all_goals try (
  rename_i x hx e y hy
  obtain ⟨j,x1,x2⟩:=x
  obtain ⟨⟨k1,k2⟩,k3,k4⟩:(1≤j∧j≤z)∧Ow (tnD g D (Z.take j)) x1∧Ow (tnP g R (Z.take j)) x2:=hx
  have e:(j:Int)<(z:Int):=ng e
  have zvj:zl.getD ((j:Int).toNat+0) 0=Z.getD j 0:=zv j (by omega)
  have lD:(tnD g D (Z.take j)).length=d:=by rw [tnD_len,← hD];exact row_len h
  have lR:(tnP g R (Z.take j)).length=r:=by rw [tnP_len,← hR];exact row_len h'
  first
  | exact inR64 (n:=(j:Int)+1) (by omega) (by omega)
  | (obtain ⟨y1,y2⟩:=y
     obtain ⟨hy1,hy2⟩:Ow (fpD (g:Int).toNat ((x1.2.2.1.drop 0).take d) (zl.getD ((j:Int).toNat+0) 0).toNat) y1∧Ow (fpP (g:Int).toNat ((x2.2.2.1.drop 0).take r) (zl.getD ((j:Int).toNat+0) 0).toNat) y2:=hy
     have ed:(x1.2.2.1.drop 0).take d=tnD g D (Z.take j):=by have:=k3.eq;rw [lD] at this;exact this
     have er:(x2.2.2.1.drop 0).take r=tnP g R (Z.take j):=by have:=k4.eq;rw [lR] at this;exact this
     rw [ed,zvj,zo] at hy1
     rw [er,zvj,zo] at hy2
     refine Stands.next (Stands.one ((j+1,y1,y2):Nat×Os×Os) ⟨⟨⟨by show 1≤j+1;omega,by show j+1≤z;omega⟩,?_,?_⟩,by show z - (j+1)<z - j;omega,?_⟩)
     · show Ow (tnD g D (Z.take (j+1))) y1
       rw [tnD_succ (by omega)];exact hy1
     · show Ow (tnP g R (Z.take (j+1))) y2
       rw [tnP_succ (by omega)];exact hy2
     exact vgo))
 · rename_i x hx e
   obtain ⟨j,x1,x2⟩:=x
   obtain ⟨⟨k1,k2⟩,k3,k4⟩:(1≤j∧j≤z)∧Ow (tnD g D (Z.take j)) x1∧Ow (tnP g R (Z.take j)) x2:=hx
   have e:¬ (j:Int)<(z:Int):=nf e
   obtain rfl:j=z:=by omega
   have ez:Z.take j=Z:=by rw [za (by omega)]
   rw [ez] at k3 k4
   refine Ends.next (Ends.one ((x1,x2):Os×Os) ⟨by omega,k3,k4⟩ ?_)
   exact vgo
def fcTurn:Fc Tryz.prog C0 where
 tg:=.fn 37
 X:=(Nat×Nat×Nat×Nat)×Co5×(Nat×Nat×Nat×Nat×Nat×Nat)×(Bool×Nat×Nat×List Int×Nat×Nat)×(Bool×Nat×Nat×List Int×Nat×Nat)×(Nat×Nat×List Int)×(Bool×Nat×Nat×List Int×Nat×Nat)×Int×(Bool×Nat×Nat×List Int×Nat×Nat)
 args _:=[.ptr 0 0 0,.ptr 1 0 0]
 mem:=fun ((bd,qd,bw,qw),(bC,qC,t,d,g,r),(bF,qF,be,qe,bl,ql),(o,b,q,l,i,c),(o',b',q',l',i',c'),(bs,qs,S),(oL,bL,qL,L,w3,k3),len,(oZ,bZ,qZ,zl,z,k))=>dwC F bd qd bw qw [.sl 6 i d c,.sl 7 i' r c',.sl 8 0 (2*t) (2*t),.sl 9 0 w3 k3,.int .i64 len,.sl 10 0 z k,.bool .f] bC qC t d g r bF qF be qe bl ql ++ [⟨b,q,1,false,some o,.rows 5 l⟩,⟨b',q',1,false,some o',.rows 5 l'⟩,⟨bs,qs,1,false,none,.rows 3 S⟩,⟨bL,qL,1,false,some oL,.rows 3 L⟩,⟨bZ,qZ,1,false,some oZ,.rows 3 zl⟩]
 pre:=fun (_,(_,_,t,d,g,r),_,(o,b,q,l,i,c),(o',b',q',l',i',c'),_,_,_,(oZ,bZ,qZ,zl,z,k))=>(d<100000∧g≤8*r∧r<100000)∧(i+d≤l.length∧d≤c∧(o=false→d=0∧c=0))∧(i'+r≤l'.length∧r≤c'∧(o'=false→r=0∧c'=0))∧(z≤k∧k≤zl.length∧z<1000000∧(oZ=false→z=0∧k=0))∧∀ x∈zl.take z,0≤x∧x<8*(d:Int)+(g:Int)
 alts:=fun ((bd,qd,bw,qw),(bC,qC,t,d,g,r),(bF,qF,be,qe,bl,ql),(o,b,q,l,i,c),(o',b',q',l',i',c'),(bs,qs,S),(oL,bL,qL,L,w3,k3),len,(oZ,bZ,qZ,zl,z,k))=>[⟨Unit,fun _=>z=0,fun _=>.nili,fun y=>dwC F bd qd bw qw [.sl 6 i d c,.sl 7 i' r c',.sl 8 0 (2*t) (2*t),.sl 9 0 w3 k3,.int .i64 len,.sl 10 0 z k,.bool .f] bC qC t d g r bF qF be qe bl ql ++ [⟨b,q,1,false,some o,.rows 5 l⟩,⟨b',q',1,false,some o',.rows 5 l'⟩,⟨bs,qs,1,false,none,.rows 3 S⟩,⟨bL,qL,1,false,some oL,.rows 3 L⟩,⟨bZ,qZ,1,false,some oZ,.rows 3 zl⟩]⟩,
      ⟨Os×Os,fun y=>z≠0∧Ow (tnD g ((l.drop i).take d) (zl.take z)) y.1∧Ow (tnP g ((l'.drop i').take r) (zl.take z)) y.2,fun _=>.nili,fun y=>dwC F bd qd bw qw [.sl 11 0 d y.1.2.2.2,.sl 12 0 r y.2.2.2.2,.sl 8 0 (2*t) (2*t),.sl 9 0 w3 k3,.int .i64 len,.sl 10 0 z k,.bool .f] bC qC t d g r bF qF be qe bl ql ++ [⟨b,q,1,false,some o,.rows 5 l⟩,⟨b',q',1,false,some o',.rows 5 l'⟩,⟨bs,qs,1,false,none,.rows 3 S⟩,⟨bL,qL,1,false,some oL,.rows 3 L⟩,⟨bZ,qZ,1,false,some oZ,.rows 3 zl⟩,osB true y.1,osB true y.2]⟩]
 mat vs m:=match vs with
  | [.ptr kk _ _,.ptr w _ _]=>match nth m kk,nth m w with
    | ⟨bd,qd,_,_,_,.one (.ptr p _ _ :: _)⟩,⟨bw,qw,_,_,_,.one (.sl s i _ c :: .sl s' i' _ c' :: .sl y _ _ _ :: .sl v _ w3 k3 :: .int _ len :: .sl u _ z k :: _)⟩=>match nth m p with
      | ⟨bC,qC,_,_,_,.one (.ptr f _ _ :: .int _ (t:Nat) :: .int _ (d:Nat) :: .int _ (g:Nat) :: .int _ (r:Nat) :: _)⟩=>match nth m f with
        | ⟨bF,qF,_,_,_,.one (_ :: _ :: .sl x _ _ _ :: .sl h _ _ _ :: _)⟩=>match nth m x,nth m h,nth m s,nth m s',nth m y,nth m v,nth m u with
          | ⟨be,qe,_,_,_,_⟩,⟨bl,ql,_,_,_,_⟩,⟨b,q,_,_,o,.rows 5 l⟩,⟨b',q',_,_,o',.rows 5 l'⟩,⟨bs,qs,_,_,_,.rows 3 S⟩,⟨bL,qL,_,_,oL,.rows 3 L⟩,⟨bZ,qZ,_,_,oZ,.rows 3 zl⟩=>some (((bd,qd,bw,qw),(bC,qC,t,d,g,r),(bF,qF,be,qe,bl,ql),(onOf o,b,q,l,i,c),(onOf o',b',q',l',i',c'),(bs,qs,S),(onOf oL,bL,qL,L,w3,k3),len,(onOf oZ,bZ,qZ,zl,z,k)),[kk,w,p,f,x,h,s,s',y,v,u])
          | _,_,_,_,_,_,_=>none
        | _=>none
      | _=>none
    | _,_=>none
  | _=>none
 ok:=fun ((bd,qd,bw,qw),(bC,qC,t,d,g,r),(bF,qF,be,qe,bl,ql),(o,b,q,l,i,c),(o',b',q',l',i',c'),(bs,qs,S),(oL,bL,qL,L,w3,k3),len,(oZ,bZ,qZ,zl,z,k)) h=>turn_ok F bd qd bw qw bC qC t d g r bF qF be qe bl ql h.1.1 h.1.2.1 h.1.2.2 o b q l i c h.2.1.1 h.2.1.2.1 h.2.1.2.2 o' b' q' l' i' c' h.2.2.1.1 h.2.2.1.2.1 h.2.2.1.2.2 bs qs S oL bL qL L w3 k3 len oZ bZ qZ zl z k h.2.2.2.1.1 h.2.2.2.1.2.1 h.2.2.2.1.2.2.1 h.2.2.2.1.2.2.2 _ rfl h.2.2.2.2 _ _ rfl rfl
end
end
end Go.Vx
namespace Go.Vx
open Go Go.Proofs
noncomputable section
variable [Gl]
@[irreducible] def mkR (g:Nat) (R:List Int):List Int:=if g % 8=0 then R else R.set (R.length - 1) (ibit .and .u8 (R.getD (R.length - 1) 0) ((2 ^ (g % 8) - 1:Nat):Int))
theorem blt0 {n:Nat} (e:vz 1 n=false):n=0:=by
 by_cases h:1≤n
 · rw [om h] at e;cases e
 · omega
theorem mkR_len {g:Nat} {R:List Int}:(mkR g R).length=R.length:=by unfold mkR;split;rfl;rw [zg]
theorem mk_none {g:Nat} {R sp:List Int} (h:g % 8=0):(R ++ sp).take (mkR g R).length=mkR g R:=by
 rw [mkR_len,ot];unfold mkR;rw [if_pos h]
theorem msk8 {k:Nat} (h:k<8):IntKind.u8.wrap (ishl .u8 1 (k:Int) - 1)=((2 ^ k - 1:Nat):Int):=by
 rw [shl1_8 h]
 have:∀ k:Fin 8,IntKind.u8.wrap (((2 ^ k.1:Nat):Int) - 1)=((2 ^ k.1 - 1:Nat):Int):=by decide
 exact this ⟨k,h⟩
theorem mk_mask {g n' r:Nat} {R sp:List Int} (e2:n'=r) (lR:R.length=n') (hgr:r=(g+7) / 8) (hg1:1≤g) (h:g % 8≠0):
 ((R ++ sp).set (((n':Int) - 1).toNat+0) (ibit .and .u8 ((R ++ sp).getD (((n':Int) - 1).toNat+0) 0) (IntKind.u8.wrap (ishl .u8 1 ((g:Int).tmod 8) - 1)))).take (mkR g R).length=mkR g R:=by
 have q8:(g:Int).tmod 8=((g % 8:Nat):Int):=(zb g 8).symm
 have e:((n':Int) - 1).toNat+0=R.length - 1:=by omega
 rw [mkR_len,e,q8,msk8 (zc _ (by omega)),List.set_append_left _ _ (by omega),List.take_append_of_le_length (by rw [zg];exact zx _),za (by rw [zg];exact zx _)]
 unfold mkR
 rw [if_neg h]
 congr 2
 simp only [zy,List.getElem?_append_left (show R.length - 1<R.length by omega)]
theorem mkR_byt {g:Nat} {R:List Int} (h:Byt8 R):Byt8 (mkR g R):=by
 unfold mkR
 split
 · exact h
 · by_cases h0:R.length=0
   · rw [vg h0];exact fun x hx=>nomatch hx
   · obtain ⟨x,hx,x1,x2⟩:=byt_at h (show R.length - 1<R.length by omega)
     refine byt_set h ?_
     rw [hx,and8 x1 (Nat.lt_of_lt_of_le (Nat.sub_lt (yd _) (by omega)) (show 2 ^ (g % 8)≤2 ^ 8 from zi (by omega) (by omega)))]
     have:x &&& (2 ^ (g % 8) - 1)≤x:=Nat.and_le_left
     omega
section
variable (F:Gf)
@[irreducible] def dcS (t d g:Nat) (D R:List Int):List Int:=svL F (psL g D (mkR g R) (8*d+g)) (2*t)
@[irreducible] def dcL (t d g:Nat) (D R:List Int):List Int:=wkL F (dcS F t d g D R)
@[irreducible] def dcN (t d g:Nat) (D R:List Int):Nat:=wkN F (dcS F t d g D R)
@[irreducible] def dcZ (t d g:Nat) (D R:List Int):List Int:=srL F (dcL F t d g D R) (8*(d:Int)+(g:Int))
theorem dcL_eq {t d g:Nat} {D R:List Int}:dcL F t d g D R=wkL F (dcS F t d g D R):=by unfold dcL;rfl
theorem dcN_eq {t d g:Nat} {D R:List Int}:dcN F t d g D R=wkN F (dcS F t d g D R):=by unfold dcN;rfl
theorem dcZ_eq {t d g:Nat} {D R:List Int}:dcZ F t d g D R=srL F (dcL F t d g D R) (8*(d:Int)+(g:Int)):=by unfold dcZ;rfl
theorem dcS_len {t d g:Nat} {D R:List Int}:(dcS F t d g D R).length=2*t:=by unfold dcS;exact svL_len F
theorem dcL_len {t d g:Nat} {D R:List Int}:(dcL F t d g D R).length≤2*t+1:=by rw [dcL_eq];have:=wkL_le F (S:=dcS F t d g D R);rw [dcS_len] at this;exact this
theorem rtL_rng {P:List Int} {k:Nat} (x:Int) (h:x∈rtL F P k):0≤x∧x<(k:Int):=by
 unfold rtL at h
 obtain ⟨a,ha,rfl⟩:=List.mem_map.1 h
 have:=List.mem_range.1 (List.mem_filter.1 ha).1
 omega
theorem dcZ_rng {t d g:Nat} {D R:List Int} (x:Int) (h:x∈dcZ F t d g D R):0≤x∧x<8*(d:Int)+(g:Int):=by
 rw [dcZ_eq] at h;unfold srL at h
 have:=rtL_rng F x h
 omega
theorem dcZ_len {t d g:Nat} {D R:List Int}:(dcZ F t d g D R).length≤8*d+g:=by
 rw [dcZ_eq];unfold srL
 have:=rtL_len (F:=F) (P:=trL F (dcL F t d g D R)) (i:=(max 0 (min (8*(d:Int)+(g:Int)) ((szF F:Int) - 1))).toNat)
 omega
abbrev dcC (F:Gf) (bd qd bC qC t d g r bF qF be qe bl ql:Nat):List (Ck C0):=
 [⟨bd,qd,1,false,none,.one [.ptr 1 0 0]⟩,⟨bC,qC,263,false,none,.one [.ptr 2 0 0,.int .i64 (t:Int),.int .i64 (d:Int),.int .i64 (g:Int),.int .i64 (r:Int)]⟩,
  ⟨bF,qF,4,false,none,.one [.int .i64 (F.m:Int),.int .i64 (szF F:Int),.sl 3 0 (nF F) (nF F),.sl 4 0 (szF F) (szF F)]⟩,xCk F be qe,lCk F bl ql]
def Dc0 (H:Prop) (d r g:Nat) (D R:List Int):Inv' C0:=⟨8,Os×Os,fun _=>[(75,.int .i64 0)],fun x m=>match m with
 | a0 :: a1 :: a2 :: a3 :: a4 :: a5 :: a6 :: c7 :: c8 :: ⟨bw,qw,_,_,_,_⟩ :: fs :: _=>
   [a0,a1,a2,a3,a4,a5,a6,osB true x.1,osB true x.2,⟨bw,qw,7,true,none,.one [.sl 7 0 d x.1.2.2.2,.sl 8 0 r x.2.2.2.2,.nils,.nils,.int .i64 0,.nils,.bool .f]⟩,fs]
 | m=>m,fun x=>H∧Ow D x.1∧Ow (mkR g R) x.2,fun _=>5⟩
def Dc1 (H:Prop) (t d r g:Nat) (D R:List Int):Inv' C0:=⟨8,Os×Os×Nat,fun _=>[(75,.int .i64 1)],fun x m=>match m with
 | a0 :: a1 :: a2 :: a3 :: a4 :: a5 :: a6 :: c7 :: c8 :: ⟨bw,qw,_,_,_,_⟩ :: fs :: _=>
   [a0,a1,a2,a3,a4,a5,a6,osB true x.1,osB true x.2.1,⟨bw,qw,7,true,none,.one [.sl 7 0 d x.1.2.2.2,.sl 8 0 r x.2.1.2.2.2,.sl 11 0 (2*t) (2*t),.nils,.int .i64 0,.nils,.bool (SB.tm (clnB (dcS F t d g D R)))]⟩,fs,⟨x.2.2,0,1,true,none,.rows 3 (dcS F t d g D R)⟩]
 | m=>m,fun x=>H∧Ow D x.1∧Ow (mkR g R) x.2.1,fun _=>4⟩
def Dc2 (H:Prop) (t d r g:Nat) (D R:List Int):Inv' C0:=⟨8,Os×Os×Nat×Os,fun _=>[(75,.int .i64 2)],fun x m=>match m with
 | a0 :: a1 :: a2 :: a3 :: a4 :: a5 :: a6 :: c7 :: c8 :: ⟨bw,qw,_,_,_,_⟩ :: fs :: _=>
   [a0,a1,a2,a3,a4,a5,a6,osB true x.1,osB true x.2.1,⟨bw,qw,7,true,none,.one [.sl 7 0 d x.1.2.2.2,.sl 8 0 r x.2.1.2.2.2,.sl 11 0 (2*t) (2*t),.sl 12 0 (dcL F t d g D R).length x.2.2.2.2.2.2,.int .i64 (dcN F t d g D R:Int),.nils,.bool .f]⟩,fs,⟨x.2.2.1,0,1,true,none,.rows 3 (dcS F t d g D R)⟩,osC true x.2.2.2]
 | m=>m,fun x=>H∧clnB (dcS F t d g D R)=false∧¬ (t<dcN F t d g D R∨(dcL F t d g D R).length≠dcN F t d g D R+1)∧Ow D x.1∧Ow (mkR g R) x.2.1∧Ow (dcL F t d g D R) x.2.2.2,fun _=>3⟩
def Dc3 (H:Prop) (t d r g:Nat) (D R:List Int):Inv' C0:=⟨8,(Os×Os×Nat×Os)×Oq,fun _=>[(75,.int .i64 3)],fun x m=>match m with
 | a0 :: a1 :: a2 :: a3 :: a4 :: a5 :: a6 :: c7 :: c8 :: ⟨bw,qw,_,_,_,_⟩ :: fs :: _=>
   [a0,a1,a2,a3,a4,a5,a6,osB true x.1.1,osB true x.1.2.1,⟨bw,qw,7,true,none,.one [.sl 7 0 d x.1.1.2.2.2,.sl 8 0 r x.1.2.1.2.2.2,.sl 11 0 (2*t) (2*t),.sl 12 0 (dcL F t d g D R).length x.1.2.2.2.2.2.2,.int .i64 (dcN F t d g D R:Int),.sl 13 0 (dcZ F t d g D R).length x.2.2.2.2.2,.bool .f]⟩,fs,⟨x.1.2.2.1,0,1,true,none,.rows 3 (dcS F t d g D R)⟩,osC true x.1.2.2.2,oqC true x.2]
 | m=>m,fun x=>H∧clnB (dcS F t d g D R)=false∧(¬ (t<dcN F t d g D R∨(dcL F t d g D R).length≠dcN F t d g D R+1)∧(dcZ F t d g D R).length=dcN F t d g D R)∧(Ow D x.1.1∧Ow (mkR g R) x.1.2.1∧Ow (dcL F t d g D R) x.1.2.2.2)∧Oqw (dcZ F t d g D R) x.2,fun _=>2⟩
def Dc4 (H:Prop) (t d r g:Nat) (D R:List Int):Inv' C0:=⟨8,(Os×Os×Nat×Os)×Oq,fun _=>[(75,.int .i64 4)],fun x m=>match m with
 | a0 :: a1 :: a2 :: a3 :: a4 :: a5 :: a6 :: c7 :: c8 :: ⟨bw,qw,_,_,_,_⟩ :: fs :: _=>
   [a0,a1,a2,a3,a4,a5,a6,osB true x.1.1,osB true x.1.2.1,⟨bw,qw,7,true,none,.one [.sl 7 0 d x.1.1.2.2.2,.sl 8 0 r x.1.2.1.2.2.2,.sl 11 0 (2*t) (2*t),.sl 12 0 (dcL F t d g D R).length x.1.2.2.2.2.2.2,.int .i64 (dcN F t d g D R:Int),.sl 13 0 (dcZ F t d g D R).length x.2.2.2.2.2,.bool .f]⟩,fs,⟨x.1.2.2.1,0,1,true,none,.rows 3 (dcS F t d g D R)⟩,osC true x.1.2.2.2,oqC true x.2]
 | m=>m,fun x=>H∧clnB (dcS F t d g D R)=false∧(¬ (t<dcN F t d g D R∨(dcL F t d g D R).length≠dcN F t d g D R+1)∧(dcZ F t d g D R).length=dcN F t d g D R)∧(Ow (tnD g D (dcZ F t d g D R)) x.1.1∧Ow (tnP g (mkR g R) (dcZ F t d g D R)) x.1.2.1)∧Oqw (dcZ F t d g D R) x.2,fun _=>1⟩
def Dc5 (H:Prop) (t d r g:Nat) (D R:List Int):Inv' C0:=⟨8,(Os×Os×Nat×Os)×Oq×Os×Os,fun _=>[(75,.int .i64 4)],fun x m=>match m with
 | a0 :: a1 :: a2 :: a3 :: a4 :: a5 :: a6 :: c7 :: c8 :: ⟨bw,qw,_,_,_,_⟩ :: fs :: _=>
   [a0,a1,a2,a3,a4,a5,a6,osB true x.1.1,osB true x.1.2.1,⟨bw,qw,7,true,none,.one [.sl 14 0 d x.2.2.1.2.2.2,.sl 15 0 r x.2.2.2.2.2.2,.sl 11 0 (2*t) (2*t),.sl 12 0 (dcL F t d g D R).length x.1.2.2.2.2.2.2,.int .i64 (dcN F t d g D R:Int),.sl 13 0 (dcZ F t d g D R).length x.2.1.2.2.2.2,.bool .f]⟩,fs,⟨x.1.2.2.1,0,1,true,none,.rows 3 (dcS F t d g D R)⟩,osC true x.1.2.2.2,oqC true x.2.1,osB true x.2.2.1,osB true x.2.2.2]
 | m=>m,fun x=>H∧clnB (dcS F t d g D R)=false∧(¬ (t<dcN F t d g D R∨(dcL F t d g D R).length≠dcN F t d g D R+1)∧(dcZ F t d g D R).length=dcN F t d g D R)∧(Ow (tnD g D (dcZ F t d g D R)) x.2.2.1∧Ow (tnP g (mkR g R) (dcZ F t d g D R)) x.2.2.2)∧Oqw (dcZ F t d g D R) x.2.1,fun _=>1⟩
set_option maxHeartbeats 16000000 in
theorem decode_ok (bd qd bC qC t d g r bF qF be qe bl ql:Nat) (ht:t≤40) (hd:d<100000) (hg:g<100000) (hgr:r=(g+7) / 8) (hd1:1≤d) (hg1:1≤g) (o:Bool) (b q:Nat) (l:List Int) (i n c:Nat) (h:i+n≤l.length) (hN:n<1000000000) (ho:o=false→n=0∧c=0) (o':Bool) (b' q':Nat) (l':List Int) (i' n' c':Nat) (h':i'+n'≤l'.length) (hN':n'<1000000000) (ho':o'=false→n'=0∧c'=0) (D R:List Int) (hD:(l.drop i).take n=D) (hR:(l'.drop i').take n'=R) (kD:Byt8 D) (kR:Byt8 R):
 Does (C:=C0) Tryz.prog (.fn 15) (dcC F bd qd bC qC t d g r bF qF be qe bl ql ++ [⟨b,q,1,false,some o,.rows 5 l⟩,⟨b',q',1,false,some o',.rows 5 l'⟩]) [.ptr 0 0 0,.sl 5 i n c,.sl 6 i' n' c']
  [⟨Unit,fun _=>n≠d∨n'≠r,fun _=>.tup [.nils,.nils,.nils,eV 0],fun _=>dcC F bd qd bC qC t d g r bF qF be qe bl ql ++ [⟨b,q,1,false,some o,.rows 5 l⟩,⟨b',q',1,false,some o',.rows 5 l'⟩]⟩,
   ⟨Unit,fun _=>(n=d∧n'=r)∧clnB (dcS F t d g D R)=false∧((t<dcN F t d g D R∨(dcL F t d g D R).length≠dcN F t d g D R+1)∨(dcZ F t d g D R).length≠dcN F t d g D R),fun _=>.tup [.nils,.nils,.nils,eV 1],fun _=>dcC F bd qd bC qC t d g r bF qF be qe bl ql ++ [⟨b,q,1,false,some o,.rows 5 l⟩,⟨b',q',1,false,some o',.rows 5 l'⟩]⟩,
   ⟨Os×Os,fun y=>(n=d∧n'=r)∧clnB (dcS F t d g D R)=true∧Ow D y.1∧Ow (mkR g R) y.2,fun y=>.tup [.sl 7 0 d y.1.2.2.2,.sl 8 0 r y.2.2.2.2,.nils,.nili],fun y=>dcC F bd qd bC qC t d g r bF qF be qe bl ql ++ [⟨b,q,1,false,some o,.rows 5 l⟩,⟨b',q',1,false,some o',.rows 5 l'⟩,osB true y.1,osB true y.2]⟩,
   ⟨Os×Os×Oq,fun y=>(n=d∧n'=r)∧clnB (dcS F t d g D R)=false∧(¬ (t<dcN F t d g D R∨(dcL F t d g D R).length≠dcN F t d g D R+1)∧(dcZ F t d g D R).length=dcN F t d g D R)∧(Ow (tnD g D (dcZ F t d g D R)) y.1∧Ow (tnP g (mkR g R) (dcZ F t d g D R)) y.2.1)∧Oqw (dcZ F t d g D R) y.2.2,fun y=>.tup [.sl 7 0 d y.1.2.2.2,.sl 8 0 r y.2.1.2.2.2,.sl 9 0 (dcZ F t d g D R).length y.2.2.2.2.2.2,.nili],fun y=>dcC F bd qd bC qC t d g r bF qF be qe bl ql ++ [⟨b,q,1,false,some o,.rows 5 l⟩,⟨b',q',1,false,some o',.rows 5 l'⟩,osB true y.1,osB true y.2.1,oqC true y.2.2]⟩]:=by
 have by5:Tryz.prog.types[5].bytes=1:=by kernel_rfl
 have q8:(g:Int).tmod 8=((g % 8:Nat):Int):=(zb g 8).symm
 have lD:D.length=n:=by rw [← hD];exact row_len h
 have lR:R.length=n':=by rw [← hR];exact row_len h'
 have lL:=dcL_len F (t:=t) (d:=d) (g:=g) (D:=D) (R:=R)
 have lZ:=dcZ_len F (t:=t) (d:=d) (g:=g) (D:=D) (R:=R)
 refine loc_fn (P:=Tryz.prog) (E:=⟨[fcMeasure F,fcFind F,fcSeek F,fcTurn F],[pcCoData,pcCoParity,pcCoDegree],102,[(6,[],[.p 0,.p 1,.p 2,.p 4,.p 5,.p 6,.p 12,.p 13,.p 14,.q 3,.q 7,.p 8,.p 9,.p 10,.q 11,.p 15,.p 16,.e 17])],[],[],none⟩) (L:=[Dc0 (n=d∧n'=r) d r g D R,Dc1 F (n=d∧n'=r) t d r g D R,Dc2 F (n=d∧n'=r) t d r g D R,Dc3 F (n=d∧n'=r) t d r g D R,Dc4 F (n=d∧n'=r) t d r g D R,Dc5 F (n=d∧n'=r) t d r g D R]) mix Tryz.func15 rfl (by kernel_rfl) (by kernel_rfl) rfl rfl ?_
 ((conv=>arg 1;reduce);with_reducible repeat' first | exact ty | refine ta ?_ ?_ | refine ti fun _ => ?_ | refine tf fun _ => ?_ | refine tl ?_)
 all_goals try exact vlf
 · rename_i e
   simp only [Bool.or_eq_true,decide_eq_true_eq,SB.val] at e
   refine Ends.one () (show n≠d∨n'≠r by omega) ?_
   exact vgo
 · exact ⟨h,by rw [by5];omega⟩
 · exact fun e=>⟨(ho e).1,(ho e).1⟩
 · exact ⟨h',by rw [by5];omega⟩
 · exact fun e=>⟨(ho' e).1,(ho' e).1⟩
 all_goals try (
  rename_i e0 b1 sp1 s1 b2 sp2 s2 bw m
  have m:(0:Int)<(g:Int).tmod 8:=ng m
  simp only [xd,decide_eq_false_iff_not,SB.val] at e0
  have e2:n'=r:=by omega
  first
  | (rw [q8];omega)
  | (show vz 1 n'=true;exact om (show 1≤n' by omega))
  | (show 0≤(n':Int) - 1;omega)
  | (show ((n':Int) - 1).toNat+0<((l'.drop i').take n' ++ sp2).length;rw [zu,row_len h'];omega))
 · rename_i e0 b1 sp1 s1 b2 sp2 s2 bw m fs
   change Nat at b1 b2 bw fs
   change List Int at sp1 sp2
   have m:(0:Int)<(g:Int).tmod 8:=ng m
   simp only [xd,decide_eq_false_iff_not,SB.val] at e0
   have e1:n=d:=by omega
   have e2:n'=r:=by omega
   refine Stands.one (((xz 0 n,b1,(l.drop i).take n ++ sp1,n+sp1.length),(xz 0 n',b2,((l'.drop i').take n' ++ sp2).set (((n':Int) - 1).toNat+0) (ibit .and .u8 (((l'.drop i').take n' ++ sp2).getD (((n':Int) - 1).toNat+0) 0) (IntKind.u8.wrap (ishl .u8 1 ((g:Int).tmod 8) - 1))),n'+sp2.length)):Os×Os) ⟨⟨⟨e1,e2⟩,⟨?_,?_,?_,?_⟩,⟨?_,?_,?_,?_⟩⟩,?_⟩
   · show ((l.drop i).take n ++ sp1).take D.length=D
     rw [hD,ot]
   · show D.length≤n+sp1.length;omega
   · show n+sp1.length≤((l.drop i).take n ++ sp1).length;rw [hD,zu];omega
   · intro e;have e:vz 1 n=false:=e;have e9:n=0:=blt0 e;have:=s1 e9;omega
   · show (((l'.drop i').take n' ++ sp2).set (((n':Int) - 1).toNat+0) (ibit .and .u8 (((l'.drop i').take n' ++ sp2).getD (((n':Int) - 1).toNat+0) 0) (IntKind.u8.wrap (ishl .u8 1 ((g:Int).tmod 8) - 1)))).take (mkR g R).length=mkR g R
     rw [hR];exact mk_mask e2 lR hgr hg1 (by rw [q8] at m;omega)
   · show (mkR g R).length≤n'+sp2.length;rw [mkR_len];omega
   · show n'+sp2.length≤(((l'.drop i').take n' ++ sp2).set (((n':Int) - 1).toNat+0) (ibit .and .u8 (((l'.drop i').take n' ++ sp2).getD (((n':Int) - 1).toNat+0) 0) (IntKind.u8.wrap (ishl .u8 1 ((g:Int).tmod 8) - 1)))).length;rw [zg,hR,zu];omega
   · intro e;have e:vz 1 n'=false:=e;have e9:n'=0:=blt0 e;omega
   ((conv=>arg 1;reduce);with_reducible repeat' first | exact ty | refine ta ?_ ?_ | refine ti fun _ => ?_ | refine tf fun _ => ?_ | refine tl ?_)
   all_goals first | exact vlf | exact e1 | exact e1.symm | exact e2 | exact e2.symm | rfl
 · show (0:Int)<((4:Nat):Int);decide
 · rename_i x hx e
   obtain ⟨y1,y2⟩:=x
   obtain ⟨⟨e1,e2⟩,k1,k2⟩:(n=d∧n'=r)∧Ow D y1∧Ow (mkR g R) y2:=hx
   have dD:(y1.2.2.1.drop 0).take d=D:=by have:=k1.eq;rw [lD,e1] at this;exact this
   have dR:(y2.2.2.1.drop 0).take r=mkR g R:=by have:=k2.eq;rw [mkR_len,lR,e2] at this;exact this
   have a1:=k1.cap;have a2:=k1.len;have a3:=k2.cap;have a4:=k2.len
   rw [mkR_len] at a3
   refine ⟨⟨by show t<_;omega,hd,hg,by show g≤8*r;omega,by show r<_;omega⟩,⟨⟨by show 0+d≤y1.2.2.1.length;omega,by show d<_;omega,fun e => ?_⟩,by show 0+r≤y2.2.2.1.length;omega,by show r<_;omega,fun e => ?_⟩,⟨rfl,rfl⟩,?_,?_⟩
   · have:=k1.nil e;exact ⟨by omega,this.2⟩
   · have:=k2.nil e;rw [mkR_len] at this;exact ⟨by omega,this.2⟩
   · show Byt8 ((y1.2.2.1.drop 0).take d);rw [dD];exact kD
   · show Byt8 ((y2.2.2.1.drop 0).take r);rw [dR];exact mkR_byt kR
 · rename_i x hx e y hy
   change Nat at y
   obtain ⟨y1,y2⟩:=x
   obtain ⟨⟨e1,e2⟩,k1,k2⟩:(n=d∧n'=r)∧Ow D y1∧Ow (mkR g R) y2:=hx
   have dD:(y1.2.2.1.drop 0).take d=D:=by have:=k1.eq;rw [lD,e1] at this;exact this
   have dR:(y2.2.2.1.drop 0).take r=mkR g R:=by have:=k2.eq;rw [mkR_len,lR,e2] at this;exact this
   have a1:=k1.cap;have a2:=k1.len;have a3:=k2.cap;have a4:=k2.len
   rw [mkR_len] at a3
   refine Stands.next (Stands.one ((y1,y2,y):Os×Os×Nat) ⟨⟨⟨e1,e2⟩,k1,k2⟩,wl 4,?_⟩)
   have eS:svL F (psL g ((y1.2.2.1.drop 0).take d) ((y2.2.2.1.drop 0).take r) (8*d+g)) (2*t)=dcS F t d g D R:=by rw [dD,dR];unfold dcS;rfl
   ((conv=>arg 1;reduce);with_reducible repeat' first | exact ty | refine ta ?_ ?_ | refine ti fun _ => ?_ | refine tf fun _ => ?_ | refine tl ?_)
   all_goals first | exact vlf | exact eS | exact eS.symm | rw [eS]
 · rename_i e
   exact absurd (show (0:Int)<((4:Nat):Int) by decide) (nf e)
 · show (1:Int)<((4:Nat):Int);decide
 · rename_i x hx e cl
   obtain ⟨y1,y2,y3⟩:=x
   obtain ⟨⟨e1,e2⟩,k1,k2⟩:(n=d∧n'=r)∧Ow D y1∧Ow (mkR g R) y2:=hx
   refine Ends.next (Ends.next (Ends.one ((y1,y2):Os×Os) ⟨⟨e1,e2⟩,cl,k1,k2⟩ ?_))
   exact vgo
 · rename_i x hx e cl
   exact cl.symm
 · exact ⟨ht,dcS_len F⟩
 · rename_i x hx e cl y hy
   obtain ⟨y1,y2,y3⟩:=x
   obtain ⟨⟨e1,e2⟩,k1,k2⟩:(n=d∧n'=r)∧Ow D y1∧Ow (mkR g R) y2:=hx
   obtain ⟨h1,h2⟩:Ow (wkL F (dcS F t d g D R)) y∧(t<wkN F (dcS F t d g D R)∨(wkL F (dcS F t d g D R)).length≠wkN F (dcS F t d g D R)+1):=hy
   rw [← dcL_eq,← dcN_eq] at h2
   refine Ends.next (Ends.one () ⟨⟨e1,e2⟩,cl,.inl h2⟩ ?_)
   exact vgo
 · rename_i x hx e cl y hy
   obtain ⟨y1,y2,y3⟩:=x
   obtain ⟨⟨e1,e2⟩,k1,k2⟩:(n=d∧n'=r)∧Ow D y1∧Ow (mkR g R) y2:=hx
   obtain ⟨h1,h2⟩:Ow (wkL F (dcS F t d g D R)) y∧¬ (t<wkN F (dcS F t d g D R)∨(wkL F (dcS F t d g D R)).length≠wkN F (dcS F t d g D R)+1):=hy
   rw [← dcL_eq] at h1
   rw [← dcL_eq,← dcN_eq] at h2
   refine Stands.next (Stands.next (Stands.one ((y1,y2,y3,y):Os×Os×Nat×Os) ⟨⟨⟨e1,e2⟩,cl,h2,k1,k2,h1⟩,wl 3,?_⟩))
   ((conv=>arg 1;reduce);with_reducible repeat' first | exact ty | refine ta ?_ ?_ | refine ti fun _ => ?_ | refine tf fun _ => ?_ | refine tl ?_)
   all_goals first | exact vlf | rw [dcL_eq] | rw [dcN_eq]
 · rename_i e
   exact absurd (show (1:Int)<((4:Nat):Int) by decide) (nf e)
 · show (2:Int)<((4:Nat):Int);decide
 · rename_i x hx e
   obtain ⟨y1,y2,y3,y4⟩:=x
   obtain ⟨⟨e1,e2⟩,cl,h2,k1,k2,k3⟩:(n=d∧n'=r)∧clnB (dcS F t d g D R)=false∧¬ (t<dcN F t d g D R∨(dcL F t d g D R).length≠dcN F t d g D R+1)∧Ow D y1∧Ow (mkR g R) y2∧Ow (dcL F t d g D R) y4:=hx
   have dL:y4.2.2.1.take (dcL F t d g D R).length=dcL F t d g D R:=k3.eq
   exact ⟨⟨hd,hg⟩,k3.cap,k3.len,by show (dcL F t d g D R).length≤2048;omega,k3.nil⟩
 · rename_i x hx e y hy
   obtain ⟨y1,y2,y3,y4⟩:=x
   obtain ⟨⟨e1,e2⟩,cl,h2,k1,k2,k3⟩:(n=d∧n'=r)∧clnB (dcS F t d g D R)=false∧¬ (t<dcN F t d g D R∨(dcL F t d g D R).length≠dcN F t d g D R+1)∧Ow D y1∧Ow (mkR g R) y2∧Ow (dcL F t d g D R) y4:=hx
   have dL:y4.2.2.1.take (dcL F t d g D R).length=dcL F t d g D R:=k3.eq
   obtain ⟨h3,h4⟩:Oqw (srL F (y4.2.2.1.take (dcL F t d g D R).length) (8*(d:Int)+(g:Int))) y∧((srL F (y4.2.2.1.take (dcL F t d g D R).length) (8*(d:Int)+(g:Int))).length:Int)≠(dcN F t d g D R:Int):=hy
   rw [dL,← dcZ_eq] at h4
   refine Ends.next (Ends.one () ⟨⟨e1,e2⟩,cl,.inr (by omega)⟩ ?_)
   exact vgo
 · rename_i x hx e y hy
   obtain ⟨y1,y2,y3,y4⟩:=x
   obtain ⟨⟨e1,e2⟩,cl,h2,k1,k2,k3⟩:(n=d∧n'=r)∧clnB (dcS F t d g D R)=false∧¬ (t<dcN F t d g D R∨(dcL F t d g D R).length≠dcN F t d g D R+1)∧Ow D y1∧Ow (mkR g R) y2∧Ow (dcL F t d g D R) y4:=hx
   have dL:y4.2.2.1.take (dcL F t d g D R).length=dcL F t d g D R:=k3.eq
   obtain ⟨h3,h4⟩:Oqw (srL F (y4.2.2.1.take (dcL F t d g D R).length) (8*(d:Int)+(g:Int))) y∧((srL F (y4.2.2.1.take (dcL F t d g D R).length) (8*(d:Int)+(g:Int))).length:Int)=(dcN F t d g D R:Int):=hy
   have eZ:srL F (y4.2.2.1.take (dcL F t d g D R).length) (8*(d:Int)+(g:Int))=dcZ F t d g D R:=by rw [dL,← dcZ_eq]
   rw [eZ] at h3 h4
   refine Stands.next (Stands.next (Stands.next (Stands.one (((y1,y2,y3,y4),y):(Os×Os×Nat×Os)×Oq) ⟨⟨⟨e1,e2⟩,cl,⟨h2,by omega⟩,⟨k1,k2,k3⟩,h3⟩,wl 2,?_⟩)))
   ((conv=>arg 1;reduce);with_reducible repeat' first | exact ty | refine ta ?_ ?_ | refine ti fun _ => ?_ | refine tf fun _ => ?_ | refine tl ?_)
   all_goals first | exact vlf | rw [eZ]
 · rename_i e
   exact absurd (show (2:Int)<((4:Nat):Int) by decide) (nf e)
 · show (3:Int)<((4:Nat):Int);decide
 · rename_i x hx e
   obtain ⟨⟨y1,y2,y3,y4⟩,y5⟩:=x
   obtain ⟨⟨e1,e2⟩,cl,h2,⟨k1,k2,k3⟩,k4⟩:(n=d∧n'=r)∧clnB (dcS F t d g D R)=false∧(¬ (t<dcN F t d g D R∨(dcL F t d g D R).length≠dcN F t d g D R+1)∧(dcZ F t d g D R).length=dcN F t d g D R)∧(Ow D y1∧Ow (mkR g R) y2∧Ow (dcL F t d g D R) y4)∧Oqw (dcZ F t d g D R) y5:=hx
   have dD:(y1.2.2.1.drop 0).take d=D:=by have:=k1.eq;rw [lD,e1] at this;exact this
   have dR:(y2.2.2.1.drop 0).take r=mkR g R:=by have:=k2.eq;rw [mkR_len,lR,e2] at this;exact this
   have dZ:y5.2.2.2.1.take (dcZ F t d g D R).length=dcZ F t d g D R:=k4.eq
   have a1:=k1.cap;have a2:=k1.len;have a3:=k2.cap;have a4:=k2.len
   rw [mkR_len] at a3
   refine ⟨⟨hd,by show g≤8*r;omega,by show r<_;omega⟩,⟨by show 0+d≤y1.2.2.1.length;omega,by show d≤y1.2.2.2;omega,fun e => ?_⟩,⟨by show 0+r≤y2.2.2.1.length;omega,by show r≤y2.2.2.2;omega,fun e => ?_⟩,⟨k4.cap,k4.len,by show (dcZ F t d g D R).length<1000000;omega,k4.nil⟩,fun z hz => ?_⟩
   · have:=k1.nil e;exact ⟨by omega,this.2⟩
   · have:=k2.nil e;rw [mkR_len] at this;exact ⟨by omega,this.2⟩
   · have hz:z∈y5.2.2.2.1.take (dcZ F t d g D R).length:=hz
     rw [dZ] at hz;exact dcZ_rng F z hz
 · rename_i x hx e y hy
   obtain ⟨⟨y1,y2,y3,y4⟩,y5⟩:=x
   obtain ⟨⟨e1,e2⟩,cl,h2,⟨k1,k2,k3⟩,k4⟩:(n=d∧n'=r)∧clnB (dcS F t d g D R)=false∧(¬ (t<dcN F t d g D R∨(dcL F t d g D R).length≠dcN F t d g D R+1)∧(dcZ F t d g D R).length=dcN F t d g D R)∧(Ow D y1∧Ow (mkR g R) y2∧Ow (dcL F t d g D R) y4)∧Oqw (dcZ F t d g D R) y5:=hx
   have dD:(y1.2.2.1.drop 0).take d=D:=by have:=k1.eq;rw [lD,e1] at this;exact this
   have dR:(y2.2.2.1.drop 0).take r=mkR g R:=by have:=k2.eq;rw [mkR_len,lR,e2] at this;exact this
   have dZ:y5.2.2.2.1.take (dcZ F t d g D R).length=dcZ F t d g D R:=k4.eq
   have a1:=k1.cap;have a2:=k1.len;have a3:=k2.cap;have a4:=k2.len
   rw [mkR_len] at a3
   have hy:(dcZ F t d g D R).length=0:=hy
   have eZ:dcZ F t d g D R=[]:=vg hy
   refine Stands.next (Stands.next (Stands.next (Stands.next (Stands.one (((y1,y2,y3,y4),y5):(Os×Os×Nat×Os)×Oq) ⟨⟨⟨e1,e2⟩,cl,h2,⟨by rw [eZ,tnD_zero];exact k1,by rw [eZ,tnP_zero];exact k2⟩,k4⟩,wl 1,?_⟩))))
   exact vgo
 · rename_i x hx e y hy
   obtain ⟨⟨y1,y2,y3,y4⟩,y5⟩:=x
   obtain ⟨⟨e1,e2⟩,cl,h2,⟨k1,k2,k3⟩,k4⟩:(n=d∧n'=r)∧clnB (dcS F t d g D R)=false∧(¬ (t<dcN F t d g D R∨(dcL F t d g D R).length≠dcN F t d g D R+1)∧(dcZ F t d g D R).length=dcN F t d g D R)∧(Ow D y1∧Ow (mkR g R) y2∧Ow (dcL F t d g D R) y4)∧Oqw (dcZ F t d g D R) y5:=hx
   have dD:(y1.2.2.1.drop 0).take d=D:=by have:=k1.eq;rw [lD,e1] at this;exact this
   have dR:(y2.2.2.1.drop 0).take r=mkR g R:=by have:=k2.eq;rw [mkR_len,lR,e2] at this;exact this
   have dZ:y5.2.2.2.1.take (dcZ F t d g D R).length=dcZ F t d g D R:=k4.eq
   have a1:=k1.cap;have a2:=k1.len;have a3:=k2.cap;have a4:=k2.len
   rw [mkR_len] at a3
   obtain ⟨u1,u2⟩:=y
   obtain ⟨hz,g1,g2⟩:(dcZ F t d g D R).length≠0∧Ow (tnD g ((y1.2.2.1.drop 0).take d) (y5.2.2.2.1.take (dcZ F t d g D R).length)) u1∧Ow (tnP g ((y2.2.2.1.drop 0).take r) (y5.2.2.2.1.take (dcZ F t d g D R).length)) u2:=hy
   rw [dD,dZ] at g1
   rw [dR,dZ] at g2
   refine Stands.next (Stands.next (Stands.next (Stands.next (Stands.next (Stands.one (((y1,y2,y3,y4),y5,u1,u2):(Os×Os×Nat×Os)×Oq×Os×Os) ⟨⟨⟨e1,e2⟩,cl,h2,⟨g1,g2⟩,k4⟩,wl 1,?_⟩)))))
   exact vgo
 · rename_i e
   exact absurd (show (3:Int)<((4:Nat):Int) by decide) (nf e)
 · rename_i e
   exact absurd (ng e) (show ¬ (4:Int)<((4:Nat):Int) by decide)
 · rename_i e
   exact absurd (ng e) (show ¬ (4:Int)<((4:Nat):Int) by decide)
 · rename_i x hx e
   obtain ⟨⟨y1,y2,y3,y4⟩,y5⟩:=x
   obtain ⟨⟨e1,e2⟩,cl,h2,⟨k1,k2⟩,k4⟩:(n=d∧n'=r)∧clnB (dcS F t d g D R)=false∧(¬ (t<dcN F t d g D R∨(dcL F t d g D R).length≠dcN F t d g D R+1)∧(dcZ F t d g D R).length=dcN F t d g D R)∧(Ow (tnD g D (dcZ F t d g D R)) y1∧Ow (tnP g (mkR g R) (dcZ F t d g D R)) y2)∧Oqw (dcZ F t d g D R) y5:=hx
   refine Ends.next (Ends.next (Ends.next (Ends.one ((y1,y2,y5):Os×Os×Oq) ⟨⟨e1,e2⟩,cl,h2,⟨k1,k2⟩,k4⟩ ?_)))
   exact vgo
 · rename_i e
   exact absurd (ng e) (show ¬ (4:Int)<((4:Nat):Int) by decide)
 · rename_i e
   exact absurd (ng e) (show ¬ (4:Int)<((4:Nat):Int) by decide)
 · rename_i x hx e
   obtain ⟨⟨y1,y2,y3,y4⟩,y5,u1,u2⟩:=x
   obtain ⟨⟨e1,e2⟩,cl,h2,⟨k1,k2⟩,k4⟩:(n=d∧n'=r)∧clnB (dcS F t d g D R)=false∧(¬ (t<dcN F t d g D R∨(dcL F t d g D R).length≠dcN F t d g D R+1)∧(dcZ F t d g D R).length=dcN F t d g D R)∧(Ow (tnD g D (dcZ F t d g D R)) u1∧Ow (tnP g (mkR g R) (dcZ F t d g D R)) u2)∧Oqw (dcZ F t d g D R) y5:=hx
   refine Ends.next (Ends.next (Ends.next (Ends.one ((u1,u2,y5):Os×Os×Oq) ⟨⟨e1,e2⟩,cl,h2,⟨k1,k2⟩,k4⟩ ?_)))
   exact vgo
 · rename_i e0 b1 sp1 s1 b2 sp2 s2 bw m fs
   change Nat at b1 b2 bw fs
   change List Int at sp1 sp2
   have m:¬ (0:Int)<(g:Int).tmod 8:=nf m
   simp only [xd,decide_eq_false_iff_not,SB.val] at e0
   have e1:n=d:=by omega
   have e2:n'=r:=by omega
   refine Stands.one (((xz 0 n,b1,(l.drop i).take n ++ sp1,n+sp1.length),(xz 0 n',b2,(l'.drop i').take n' ++ sp2,n'+sp2.length)):Os×Os) ⟨⟨⟨e1,e2⟩,⟨?_,?_,?_,?_⟩,⟨?_,?_,?_,?_⟩⟩,?_⟩
   · show ((l.drop i).take n ++ sp1).take D.length=D
     rw [hD,ot]
   · show D.length≤n+sp1.length;omega
   · show n+sp1.length≤((l.drop i).take n ++ sp1).length;rw [hD,zu];omega
   · intro e;have e:vz 1 n=false:=e;have e9:n=0:=blt0 e;have:=s1 e9;omega
   · show ((l'.drop i').take n' ++ sp2).take (mkR g R).length=mkR g R
     rw [hR];exact mk_none (by rw [q8] at m;omega)
   · show (mkR g R).length≤n'+sp2.length;rw [mkR_len];omega
   · show n'+sp2.length≤((l'.drop i').take n' ++ sp2).length;rw [hR,zu];omega
   · intro e;have e:vz 1 n'=false:=e;have e9:n'=0:=blt0 e;omega
   ((conv=>arg 1;reduce);with_reducible repeat' first | exact ty | refine ta ?_ ?_ | refine ti fun _ => ?_ | refine tf fun _ => ?_ | refine tl ?_)
   all_goals first | exact vlf | exact e1 | exact e1.symm | exact e2 | exact e2.symm | rfl
 · show (0:Int)<((4:Nat):Int);decide
 · rename_i x hx e
   obtain ⟨y1,y2⟩:=x
   obtain ⟨⟨e1,e2⟩,k1,k2⟩:(n=d∧n'=r)∧Ow D y1∧Ow (mkR g R) y2:=hx
   have dD:(y1.2.2.1.drop 0).take d=D:=by have:=k1.eq;rw [lD,e1] at this;exact this
   have dR:(y2.2.2.1.drop 0).take r=mkR g R:=by have:=k2.eq;rw [mkR_len,lR,e2] at this;exact this
   have a1:=k1.cap;have a2:=k1.len;have a3:=k2.cap;have a4:=k2.len
   rw [mkR_len] at a3
   refine ⟨⟨by show t<_;omega,hd,hg,by show g≤8*r;omega,by show r<_;omega⟩,⟨⟨by show 0+d≤y1.2.2.1.length;omega,by show d<_;omega,fun e => ?_⟩,by show 0+r≤y2.2.2.1.length;omega,by show r<_;omega,fun e => ?_⟩,⟨rfl,rfl⟩,?_,?_⟩
   · have:=k1.nil e;exact ⟨by omega,this.2⟩
   · have:=k2.nil e;rw [mkR_len] at this;exact ⟨by omega,this.2⟩
   · show Byt8 ((y1.2.2.1.drop 0).take d);rw [dD];exact kD
   · show Byt8 ((y2.2.2.1.drop 0).take r);rw [dR];exact mkR_byt kR
 · rename_i x hx e y hy
   change Nat at y
   obtain ⟨y1,y2⟩:=x
   obtain ⟨⟨e1,e2⟩,k1,k2⟩:(n=d∧n'=r)∧Ow D y1∧Ow (mkR g R) y2:=hx
   have dD:(y1.2.2.1.drop 0).take d=D:=by have:=k1.eq;rw [lD,e1] at this;exact this
   have dR:(y2.2.2.1.drop 0).take r=mkR g R:=by have:=k2.eq;rw [mkR_len,lR,e2] at this;exact this
   have a1:=k1.cap;have a2:=k1.len;have a3:=k2.cap;have a4:=k2.len
   rw [mkR_len] at a3
   refine Stands.next (Stands.one ((y1,y2,y):Os×Os×Nat) ⟨⟨⟨e1,e2⟩,k1,k2⟩,wl 4,?_⟩)
   have eS:svL F (psL g ((y1.2.2.1.drop 0).take d) ((y2.2.2.1.drop 0).take r) (8*d+g)) (2*t)=dcS F t d g D R:=by rw [dD,dR];unfold dcS;rfl
   ((conv=>arg 1;reduce);with_reducible repeat' first | exact ty | refine ta ?_ ?_ | refine ti fun _ => ?_ | refine tf fun _ => ?_ | refine tl ?_)
   all_goals first | exact vlf | exact eS | exact eS.symm | rw [eS]
 · rename_i e
   exact absurd (show (0:Int)<((4:Nat):Int) by decide) (nf e)
 · show (1:Int)<((4:Nat):Int);decide
 · rename_i x hx e cl
   obtain ⟨y1,y2,y3⟩:=x
   obtain ⟨⟨e1,e2⟩,k1,k2⟩:(n=d∧n'=r)∧Ow D y1∧Ow (mkR g R) y2:=hx
   refine Ends.next (Ends.next (Ends.one ((y1,y2):Os×Os) ⟨⟨e1,e2⟩,cl,k1,k2⟩ ?_))
   exact vgo
 · rename_i x hx e cl
   exact cl.symm
 · exact ⟨ht,dcS_len F⟩
 · rename_i x hx e cl y hy
   obtain ⟨y1,y2,y3⟩:=x
   obtain ⟨⟨e1,e2⟩,k1,k2⟩:(n=d∧n'=r)∧Ow D y1∧Ow (mkR g R) y2:=hx
   obtain ⟨h1,h2⟩:Ow (wkL F (dcS F t d g D R)) y∧(t<wkN F (dcS F t d g D R)∨(wkL F (dcS F t d g D R)).length≠wkN F (dcS F t d g D R)+1):=hy
   rw [← dcL_eq,← dcN_eq] at h2
   refine Ends.next (Ends.one () ⟨⟨e1,e2⟩,cl,.inl h2⟩ ?_)
   exact vgo
 · rename_i x hx e cl y hy
   obtain ⟨y1,y2,y3⟩:=x
   obtain ⟨⟨e1,e2⟩,k1,k2⟩:(n=d∧n'=r)∧Ow D y1∧Ow (mkR g R) y2:=hx
   obtain ⟨h1,h2⟩:Ow (wkL F (dcS F t d g D R)) y∧¬ (t<wkN F (dcS F t d g D R)∨(wkL F (dcS F t d g D R)).length≠wkN F (dcS F t d g D R)+1):=hy
   rw [← dcL_eq] at h1
   rw [← dcL_eq,← dcN_eq] at h2
   refine Stands.next (Stands.next (Stands.one ((y1,y2,y3,y):Os×Os×Nat×Os) ⟨⟨⟨e1,e2⟩,cl,h2,k1,k2,h1⟩,wl 3,?_⟩))
   ((conv=>arg 1;reduce);with_reducible repeat' first | exact ty | refine ta ?_ ?_ | refine ti fun _ => ?_ | refine tf fun _ => ?_ | refine tl ?_)
   all_goals first | exact vlf | rw [dcL_eq] | rw [dcN_eq]
 · rename_i e
   exact absurd (show (1:Int)<((4:Nat):Int) by decide) (nf e)
 · show (2:Int)<((4:Nat):Int);decide
 · rename_i x hx e
   obtain ⟨y1,y2,y3,y4⟩:=x
   obtain ⟨⟨e1,e2⟩,cl,h2,k1,k2,k3⟩:(n=d∧n'=r)∧clnB (dcS F t d g D R)=false∧¬ (t<dcN F t d g D R∨(dcL F t d g D R).length≠dcN F t d g D R+1)∧Ow D y1∧Ow (mkR g R) y2∧Ow (dcL F t d g D R) y4:=hx
   have dL:y4.2.2.1.take (dcL F t d g D R).length=dcL F t d g D R:=k3.eq
   exact ⟨⟨hd,hg⟩,k3.cap,k3.len,by show (dcL F t d g D R).length≤2048;omega,k3.nil⟩
 · rename_i x hx e y hy
   obtain ⟨y1,y2,y3,y4⟩:=x
   obtain ⟨⟨e1,e2⟩,cl,h2,k1,k2,k3⟩:(n=d∧n'=r)∧clnB (dcS F t d g D R)=false∧¬ (t<dcN F t d g D R∨(dcL F t d g D R).length≠dcN F t d g D R+1)∧Ow D y1∧Ow (mkR g R) y2∧Ow (dcL F t d g D R) y4:=hx
   have dL:y4.2.2.1.take (dcL F t d g D R).length=dcL F t d g D R:=k3.eq
   obtain ⟨h3,h4⟩:Oqw (srL F (y4.2.2.1.take (dcL F t d g D R).length) (8*(d:Int)+(g:Int))) y∧((srL F (y4.2.2.1.take (dcL F t d g D R).length) (8*(d:Int)+(g:Int))).length:Int)≠(dcN F t d g D R:Int):=hy
   rw [dL,← dcZ_eq] at h4
   refine Ends.next (Ends.one () ⟨⟨e1,e2⟩,cl,.inr (by omega)⟩ ?_)
   exact vgo
 · rename_i x hx e y hy
   obtain ⟨y1,y2,y3,y4⟩:=x
   obtain ⟨⟨e1,e2⟩,cl,h2,k1,k2,k3⟩:(n=d∧n'=r)∧clnB (dcS F t d g D R)=false∧¬ (t<dcN F t d g D R∨(dcL F t d g D R).length≠dcN F t d g D R+1)∧Ow D y1∧Ow (mkR g R) y2∧Ow (dcL F t d g D R) y4:=hx
   have dL:y4.2.2.1.take (dcL F t d g D R).length=dcL F t d g D R:=k3.eq
   obtain ⟨h3,h4⟩:Oqw (srL F (y4.2.2.1.take (dcL F t d g D R).length) (8*(d:Int)+(g:Int))) y∧((srL F (y4.2.2.1.take (dcL F t d g D R).length) (8*(d:Int)+(g:Int))).length:Int)=(dcN F t d g D R:Int):=hy
   have eZ:srL F (y4.2.2.1.take (dcL F t d g D R).length) (8*(d:Int)+(g:Int))=dcZ F t d g D R:=by rw [dL,← dcZ_eq]
   rw [eZ] at h3 h4
   refine Stands.next (Stands.next (Stands.next (Stands.one (((y1,y2,y3,y4),y):(Os×Os×Nat×Os)×Oq) ⟨⟨⟨e1,e2⟩,cl,⟨h2,by omega⟩,⟨k1,k2,k3⟩,h3⟩,wl 2,?_⟩)))
   ((conv=>arg 1;reduce);with_reducible repeat' first | exact ty | refine ta ?_ ?_ | refine ti fun _ => ?_ | refine tf fun _ => ?_ | refine tl ?_)
   all_goals first | exact vlf | rw [eZ]
 · rename_i e
   exact absurd (show (2:Int)<((4:Nat):Int) by decide) (nf e)
 · show (3:Int)<((4:Nat):Int);decide
 · rename_i x hx e
   obtain ⟨⟨y1,y2,y3,y4⟩,y5⟩:=x
   obtain ⟨⟨e1,e2⟩,cl,h2,⟨k1,k2,k3⟩,k4⟩:(n=d∧n'=r)∧clnB (dcS F t d g D R)=false∧(¬ (t<dcN F t d g D R∨(dcL F t d g D R).length≠dcN F t d g D R+1)∧(dcZ F t d g D R).length=dcN F t d g D R)∧(Ow D y1∧Ow (mkR g R) y2∧Ow (dcL F t d g D R) y4)∧Oqw (dcZ F t d g D R) y5:=hx
   have dD:(y1.2.2.1.drop 0).take d=D:=by have:=k1.eq;rw [lD,e1] at this;exact this
   have dR:(y2.2.2.1.drop 0).take r=mkR g R:=by have:=k2.eq;rw [mkR_len,lR,e2] at this;exact this
   have dZ:y5.2.2.2.1.take (dcZ F t d g D R).length=dcZ F t d g D R:=k4.eq
   have a1:=k1.cap;have a2:=k1.len;have a3:=k2.cap;have a4:=k2.len
   rw [mkR_len] at a3
   refine ⟨⟨hd,by show g≤8*r;omega,by show r<_;omega⟩,⟨by show 0+d≤y1.2.2.1.length;omega,by show d≤y1.2.2.2;omega,fun e => ?_⟩,⟨by show 0+r≤y2.2.2.1.length;omega,by show r≤y2.2.2.2;omega,fun e => ?_⟩,⟨k4.cap,k4.len,by show (dcZ F t d g D R).length<1000000;omega,k4.nil⟩,fun z hz => ?_⟩
   · have:=k1.nil e;exact ⟨by omega,this.2⟩
   · have:=k2.nil e;rw [mkR_len] at this;exact ⟨by omega,this.2⟩
   · have hz:z∈y5.2.2.2.1.take (dcZ F t d g D R).length:=hz
     rw [dZ] at hz;exact dcZ_rng F z hz
 · rename_i x hx e y hy
   obtain ⟨⟨y1,y2,y3,y4⟩,y5⟩:=x
   obtain ⟨⟨e1,e2⟩,cl,h2,⟨k1,k2,k3⟩,k4⟩:(n=d∧n'=r)∧clnB (dcS F t d g D R)=false∧(¬ (t<dcN F t d g D R∨(dcL F t d g D R).length≠dcN F t d g D R+1)∧(dcZ F t d g D R).length=dcN F t d g D R)∧(Ow D y1∧Ow (mkR g R) y2∧Ow (dcL F t d g D R) y4)∧Oqw (dcZ F t d g D R) y5:=hx
   have dD:(y1.2.2.1.drop 0).take d=D:=by have:=k1.eq;rw [lD,e1] at this;exact this
   have dR:(y2.2.2.1.drop 0).take r=mkR g R:=by have:=k2.eq;rw [mkR_len,lR,e2] at this;exact this
   have dZ:y5.2.2.2.1.take (dcZ F t d g D R).length=dcZ F t d g D R:=k4.eq
   have a1:=k1.cap;have a2:=k1.len;have a3:=k2.cap;have a4:=k2.len
   rw [mkR_len] at a3
   have hy:(dcZ F t d g D R).length=0:=hy
   have eZ:dcZ F t d g D R=[]:=vg hy
   refine Stands.next (Stands.next (Stands.next (Stands.next (Stands.one (((y1,y2,y3,y4),y5):(Os×Os×Nat×Os)×Oq) ⟨⟨⟨e1,e2⟩,cl,h2,⟨by rw [eZ,tnD_zero];exact k1,by rw [eZ,tnP_zero];exact k2⟩,k4⟩,wl 1,?_⟩))))
   exact vgo
 · rename_i x hx e y hy
   obtain ⟨⟨y1,y2,y3,y4⟩,y5⟩:=x
   obtain ⟨⟨e1,e2⟩,cl,h2,⟨k1,k2,k3⟩,k4⟩:(n=d∧n'=r)∧clnB (dcS F t d g D R)=false∧(¬ (t<dcN F t d g D R∨(dcL F t d g D R).length≠dcN F t d g D R+1)∧(dcZ F t d g D R).length=dcN F t d g D R)∧(Ow D y1∧Ow (mkR g R) y2∧Ow (dcL F t d g D R) y4)∧Oqw (dcZ F t d g D R) y5:=hx
   have dD:(y1.2.2.1.drop 0).take d=D:=by have:=k1.eq;rw [lD,e1] at this;exact this
   have dR:(y2.2.2.1.drop 0).take r=mkR g R:=by have:=k2.eq;rw [mkR_len,lR,e2] at this;exact this
   have dZ:y5.2.2.2.1.take (dcZ F t d g D R).length=dcZ F t d g D R:=k4.eq
   have a1:=k1.cap;have a2:=k1.len;have a3:=k2.cap;have a4:=k2.len
   rw [mkR_len] at a3
   obtain ⟨u1,u2⟩:=y
   obtain ⟨hz,g1,g2⟩:(dcZ F t d g D R).length≠0∧Ow (tnD g ((y1.2.2.1.drop 0).take d) (y5.2.2.2.1.take (dcZ F t d g D R).length)) u1∧Ow (tnP g ((y2.2.2.1.drop 0).take r) (y5.2.2.2.1.take (dcZ F t d g D R).length)) u2:=hy
   rw [dD,dZ] at g1
   rw [dR,dZ] at g2
   refine Stands.next (Stands.next (Stands.next (Stands.next (Stands.next (Stands.one (((y1,y2,y3,y4),y5,u1,u2):(Os×Os×Nat×Os)×Oq×Os×Os) ⟨⟨⟨e1,e2⟩,cl,h2,⟨g1,g2⟩,k4⟩,wl 1,?_⟩)))))
   exact vgo
 · rename_i e
   exact absurd (show (3:Int)<((4:Nat):Int) by decide) (nf e)
 · rename_i e
   exact absurd (ng e) (show ¬ (4:Int)<((4:Nat):Int) by decide)
 · rename_i e
   exact absurd (ng e) (show ¬ (4:Int)<((4:Nat):Int) by decide)
 · rename_i x hx e
   obtain ⟨⟨y1,y2,y3,y4⟩,y5⟩:=x
   obtain ⟨⟨e1,e2⟩,cl,h2,⟨k1,k2⟩,k4⟩:(n=d∧n'=r)∧clnB (dcS F t d g D R)=false∧(¬ (t<dcN F t d g D R∨(dcL F t d g D R).length≠dcN F t d g D R+1)∧(dcZ F t d g D R).length=dcN F t d g D R)∧(Ow (tnD g D (dcZ F t d g D R)) y1∧Ow (tnP g (mkR g R) (dcZ F t d g D R)) y2)∧Oqw (dcZ F t d g D R) y5:=hx
   refine Ends.next (Ends.next (Ends.next (Ends.one ((y1,y2,y5):Os×Os×Oq) ⟨⟨e1,e2⟩,cl,h2,⟨k1,k2⟩,k4⟩ ?_)))
   exact vgo
 · rename_i e
   exact absurd (ng e) (show ¬ (4:Int)<((4:Nat):Int) by decide)
 · rename_i e
   exact absurd (ng e) (show ¬ (4:Int)<((4:Nat):Int) by decide)
 · rename_i x hx e
   obtain ⟨⟨y1,y2,y3,y4⟩,y5,u1,u2⟩:=x
   obtain ⟨⟨e1,e2⟩,cl,h2,⟨k1,k2⟩,k4⟩:(n=d∧n'=r)∧clnB (dcS F t d g D R)=false∧(¬ (t<dcN F t d g D R∨(dcL F t d g D R).length≠dcN F t d g D R+1)∧(dcZ F t d g D R).length=dcN F t d g D R)∧(Ow (tnD g D (dcZ F t d g D R)) u1∧Ow (tnP g (mkR g R) (dcZ F t d g D R)) u2)∧Oqw (dcZ F t d g D R) y5:=hx
   refine Ends.next (Ends.next (Ends.next (Ends.one ((u1,u2,y5):Os×Os×Oq) ⟨⟨e1,e2⟩,cl,h2,⟨k1,k2⟩,k4⟩ ?_)))
   exact vgo
end
end
end Go.Vx
namespace Go.Vx
open Go Go.Proofs
noncomputable section
variable [Gl]
section
variable (F:Gf)
def fcDecode:Fc Tryz.prog C0 where
 tg:=.fn 15
 X:=(Nat×Nat)×Co5×(Nat×Nat×Nat×Nat×Nat×Nat)×Sl3×Sl3
 args:=fun (_,_,_,(o,b,q,l,i,n,c),(o',b',q',l',i',n',c'))=>[.ptr 0 0 0,.sl 5 i n c,.sl 6 i' n' c']
 mem:=fun ((bd,qd),(bC,qC,t,d,g,r),(bF,qF,be,qe,bl,ql),(o,b,q,l,i,n,c),(o',b',q',l',i',n',c'))=>dcC F bd qd bC qC t d g r bF qF be qe bl ql ++ [⟨b,q,1,false,some o,.rows 5 l⟩,⟨b',q',1,false,some o',.rows 5 l'⟩]
 pre:=fun (_,(_,_,t,d,g,r),_,(o,b,q,l,i,n,c),(o',b',q',l',i',n',c'))=>(t≤40∧d<100000∧g<100000∧r=(g+7) / 8∧1≤d∧1≤g)∧(Sl3.pre (o,b,q,l,i,n,c)∧Sl3.pre (o',b',q',l',i',n',c'))∧Byt8 ((l.drop i).take n)∧Byt8 ((l'.drop i').take n')
 alts:=fun ((bd,qd),(bC,qC,t,d,g,r),(bF,qF,be,qe,bl,ql),(o,b,q,l,i,n,c),(o',b',q',l',i',n',c'))=>[⟨Unit,fun _=>n≠d∨n'≠r,fun _=>.tup [.nils,.nils,.nils,eV 0],fun _=>dcC F bd qd bC qC t d g r bF qF be qe bl ql ++ [⟨b,q,1,false,some o,.rows 5 l⟩,⟨b',q',1,false,some o',.rows 5 l'⟩]⟩,
      ⟨Unit,fun _=>(n=d∧n'=r)∧clnB (dcS F t d g ((l.drop i).take n) ((l'.drop i').take n'))=false∧((t<dcN F t d g ((l.drop i).take n) ((l'.drop i').take n')∨(dcL F t d g ((l.drop i).take n) ((l'.drop i').take n')).length≠dcN F t d g ((l.drop i).take n) ((l'.drop i').take n')+1)∨(dcZ F t d g ((l.drop i).take n) ((l'.drop i').take n')).length≠dcN F t d g ((l.drop i).take n) ((l'.drop i').take n')),fun _=>.tup [.nils,.nils,.nils,eV 1],fun _=>dcC F bd qd bC qC t d g r bF qF be qe bl ql ++ [⟨b,q,1,false,some o,.rows 5 l⟩,⟨b',q',1,false,some o',.rows 5 l'⟩]⟩,
      ⟨Os×Os,fun y=>(n=d∧n'=r)∧clnB (dcS F t d g ((l.drop i).take n) ((l'.drop i').take n'))=true∧Ow ((l.drop i).take n) y.1∧Ow (mkR g ((l'.drop i').take n')) y.2,fun y=>.tup [.sl 7 0 d y.1.2.2.2,.sl 8 0 r y.2.2.2.2,.nils,.nili],fun y=>dcC F bd qd bC qC t d g r bF qF be qe bl ql ++ [⟨b,q,1,false,some o,.rows 5 l⟩,⟨b',q',1,false,some o',.rows 5 l'⟩,osB true y.1,osB true y.2]⟩,
      ⟨Os×Os×Oq,fun y=>(n=d∧n'=r)∧clnB (dcS F t d g ((l.drop i).take n) ((l'.drop i').take n'))=false∧(¬ (t<dcN F t d g ((l.drop i).take n) ((l'.drop i').take n')∨(dcL F t d g ((l.drop i).take n) ((l'.drop i').take n')).length≠dcN F t d g ((l.drop i).take n) ((l'.drop i').take n')+1)∧(dcZ F t d g ((l.drop i).take n) ((l'.drop i').take n')).length=dcN F t d g ((l.drop i).take n) ((l'.drop i').take n'))∧(Ow (tnD g ((l.drop i).take n) (dcZ F t d g ((l.drop i).take n) ((l'.drop i').take n'))) y.1∧Ow (tnP g (mkR g ((l'.drop i').take n')) (dcZ F t d g ((l.drop i).take n) ((l'.drop i').take n'))) y.2.1)∧Oqw (dcZ F t d g ((l.drop i).take n) ((l'.drop i').take n')) y.2.2,fun y=>.tup [.sl 7 0 d y.1.2.2.2,.sl 8 0 r y.2.1.2.2.2,.sl 9 0 (dcZ F t d g ((l.drop i).take n) ((l'.drop i').take n')).length y.2.2.2.2.2.2,.nili],fun y=>dcC F bd qd bC qC t d g r bF qF be qe bl ql ++ [⟨b,q,1,false,some o,.rows 5 l⟩,⟨b',q',1,false,some o',.rows 5 l'⟩,osB true y.1,osB true y.2.1,oqC true y.2.2]⟩]
 mat vs m:=match vs with
  | [.ptr k _ _,.sl s i n c,.sl s' i' n' c']=>match nth m k with
    | ⟨bd,qd,_,_,_,.one (.ptr p _ _ :: _)⟩=>match nth m p with
      | ⟨bC,qC,_,_,_,.one (.ptr f _ _ :: .int _ (t:Nat) :: .int _ (d:Nat) :: .int _ (g:Nat) :: .int _ (r:Nat) :: _)⟩=>match nth m f with
        | ⟨bF,qF,_,_,_,.one (_ :: _ :: .sl x _ _ _ :: .sl h _ _ _ :: _)⟩=>match nth m x,nth m h,nth m s,nth m s' with
          | ⟨be,qe,_,_,_,_⟩,⟨bl,ql,_,_,_,_⟩,⟨b,q,_,_,o,.rows 5 l⟩,⟨b',q',_,_,o',.rows 5 l'⟩=>some (((bd,qd),(bC,qC,t,d,g,r),(bF,qF,be,qe,bl,ql),(onOf o,b,q,l,i,n,c),(onOf o',b',q',l',i',n',c')),[k,p,f,x,h,s,s'])
          | _,_,_,_=>none
        | _=>none
      | _=>none
    | _=>none
  | _=>none
 ok:=fun ((bd,qd),(bC,qC,t,d,g,r),(bF,qF,be,qe,bl,ql),(o,b,q,l,i,n,c),(o',b',q',l',i',n',c')) h=>decode_ok F bd qd bC qC t d g r bF qF be qe bl ql h.1.1 h.1.2.1 h.1.2.2.1 h.1.2.2.2.1 h.1.2.2.2.2.1 h.1.2.2.2.2.2 o b q l i n c h.2.1.1.1 h.2.1.1.2.1 h.2.1.1.2.2 o' b' q' l' i' n' c' h.2.1.2.1 h.2.1.2.2.1 h.2.1.2.2.2 _ _ rfl rfl h.2.2.1 h.2.2.2
end
end
end Go.Vx
namespace Go.Vx
open Go Go.Proofs
noncomputable section
variable [Gl]
section
variable {F:Gf} (K:Kd F)
abbrev MdY:=Lq×NwY×Nat
abbrev mdL (n:Nat) (y:MdY):List (Ck C0):=
 [⟨y.2.2,0,1,true,none,.one [.ptr 1 0 0]⟩,⟨y.2.1.1.1,0,263,true,none,.one (.ptr 2 0 0 :: .int .i64 (K.t:Int) :: .int .i64 (n:Int) :: .int .i64 (K.D:Int) :: .int .i64 (nP K:Int) :: .junk :: .sl 6 0 (nP K) y.2.1.1.2.2.2.2.2.2 :: tvC y.2.1.2.1)⟩,
  ⟨y.2.1.1.2.1.1,0,4,true,none,.one [.int .i64 (F.m:Int),.int .i64 (szF F:Int),.sl 3 0 (nF F) (nF F),.sl 5 0 (szF F) (szF F)]⟩,⟨y.2.1.1.2.1.2.1,0,1,true,none,.rows 3 (xT F)⟩,⟨0,0,1,false,some false,.rows 22 y.2.1.2.2⟩,⟨y.2.1.1.2.1.2.2,0,1,true,none,.rows 3 (lT F)⟩,
  ⟨y.2.1.1.2.2.2.1,y.2.1.1.2.2.2.2.1,1,true,none,.rows 5 y.2.1.1.2.2.2.2.2.1⟩,obC true y.1.2]
abbrev mdR (n:Nat) (y:MdY):SV:=.tup [.ptr 0 0 0,xcV (F.m:Int) (K.t:Int) (n:Int) 7 y.1.1.length y.1.2.2.2.2.2 (K.D:Int),.bool .t]
abbrev MdOK (y:MdY):Prop:=Oqw y.1.1 y.1.2∧NwOK K y.2.1
end
theorem does_pick {P:Program} {tg:Tg} {mem:List (Ck C0)} {args:List SV} {alts:List (Alt C0)} (A:Alt C0) (h:Does P tg mem args alts) (hn:∀ B∈alts,(∀ y,¬ B.post y)∨B=A):Does P tg mem args [A]:=by
 intro w hm
 obtain ⟨f,vals,hr,hc⟩:=h w hm
 refine ⟨f,vals,hr,hc.mono ?_⟩
 rintro e w' ⟨r,m',he,hm',hx,B,hB,y,hp,h1⟩
 rcases hn B hB with h2 | h2
 · exact absurd hp (h2 y)
 · subst h2
   exact ⟨r,m',he,hm',hx,B,.head _,y,hp,h1⟩
def fcRnewF (F:Gf):Fc Tryz.prog C0 where
 tg:=.fn 30
 X:=Nat×Nat
 args:=fun (t,n)=>[.int .i64 (F.m:Int),.int .i64 (t:Int),.int .i64 (n:Int)]
 mem _:=[]
 pre:=fun (t,n)=>(1≤t∧t≤40∧(lsO (nF F) t).2.2<nF F)∧(1≤n∧n≤2000)∧8*n+(lsO (nF F) t).2.2≤nF F
 alts:=fun (t,n)=>[⟨Lq,fun y=>Oqw y.1 y.2∧8*n+(lsO (nF F) t).2.2≤nF F,fun y=>.tup [xcV (F.m:Int) (t:Int) (n:Int) 0 y.1.length y.2.2.2.2.2 ((lsO (nF F) t).2.2:Int),.int .i64 0],fun y=>[obC true y.2]⟩]
 mat vs m:=match vs with
  | [_,.int _ t,.int _ n]=>some ((t.toNat,n.toNat),[])
  | _=>none
 ok:=fun (t,n) h=>does_pick _ (rnew_ok F t n h.1 h.2.1.1 h.2.1.2) fun B hB=>by
  rcases List.mem_cons.1 hB with rfl | hB
  · exact .inr rfl
  · rw [List.mem_singleton.1 hB]
    exact .inl fun _ hp=>by have hp:nF F<8*n+(lsO (nF F) t).2.2:=hp;have:=h.2.2;omega
def fcRnewX (F:Gf):Fc Tryz.prog C0 where
 tg:=.fn 30
 X:=Nat×Nat
 args:=fun (t,n)=>[.int .i64 (F.m:Int),.int .i64 (t:Int),.int .i64 (n:Int)]
 mem _:=[]
 pre:=fun (t,n)=>(1≤t∧t≤40∧(lsO (nF F) t).2.2<nF F)∧(1≤n∧n≤2000)∧nF F<8*n+(lsO (nF F) t).2.2
 alts:=fun (t,n)=>[⟨Unit,fun _=>nF F<8*n+(lsO (nF F) t).2.2,fun _=>.tup [.agg [.int .i64 0,.int .i64 0,.int .i64 0,.nils,.int .i64 0],.int .i64 105],fun _=>[]⟩]
 mat vs m:=match m with
  | [_]=>match vs with
    | [_,.int _ t,.int _ n]=>some ((t.toNat,n.toNat),[])
    | _=>none
  | _=>none
 ok:=fun (t,n) h=>does_pick _ (rnew_ok F t n h.1 h.2.1.1 h.2.1.2) fun B hB=>by
  rcases List.mem_cons.1 hB with rfl | hB
  · exact .inl fun _ hp=>by have:=hp.2;have:=h.2.2;omega
  · exact .inr (List.mem_singleton.1 hB)
theorem cd_facts (c:Cd):(lsO (nF c.F) c.K.t).2.2=c.K.D∧c.K.D<nF c.F∧1≤c.K.t∧c.K.t≤5:=by
 have h:=c.hd
 have h2:=c.K.hD
 have e:nF c.F=2 ^ c.F.m - 1:=nF_eq c.F
 rw [e]
 exact ⟨h,h2,c.K.t1,c.t5⟩
theorem tmod_rng (i:Int) (n:Nat) (h:0<n) : -(n:Int)<i.tmod (n:Int)∧i.tmod (n:Int)<(n:Int):=⟨tmod_low i h,Int.tmod_lt_of_pos i (by omega)⟩
theorem tmods (m t n:Int):(-4<m.tmod 4∧m.tmod 4<4)∧(-5<t.tmod 5∧t.tmod 5<5)∧(-12<n.tmod 12∧n.tmod 12<12):=⟨tmod_rng m 4 (by decide),tmod_rng t 5 (by decide),tmod_rng n 12 (by decide)⟩
theorem made_okA (c:Cd) (n0:Nat) (m t n:Int) (hm:(m.tmod 4+4).tmod 4+5=(c.F.m:Int)) (ht:(t.tmod 5+5).tmod 5+1=(c.K.t:Int)) (hn:(n.tmod 12+12).tmod 12+1=(n0:Int)) (h1:1≤n0) (h12:n0≤12) (hf:8*n0+c.K.D≤nF c.F):
 Does (C:=C0) Tryz.prog (.fn 10) [] [.int .i64 m,.int .i64 t,.int .i64 n] [⟨MdY,MdOK c.K,mdR c.K n0,mdL c.K n0⟩]:=by
 obtain ⟨g1,g2,g3,g4⟩:=cd_facts c
 have et:((t.tmod 5+5).tmod 5+1).toNat=c.K.t:=by omega
 have en:((n.tmod 12+12).tmod 12+1).toNat=n0:=by omega
 have m8:=c.m8
 have tt:=tmods m t n
 refine loc_fn (P:=Tryz.prog) (E:=⟨[fcRnewF c.F,fcNew c.K,fcDNew],[],65,[(9,[],[.p 1,.q 0,.e 2,.p 3]),(11,[],[.p 0,.p 2,.p 3,.p 4,.q 1,.e 5,.p 6])],[],[],none⟩) (L:=[]) mix Tryz.func10 rfl (by kernel_rfl) (by kernel_rfl) rfl rfl ?_
 ((conv=>arg 1;reduce);with_reducible repeat' first | exact ty | refine ta ?_ ?_ | refine ti fun _ => ?_ | refine tf fun _ => ?_ | refine tl ?_)
 all_goals try exact absurd (ng ‹decide ((0:Int)≠0)=true›) (fun h=>h rfl)
 all_goals try exact vlf
 all_goals try first
  | (refine inR64 ?_ ?_ <;> omega)
 · exact ⟨⟨by show 1≤((t.tmod 5+5).tmod 5+1).toNat;omega,by show ((t.tmod 5+5).tmod 5+1).toNat≤40;omega,by show (lsO (nF c.F) ((t.tmod 5+5).tmod 5+1).toNat).2.2<nF c.F;rw [et];omega⟩,⟨by show 1≤((n.tmod 12+12).tmod 12+1).toNat;omega,by show ((n.tmod 12+12).tmod 12+1).toNat≤2000;omega⟩,by show 8*((n.tmod 12+12).tmod 12+1).toNat+(lsO (nF c.F) ((t.tmod 5+5).tmod 5+1).toNat).2.2≤nF c.F;rw [et,en,g1];exact hf⟩
 · exact ⟨by show 1≤((((n.tmod 12+12).tmod 12+1).toNat:Nat):Int).toNat;omega,by show ((((n.tmod 12+12).tmod 12+1).toNat:Nat):Int).toNat≤2048;omega,by show 8*((((n.tmod 12+12).tmod 12+1).toNat:Nat):Int).toNat+c.K.D≤nF c.F;omega⟩
 · rename_i z hz b1 d y hy v hv
   change Lq at z
   change NwY at y
   change Nat at v
   refine Ends.one ((z,y,v):MdY) ⟨hz.1,hy⟩ ?_
   ((conv=>arg 1;reduce);with_reducible repeat' first | exact ty | refine ta ?_ ?_ | refine ti fun _ => ?_ | refine tf fun _ => ?_ | refine tl ?_)
   all_goals first
    | exact vlf
    | (show ((((t.tmod 5+5).tmod 5+1).toNat:Nat):Int)=(c.K.t:Int);rw [et])
    | (show (c.K.t:Int)=((((t.tmod 5+5).tmod 5+1).toNat:Nat):Int);rw [et])
    | (show ((((n.tmod 12+12).tmod 12+1).toNat:Nat):Int)=(n0:Int);rw [en])
    | (show (((((n.tmod 12+12).tmod 12+1).toNat:Nat):Int).toNat:Int)=(n0:Int);omega)
    | (show ((lsO (nF c.F) ((t.tmod 5+5).tmod 5+1).toNat).2.2:Int)=(c.K.D:Int);rw [et,g1])
theorem made_okB (c0 c:Cd) (n0:Nat) (m t n:Int) (hm:(m.tmod 4+4).tmod 4+5=(c0.F.m:Int)) (ht:(t.tmod 5+5).tmod 5+1=(c0.K.t:Int)) (hn:(n.tmod 12+12).tmod 12+1=(n0:Int)) (h1:1≤n0) (h12:n0≤12) (hf:nF c0.F<8*n0+c0.K.D) (m7:c.F.m=7) (t3:c.K.t=3):
 Does (C:=C0) Tryz.prog (.fn 10) [] [.int .i64 m,.int .i64 t,.int .i64 n] [⟨MdY,MdOK c.K,mdR c.K 5,mdL c.K 5⟩]:=by
 obtain ⟨g1,g2,g3,g4⟩:=cd_facts c0
 obtain ⟨u1,u2,u3,u4⟩:=cd_facts c
 have et:((t.tmod 5+5).tmod 5+1).toNat=c0.K.t:=by omega
 have en:((n.tmod 12+12).tmod 12+1).toNat=n0:=by omega
 have m8:=c0.m8
 have tt:=tmods m t n
 have n7:nF c.F=127:=by rw [nF_eq];show 2 ^ c.F.m - 1=127;rw [m7]
 have d21:c.K.D=21:=by rw [← u1,n7,t3];exact ls7_3
 refine loc_fn (P:=Tryz.prog) (E:=⟨[fcRnewX c0.F,fcRnewF c.F,fcNew c.K,fcDNew],[],65,[(9,[],[.p 1,.q 0,.e 2,.p 3]),(11,[],[.p 0,.p 2,.p 3,.p 4,.q 1,.e 5,.p 6])],[],[],none⟩) (L:=[]) mix Tryz.func10 rfl (by kernel_rfl) (by kernel_rfl) rfl rfl ?_
 ((conv=>arg 1;reduce);with_reducible repeat' first | exact ty | refine ta ?_ ?_ | refine ti fun _ => ?_ | refine tf fun _ => ?_ | refine tl ?_)
 all_goals try exact absurd (fun h=>nomatch h:(105:Int)≠0) (nf ‹decide ((105:Int)≠0)=false›)
 all_goals try exact vlf
 all_goals try first
  | (refine inR64 ?_ ?_ <;> omega)
 · exact ⟨⟨by show 1≤((t.tmod 5+5).tmod 5+1).toNat;omega,by show ((t.tmod 5+5).tmod 5+1).toNat≤40;omega,by show (lsO (nF c0.F) ((t.tmod 5+5).tmod 5+1).toNat).2.2<nF c0.F;rw [et];omega⟩,⟨by show 1≤((n.tmod 12+12).tmod 12+1).toNat;omega,by show ((n.tmod 12+12).tmod 12+1).toNat≤2000;omega⟩,by show nF c0.F<8*((n.tmod 12+12).tmod 12+1).toNat+(lsO (nF c0.F) ((t.tmod 5+5).tmod 5+1).toNat).2.2;rw [et,en,g1];exact hf⟩
 · refine ⟨⟨by decide,by decide,?_⟩,⟨by decide,by decide⟩,?_⟩
   · show (lsO (nF c.F) 3).2.2<nF c.F
     rw [← t3,u1];exact u2
   · show 8*5+(lsO (nF c.F) 3).2.2≤nF c.F
     rw [← t3,u1,d21,n7];decide
 · exact ⟨by show 1≤5;decide,by show 5≤2048;decide,by show 8*5+c.K.D≤nF c.F;omega⟩
 · rename_i z0 hz0 b1 d z hz y hy v hv
   change Lq at z
   change NwY at y
   change Nat at v
   have e3:(lsO (nF c.F) 3).2.2=c.K.D:=by rw [← t3];exact u1
   refine Ends.one ((z,y,v):MdY) ⟨hz.1,hy⟩ ?_
   ((conv=>arg 1;reduce);with_reducible repeat' first | exact ty | refine ta ?_ ?_ | refine ti fun _ => ?_ | refine tf fun _ => ?_ | refine tl ?_)
   all_goals first
    | exact vlf
    | (show ((3:Int).toNat:Int)=(c.K.t:Int);rw [t3];rfl)
    | (show ((lsO (nF c.F) (sb 3)).2.2:Int)=(c.K.D:Int);rw [show sb 3=3 from rfl,e3])
theorem made_all (m t n:Int):∃ (c:Cd) (n':Nat),(1≤n'∧n'≤12∧8*n'+c.K.D≤nF c.F)∧Does (C:=C0) Tryz.prog (.fn 10) [] [.int .i64 m,.int .i64 t,.int .i64 n] [⟨MdY,MdOK c.K,mdR c.K n',mdL c.K n'⟩]:=by
 have tt:=tmods m t n
 have r1:=tmods (m.tmod 4+4) (t.tmod 5+5) (n.tmod 12+12)
 have p1:=qn 4 (show 0≤m.tmod 4+4 by omega)
 have p2:=qn 5 (show 0≤t.tmod 5+5 by omega)
 have p3:=qn 12 (show 0≤n.tmod 12+12 by omega)
 obtain ⟨c0,hm,ht⟩:=code_of ((m.tmod 4+4).tmod 4+5).toNat ((t.tmod 5+5).tmod 5+1).toNat (by omega) (by omega) (by omega) (by omega)
 by_cases hf:8*((n.tmod 12+12).tmod 12+1).toNat+c0.K.D≤nF c0.F
 · exact ⟨c0,((n.tmod 12+12).tmod 12+1).toNat,⟨by omega,by omega,hf⟩,made_okA c0 _ m t n (by omega) (by omega) (by omega) (by omega) (by omega) hf⟩
 · obtain ⟨c,m7,t3⟩:=code_of 7 3 (by decide) (by decide) (by decide) (by decide)
   have n7:nF c.F=127:=by rw [nF_eq];show 2 ^ c.F.m - 1=127;rw [m7]
   have d21:c.K.D=21:=by rw [← (cd_facts c).1,n7,t3];exact ls7_3
   exact ⟨c,5,⟨by decide,by decide,by omega⟩,made_okB c0 c ((n.tmod 12+12).tmod 12+1).toNat m t n (by omega) (by omega) (by omega) (by omega) (by omega) (by omega) m7 t3⟩
end
end Go.Vx
namespace Go.Vx
open Go Go.Proofs Go.Vx.Fd
noncomputable section
variable [Gl]
section
variable {F:Gf}
theorem phi_congr {C:Nat→El F} {L:Nat} {s s':Nat→El F} {j:Nat} (h:∀ k,k≤j→s k=s' k):phi C L s j=phi C L s' j:=sm_congr fun i _=>by rw [h (j - i) (by omega)]
theorem bm_congr {s s':Nat→El F} {n:Nat} {C B:Nat→El F} {L k b:Nat} {e:El F} (h:BM s n C B L k b e) (hs:∀ k,k<n→s k=s' k):BM s' n C B L k b e:=by
 refine ⟨h.c0,h.cd,h.bd,h.k1,h.e0,h.rel,fun j h1 h2 => ?_,?_,fun l Y h1 h2=>h.low l Y h1 fun a ha => ?_⟩
 · rw [← phi_congr (s:=s) fun a ha=>hs a (by omega)];exact h.cz j h1 h2
 · refine h.bz.imp id fun ⟨h1,h2,h3,h4⟩ => ?_
   have hk:=h.k1
   refine ⟨h1,h2,?_,fun j h5 h6 => ?_⟩
   · rw [← phi_congr (s:=s) fun a ha=>hs a (by omega)];exact h3
   · rw [← phi_congr (s:=s) fun a ha=>hs a (by omega)];exact h4 j h5 h6
 · rw [hs a ha];exact h2 a ha
theorem su_range {b:Nat→Bool} {f:Nat→El F}:∀ n,su ((xj n).filter b) f=sm n fun k=>bk (b k)*f k
 | 0=>rfl
 | n+1=>by
   rw [List.range_succ,List.filter_append,su_app,su_range n]
   show _=sm n _+bk (b n)*f n
   congr 1
   cases h:b n
   · rw [List.filter_cons_of_neg (by rw [h];exact Bool.false_ne_true)];exact (zmul _).symm
   · rw [List.filter_cons_of_pos h];show f n+zr=un*f n;rw [add0,umul]
theorem svL_cf {A:List Int} {T k:Nat}:cf (els F (svL F A T)) k=if k<T then su A (fun p=>pw (exF F p) (k+1)) else zr:=by
 have e:els F (svL F A T)=mk T fun i=>su A fun p=>pw (exF F p) (i+1):=by
  unfold svL mk els;rw [se];exact List.map_congr_left fun i _=>el_vi _
 rw [e,mk_cf]
theorem dcS_cf {t d g k:Nat} {D R:List Int} (h:k<2*t):cf (els F (dcS F t d g D R)) k=vl (wdB g D (mkR g R)) (8*d+g) (ex F (k+1)):=by
 unfold dcS psL
 rw [svL_cf,if_pos h,su_map,su_range]
 unfold vl
 exact sm_congr fun i _=>by rw [exF_nat,ex_pw,ex_pw,xn]
abbrev dcB (F:Gf) (t d g:Nat) (D R:List Int):Bm F:=bmN (els F (dcS F t d g D R)) (2*t)
theorem dcB_ok (t d g:Nat) (D R:List Int):∃ b0,BM (fun k=>vl (wdB g D (mkR g R)) (8*d+g) (ex F (k+1))) (2*t) (cf (dcB F t d g D R).C) (cf (dcB F t d g D R).B) (dcB F t d g D R).L (dcB F t d g D R).k b0 (dcB F t d g D R).e:=
 let ⟨b0,h⟩:=bmN_ok (els F (dcS F t d g D R)) (2*t)
 ⟨b0,bm_congr h fun k hk=>dcS_cf hk⟩
theorem dcN_L {t d g:Nat} {D R:List Int}:dcN F t d g D R=(dcB F t d g D R).L:=by
 rw [dcN_eq];unfold wkN bL;rw [dcS_len]
theorem dcL_C {t d g:Nat} {D R:List Int}:dcL F t d g D R=vis (trim (dcB F t d g D R).C):=by
 rw [dcL_eq];unfold wkL bC;rw [trL_els,dcS_len]
theorem dcL_top {t d g:Nat} {D R:List Int}:(dcL F t d g D R).length=top (dcB F t d g D R).C:=by rw [dcL_C,zm,trim_len]
theorem pw_ivx {x:El F} (h:x≠zr) (n:Nat):pw (iv x) n=iv (pw x n):=iv_uniq (pw_iv h n)
theorem exF_neg (k:Nat):exF F (-(k:Int))=iv (ex F k):=by
 refine iv_uniq ?_
 have hN:=Gf.N3 (F:=F)
 unfold exF
 rw [← ex_add,← ex_mod]
 have h1:=Int.emod_nonneg (-(k:Int)) (show (F.N:Int)≠0 by omega)
 have h2:=Int.mul_ediv_add_emod (-(k:Int)) (F.N:Int)
 have e:(k+(-(k:Int) % (F.N:Int)).toNat) % F.N=0:=by
  refine Int.ofNat.inj ?_
  show (((k+(-(k:Int) % (F.N:Int)).toNat) % F.N:Nat):Int)=0
  rw [Int.natCast_emod,Int.natCast_add,Int.toNat_of_nonneg h1,show (k:Int) + -(k:Int) % (F.N:Int)=(F.N:Int)*(-(-(k:Int) / (F.N:Int))) by rw [Int.mul_neg];omega]
  exact Int.mul_emod_right _ _
 rw [e];rfl
theorem rt_term (C:List (El F)) (a k:Nat):tv F (vis (trim C)) a k=cf C k*pw (iv (ex F a)) k:=by
 unfold tv
 rw [els_vis,trim_cf,exF_neg,pw_ivx (ex_ne k),pw_ivx (ex_ne a),ex_pw,ex_pw,xn]
theorem trim_trim (C:List (El F)):trim (trim C)=trim C:=trim_ext fun i=>trim_cf C i
theorem dcB_top {t d g:Nat} {D R:List Int}:top (dcB F t d g D R).C≤(dcB F t d g D R).L+1∧(top (dcB F t d g D R).C=(dcB F t d g D R).L+1↔cf (dcB F t d g D R).C (dcB F t d g D R).L≠zr):=by
 obtain ⟨b0,h⟩:=dcB_ok (F:=F) t d g D R
 have h1:top (dcB F t d g D R).C≤(dcB F t d g D R).L+1:=Nat.le_of_not_lt fun hl=>top_ne (dcB F t d g D R).C (by omega) (h.cd _ (by omega))
 refine ⟨h1,fun e => ?_,fun hn => ?_⟩
 · have:=top_ne (dcB F t d g D R).C (by omega)
   rwa [e,Nat.add_sub_cancel] at this
 · have:=Classical.byContradiction fun hl:¬ (dcB F t d g D R).L<top (dcB F t d g D R).C=>hn (top_zero _ (by omega))
   omega
theorem dcZ_root {t d g:Nat} {D R:List Int} (hn:8*d+g≤F.N):dcZ F t d g D R=((xj (8*d+g)).filter fun a=>decide (sm ((dcB F t d g D R).L+1) (fun i=>cf (dcB F t d g D R).C i*pw (iv (ex F a)) i)=zr)).map fun a:Nat=>(a:Int):=by
 obtain ⟨b0,h⟩:=dcB_ok (F:=F) t d g D R
 have hs:=nF_sz F
 have e0:(max 0 (min (8*(d:Int)+(g:Int)) ((szF F:Int) - 1))).toNat=8*d+g:=by rw [← nF_eq] at hn;omega
 rw [dcZ_eq]
 unfold srL
 rw [e0,dcL_C,trL_els,trim_trim]
 unfold rtL
 congr 1
 refine pm fun a _ => ?_
 refine decide_eq_decide.2 ?_
 unfold yS
 rw [vi_zero,zm,trim_len,sm_congr fun k _=>rt_term _ a k,← sm_more dcB_top.1 fun i h1 h2=>by rw [top_zero _ h1,zmul]]
theorem clean_iff {t d g:Nat} {D R:List Int}:clnB (dcS F t d g D R)=true↔∀ k,k<2*t→vl (wdB g D (mkR g R)) (8*d+g) (ex F (k+1))=zr:=by
 have hv:∀ k,k<2*t→(dcS F t d g D R).getD k 0=vi (cf (els F (dcS F t d g D R)) k):=fun k hk=>by
  unfold dcS
  rw [svL_cf,if_pos hk]
  unfold svL
  simp only [zy,List.getElem?_map,List.getElem?_range hk];rfl
 constructor
 · intro h k hk
   rw [← dcS_cf hk,← vi_zero,← hv k hk]
   exact clnB_iff.1 h _ (getD_mem (by rw [dcS_len];exact hk))
 · intro h
   refine clnB_yes fun a ha => ?_
   rw [dcS_len] at ha
   rw [hv a ha,dcS_cf ha,h a ha];rfl
variable (K:Kd F)
theorem clean_word {d g:Nat} {D R:List Int}:clnB (dcS F K.t d g D R)=true↔Wd K.Q (wdB g D (mkR g R)) (8*d+g):=by
 rw [clean_iff]
 unfold Wd
 rw [K.Qt]
 constructor
 · intro h i h1 h2
   have:=h (i - 1) (by omega)
   rwa [show i - 1+1=i by omega] at this
 · exact fun h k hk=>h (k+1) (by omega) (by omega)
theorem dec_few {d g:Nat} {D R:List Int} {b:Nat→Bool} {P:List Nat} (hn:8*d+g≤F.N) (hW:Wd K.Q b (8*d+g)) (hb:∀ k,k<8*d+g→wdB g D (mkR g R) k=flips P b k) (hP:P.Nodup) (hp:∀ p∈P,p<8*d+g) (ht:P.length≤K.t):
 dcN F K.t d g D R=P.length∧(dcL F K.t d g D R).length=P.length+1∧dcZ F K.t d g D R=((xj (8*d+g)).filter fun a=>decide (a∈P)).map (fun a:Nat=>(a:Int))∧(clnB (dcS F K.t d g D R)=true↔P=[]):=by
 obtain ⟨b0,h⟩:=dcB_ok (F:=F) K.t d g D R
 have hS:∀ i,1≤i→i≤2*K.t→vl (wdB g D (mkR g R)) (8*d+g) (ex F i)=su P fun p=>pw (ex F i) p:=fun i h1 h2=>by
  rw [vl_congr hb,vl_flips hP hp,hW i h1 (by rw [K.Qt];exact h2),zadd]
 have h':=h
 rw [← K.Qt] at h'
 obtain ⟨m1,m2,m3⟩:=mends (Q:=K.Q) (S:=fun i=>vl (wdB g D (mkR g R)) (8*d+g) (ex F i)) (by rw [K.Qt];exact h) hP (fun p hp'=>by have:=hp p hp';omega) (by rw [K.Qt];exact hS) (by rw [K.Qt];exact ht)
 refine ⟨by rw [dcN_L];exact m1,?_,?_,?_⟩
 · rw [dcL_top,dcB_top.2.2 m2,m1]
 · rw [dcZ_root hn]
   congr 1
   refine pm fun a ha=>decide_eq_decide.2 ?_
   exact m3 a (by have:=List.mem_range.1 ha;omega)
 · rw [clean_iff]
   constructor
   · intro hc
     have:=h.low [] (fun x=>x) uu fun k hk=>hc k hk
     have:P.length=0:=by rw [← m1];exact Nat.le_zero.1 this
     exact vg this
   · rintro rfl
     exact fun k hk=>hS (k+1) (by omega) (by omega)
theorem dcZ_nodup {t d g:Nat} {D R:List Int} (hn:8*d+g≤F.N):((dcZ F t d g D R).map sb).Nodup∧∀ p∈(dcZ F t d g D R).map sb,p<8*d+g:=by
 rw [dcZ_root hn,se]
 refine ⟨?_,fun p hp => ?_⟩
 · exact (List.map_id _).symm ▸ List.Nodup.sublist List.filter_sublist List.nodup_range
 · obtain ⟨q,hq,rfl⟩:=List.mem_map.1 hp
   exact List.mem_range.1 (List.mem_filter.1 hq).1
theorem dcS_congr {t d g:Nat} {D R R':List Int} (h:mkR g R=mkR g R'):dcS F t d g D R=dcS F t d g D R':=by unfold dcS;rw [h]
theorem reg_congr' {D n:Nat} {g g' b:Nat→Bool} (hD:1≤D) (hg:∀ k,k<D→g k=g' k):∀ i k,k<D→reg D g b n i k=reg D g' b n i k
 | 0,_,_=>rfl
 | i+1,k,hk=>by
   show shf D g _ _ k=shf D g' _ _ k
   unfold shf
   rw [hg k hk,reg_congr' hD hg i (D - 1) (by omega)]
   congr 1
   split
   · rfl
   · exact reg_congr' hD hg i _ (by omega)
theorem pa_right {D:List Int}:Wd K.Q (wdB K.D D (paK K D)) (8*D.length+K.D):=by
 have h:=Wd.made K.Q (bt D) (8*D.length) (r:=bt (paK K D)) fun k hk=>by
  rw [K.QD] at hk
  rw [paK_bt,decide_eq_true hk,yw,K.QD]
  exact reg_congr' K.D1 (fun j hj=>gK_lt K hj) _ _ hk
 rw [K.QD] at h
 rw [Nat.add_comm]
 exact h
end
theorem mkR_bt {g:Nat} {R:List Int} (hR:Byt8 R) (hl:R.length=(g+7) / 8) (k:Nat):bt (mkR g R) k=(decide (k<g) && bt R k):=by
 have hout:∀ k,8*R.length≤k→bt R k=false:=fun k hk=>by
  unfold bt
  rw [zy,List.getElem?_eq_none (by omega)]
  exact Nat.zero_testBit _
 unfold mkR
 split
 · by_cases h:k<g
   · rw [decide_eq_true h,yw]
   · rw [decide_eq_false h,yu];exact hout k (by omega)
 · rename_i hg
   obtain ⟨x,hx,x1,x2⟩:=byt_at hR (show R.length - 1<R.length by omega)
   have hp:2 ^ (g % 8)≤2 ^ 8:=zi (by omega) (by omega)
   have hp0:=yd (g % 8)
   rw [hx,and8 x1 (by omega),bt_set (by omega),zo]
   by_cases h8:k / 8=R.length - 1
   · rw [if_pos h8,Nat.testBit_and,Nat.testBit_two_pow_sub_one,x2 _ (zc _ (by omega)),show 8*(R.length - 1)+k % 8=k by omega,Bool.and_comm]
     congr 1
     exact decide_eq_decide.2 (by omega)
   · rw [if_neg h8]
     by_cases h:k<g
     · rw [decide_eq_true h,yw]
     · rw [decide_eq_false h,yu];exact hout k (by omega)
theorem tn_bits {g d:Nat}:∀ (zs:List Int) (D R:List Int),Byt8 D→Byt8 R→D.length=d→g≤8*R.length→(zs.map sb).Nodup→(∀ p∈zs.map sb,p<8*d+g)→
 (∀ k,k<8*d+g→wdB g (tnD g D zs) (tnP g R zs) k=flips (zs.map sb) (wdB g D R) k)∧Byt8 (tnD g D zs)∧Byt8 (tnP g R zs)∧∀ k,g≤k→bt (tnP g R zs) k=bt R k
 | [],D,R,hD,hR,hl,hg,_,_=>by
   rw [tnD_zero,tnP_zero]
   exact ⟨fun k _=>by unfold flips;simp,hD,hR,fun _ _=>rfl⟩
 | z :: zs,D,R,hD,hR,hl,hg,hn,hp=>by
   have hz:=hp z.toNat (List.mem_cons_self ..)
   obtain ⟨n1,n2⟩:=List.nodup_cons.1 hn
   have kD:Byt8 (fpD g D z.toNat):=by unfold fpD;split;exact hD;exact flB_byt hD
   have kR:Byt8 (fpP g R z.toNat):=by unfold fpP;split;exact flB_byt hR;exact hR
   obtain ⟨i1,i2,i3,i4⟩:=tn_bits (g:=g) (d:=d) zs (fpD g D z.toNat) (fpP g R z.toNat) kD kR (by rw [fpD_len];exact hl) (by rw [fpP_len];exact hg) n2 fun p h=>hp p (List.mem_cons_of_mem _ h)
   have eD:tnD g D (z :: zs)=tnD g (fpD g D z.toNat) zs:=by unfold tnD;rfl
   have eP:tnP g R (z :: zs)=tnP g (fpP g R z.toNat) zs:=by unfold tnP;rfl
   have e1:∀ k,k<8*d+g→wdB g (fpD g D z.toNat) (fpP g R z.toNat) k=(wdB g D R k ^^ decide (k=z.toNat)):=fun k hk=>by
    unfold wdB
    by_cases h:z.toNat<g
    · rw [fpD_lo h,fpP_lo h]
      by_cases h2:k<g
      · rw [if_pos h2,if_pos h2,flB_bt hR (by omega)]
      · rw [if_neg h2,if_neg h2,decide_eq_false (by omega),vo]
    · rw [fpD_hi h,fpP_hi h]
      by_cases h2:k<g
      · rw [if_pos h2,if_pos h2,decide_eq_false (by omega),vo]
      · rw [if_neg h2,if_neg h2,flB_bt hD (by omega)]
        congr 1
        exact decide_eq_decide.2 (by omega)
   rw [eD,eP]
   refine ⟨fun k hk => ?_,i2,i3,fun k hk => ?_⟩
   · rw [i1 k hk]
     unfold flips
     rw [e1 k hk]
     by_cases hkz:k=z.toNat
     · rw [hkz] at *
       simp [n1]
     · simp [hkz]
   · rw [i4 k hk]
     by_cases h:z.toNat<g
     · rw [fpP_lo h,flB_bt hR (by omega),decide_eq_false (by omega),vo]
     · rw [fpP_hi h]
end
end Go.Vx
namespace Go.Vx
open Go Go.Proofs Go.Vx.Fd
noncomputable section
variable [Gl]
theorem mk_wd {g:Nat} {D R:List Int} (hR:Byt8 R) (hl:R.length=(g+7) / 8) (k:Nat):wdB g D (mkR g R) k=wdB g D R k:=by
 unfold wdB
 by_cases h:k<g
 · rw [if_pos h,if_pos h,mkR_bt hR hl,decide_eq_true h,yw]
 · rw [if_neg h,if_neg h]
theorem mk_id {g:Nat} {R:List Int} (hR:Byt8 R) (hl:R.length=(g+7) / 8) (hz:∀ k,g≤k→bt R k=false):mkR g R=R:=by
 refine byt_ext (mkR_byt hR) hR mkR_len fun k _ => ?_
 rw [mkR_bt hR hl]
 by_cases h:k<g
 · rw [decide_eq_true h,yw]
 · rw [decide_eq_false h,yu,hz k (by omega)]
section
variable {F:Gf} (K:Kd F)
theorem pa_out (D:List Int):∀ k,K.D≤k→bt (paK K D) k=false:=fun k hk=>by rw [paK_bt,decide_eq_false (by omega),yu]
theorem pa_len' (D:List Int):(paK K D).length=(K.D+7) / 8:=paK_len K D
theorem pa_mk (D:List Int):mkR K.D (paK K D)=paK K D:=mk_id (paK_byt K D) (pa_len' K D) (pa_out K D)
theorem pa_tk (D:List Int):((paK K D).drop 0).take (nP K)=paK K D:=by rw [zq,za (by rw [paK_len];exact zx _)]
theorem pa_clean {D:List Int} {d:Nat} (hd:D.length=d):clnB (dcS F K.t d K.D D (paK K D))=true:=by
 subst hd
 rw [clean_word,pa_mk]
 exact pa_right K
end
theorem cd5 {c:Cd} (m5:c.F.m=5) (t2:c.K.t=2):nF c.F=31∧c.K.D=10∧nP c.K=2:=by
 have n7:nF c.F=31:=by rw [nF_eq];show 2 ^ c.F.m - 1=31;rw [m5]
 have h:=c.hd
 have e:2 ^ c.F.m - 1=31:=by rw [m5]
 rw [e,t2] at h
 have d10:c.K.D=10:=by rw [← h];exact ls5_2
 refine ⟨n7,d10,?_⟩
 unfold nP
 rw [d10]
theorem ex_two {c:Cd} (m5:c.F.m=5) (t2:c.K.t=2):clnB (dcS c.F c.K.t 2 c.K.D [6,9] (paK c.K [7,9]))=false∧dcN c.F c.K.t 2 c.K.D [6,9] (paK c.K [7,9])=1∧(dcL c.F c.K.t 2 c.K.D [6,9] (paK c.K [7,9])).length=2∧
 dcZ c.F c.K.t 2 c.K.D [6,9] (paK c.K [7,9])=[10]∧tnD c.K.D [6,9] [10]=[7,9]∧tnP c.K.D (mkR c.K.D (paK c.K [7,9])) [10]=paK c.K [7,9]:=by
 obtain ⟨n31,d10,p2⟩:=cd5 m5 t2
 have hb:∀ j,j<16→bt [6,9] j=(bt [7,9] j ^^ decide (j=0)):=by decide
 have h:=dec_few c.K (d:=2) (g:=c.K.D) (D:=[6,9]) (R:=paK c.K [7,9]) (b:=wdB c.K.D [7,9] (paK c.K [7,9])) (P:=[10]) (by rw [← nF_eq,n31,d10];decide) (pa_right c.K) (fun k hk=>by
  rw [mk_wd (paK_byt c.K _) (pa_len' c.K _)]
  rw [d10] at hk ⊢
  show (if k<10 then bt (paK c.K [7,9]) k else bt [6,9] (k - 10))=((if k<10 then bt (paK c.K [7,9]) k else bt [7,9] (k - 10)) ^^ decide (k∈[10]))
  by_cases hg:k<10
  · rw [if_pos hg,if_pos hg,decide_eq_false (by simp;omega),vo]
  · rw [if_neg hg,if_neg hg,hb _ (by omega)]
    congr 1
    refine decide_eq_decide.2 ?_
    rw [List.mem_singleton]
    omega) (List.nodup_cons.2 ⟨(fun h=>nomatch h),uu⟩) (fun p hp=>by rw [List.mem_singleton.1 hp,d10];decide) (by rw [t2];decide)
 obtain ⟨h1,h2,h3,h4⟩:=h
 refine ⟨?_,h1,h2,?_,?_,?_⟩
 · cases hc:clnB (dcS c.F c.K.t 2 c.K.D [6,9] (paK c.K [7,9])) with
   | false=>rfl
   | true=>exact absurd (h4.1 hc) (fun h=>nomatch h)
 · rw [h3,d10];decide
 · rw [d10]
   unfold tnD fpD
   show (if (10:Int).toNat<10 then [6,9] else flB [6,9] ((10:Int).toNat - 10))=[7,9]
   rw [if_neg (by decide)]
   unfold flB
   decide
 · rw [pa_mk,d10]
   unfold tnP fpP
   show (if (10:Int).toNat<10 then flB (paK c.K [7,9]) (10:Int).toNat else paK c.K [7,9])=_
   rw [if_neg (by decide)]
end
end Go.Vx
namespace Go.Vx
open Go Go.Proofs
noncomputable section
variable [Gl]
def pickN:Nat→List (Alt C0)→Alt C0
 | 0,a :: _=>a
 | n+1,_ :: l=>pickN n l
 | _,[]=>⟨Unit,fun _=>False,fun _=>.junk,fun _=>[]⟩
def fcOnly {P:Program} (f:Fc P C0) (i:Nat) (pre':f.X→Prop) (hp:∀ x,f.pre x→pre' x→∀ B∈f.alts x,(∀ y,¬ B.post y)∨B=pickN i (f.alts x)) (k:Option Nat):Fc P C0 where
 tg:=f.tg
 X:=f.X
 args:=f.args
 mem:=f.mem
 pre x:=f.pre x∧pre' x
 alts x:=[pickN i (f.alts x)]
 mat vs m:=match k with
  | none=>f.mat vs m
  | some k=>match Nat.beq m.length k with
    | true=>f.mat vs m
    | false=>none
 ok x h:=does_pick _ (f.ok x h.1) (hp x h.1 h.2)
def pcSb2:Pc Tryz.prog C0:={ pcSb with mat:=fun vs m=>match vs with
    | [.nils,.nils]=>some (((false,0,0,[],0,0,0),(false,0,0,[],0,0,0)),[m.length,m.length+1])
    | _=>none }
def pcSi2:Pc Tryz.prog C0:={ pcSameInts with mat:=fun vs m=>match vs with
    | [.nils,.nils]=>some (((false,0,0,[],0,0),(false,0,0,[],0,0)),[m.length,m.length+1])
    | _=>none }
section
variable (F:Gf)
def dcPC:(fcDecode F).X→Prop:=fun (_,(_,_,t,d,g,r),_,(o,b,q,l,i,n,c),(o',b',q',l',i',n',c'))=>n=d∧n'=r∧clnB (dcS F t d g ((l.drop i).take n) ((l'.drop i').take n'))=true
def dcPM:(fcDecode F).X→Prop:=fun (_,(_,_,t,d,g,r),_,(o,b,q,l,i,n,c),(o',b',q',l',i',n',c'))=>n=d∧n'=r∧clnB (dcS F t d g ((l.drop i).take n) ((l'.drop i').take n'))=false∧¬ (t<dcN F t d g ((l.drop i).take n) ((l'.drop i').take n')∨(dcL F t d g ((l.drop i).take n) ((l'.drop i').take n')).length≠dcN F t d g ((l.drop i).take n) ((l'.drop i').take n')+1)∧(dcZ F t d g ((l.drop i).take n) ((l'.drop i').take n')).length=dcN F t d g ((l.drop i).take n) ((l'.drop i').take n')
def dcPX:(fcDecode F).X→Prop:=fun (_,(_,_,t,d,g,r),_,(o,b,q,l,i,n,c),(o',b',q',l',i',n',c'))=>n=d∧n'=r∧clnB (dcS F t d g ((l.drop i).take n) ((l'.drop i').take n'))=false∧((t<dcN F t d g ((l.drop i).take n) ((l'.drop i').take n')∨(dcL F t d g ((l.drop i).take n) ((l'.drop i').take n')).length≠dcN F t d g ((l.drop i).take n) ((l'.drop i').take n')+1)∨(dcZ F t d g ((l.drop i).take n) ((l'.drop i').take n')).length≠dcN F t d g ((l.drop i).take n) ((l'.drop i').take n'))
theorem dcPC_ok (x:(fcDecode F).X) (h:(fcDecode F).pre x) (hc:dcPC F x):∀ B∈(fcDecode F).alts x,(∀ y,¬ B.post y)∨B=pickN 2 ((fcDecode F).alts x):=by
 obtain ⟨⟨bd,qd⟩,⟨bC,qC,t,d,g,r⟩,⟨bF,qF,be,qe,bl,ql⟩,⟨o,b,q,l,i,n,c⟩,⟨o',b',q',l',i',n',c'⟩⟩:=x
 obtain ⟨h1,h2,h3⟩:=hc
 intro B hB
 rcases List.mem_cons.1 hB with rfl | hB
 · exact .inl fun _ hp=>by rcases hp with hp | hp;exact hp h1;exact hp h2
 rcases List.mem_cons.1 hB with rfl | hB
 · exact .inl fun _ hp=>by have:=hp.2.1;rw [h3] at this;cases this
 rcases List.mem_cons.1 hB with rfl | hB
 · exact .inr rfl
 · rw [List.mem_singleton.1 hB]
   exact .inl fun _ hp=>by have:=hp.2.1;rw [h3] at this;cases this
theorem dcPM_ok (x:(fcDecode F).X) (h:(fcDecode F).pre x) (hc:dcPM F x):∀ B∈(fcDecode F).alts x,(∀ y,¬ B.post y)∨B=pickN 3 ((fcDecode F).alts x):=by
 obtain ⟨⟨bd,qd⟩,⟨bC,qC,t,d,g,r⟩,⟨bF,qF,be,qe,bl,ql⟩,⟨o,b,q,l,i,n,c⟩,⟨o',b',q',l',i',n',c'⟩⟩:=x
 obtain ⟨h1,h2,h3,h4,h5⟩:=hc
 intro B hB
 rcases List.mem_cons.1 hB with rfl | hB
 · exact .inl fun _ hp=>by rcases hp with hp | hp;exact hp h1;exact hp h2
 rcases List.mem_cons.1 hB with rfl | hB
 · exact .inl fun _ hp=>by rcases hp.2.2 with hp | hp;exact h4 hp;exact hp h5
 rcases List.mem_cons.1 hB with rfl | hB
 · exact .inl fun _ hp=>by have:=hp.2.1;rw [h3] at this;cases this
 · exact .inr (List.mem_singleton.1 hB)
theorem dcPX_ok (x:(fcDecode F).X) (h:(fcDecode F).pre x) (hc:dcPX F x):∀ B∈(fcDecode F).alts x,(∀ y,¬ B.post y)∨B=pickN 1 ((fcDecode F).alts x):=by
 obtain ⟨⟨bd,qd⟩,⟨bC,qC,t,d,g,r⟩,⟨bF,qF,be,qe,bl,ql⟩,⟨o,b,q,l,i,n,c⟩,⟨o',b',q',l',i',n',c'⟩⟩:=x
 obtain ⟨h1,h2,h3,h4⟩:=hc
 intro B hB
 rcases List.mem_cons.1 hB with rfl | hB
 · exact .inl fun _ hp=>by rcases hp with hp | hp;exact hp h1;exact hp h2
 rcases List.mem_cons.1 hB with rfl | hB
 · exact .inr rfl
 rcases List.mem_cons.1 hB with rfl | hB
 · exact .inl fun _ hp=>by have:=hp.2.1;rw [h3] at this;cases this
 · rw [List.mem_singleton.1 hB]
   exact .inl fun _ hp=>by rcases h4 with h4 | h4;exact hp.2.2.1.1 h4;exact h4 hp.2.2.1.2
def fcDecC (k:Option Nat):Fc Tryz.prog C0:=fcOnly (fcDecode F) 2 (dcPC F) (dcPC_ok F) k
def fcDecM (k:Option Nat):Fc Tryz.prog C0:=fcOnly (fcDecode F) 3 (dcPM F) (dcPM_ok F) k
def fcDecX (k:Option Nat):Fc Tryz.prog C0:=fcOnly (fcDecode F) 1 (dcPX F) (dcPX_ok F) k
end
theorem first_ok:Tells (C:=C0) Tryz.prog (.fn 9) [] [] (.bool .t):=by
 obtain ⟨c,m5,t2⟩:=code_of 5 2 (by decide) (by decide) (by decide) (by decide)
 obtain ⟨n31,d10,p2⟩:=cd5 m5 t2
 obtain ⟨x1,x2,x3,x4,x5,x6⟩:=ex_two m5 t2
 have pt:=pa_tk c.K [7,9]
 have pl:=paK_len c.K [7,9]
 have pb:=paK_byt c.K [7,9]
 have b79:Byt8 [7,9]:=fun x hx=>by simp at hx;rcases hx with rfl | rfl <;> decide
 have b69:Byt8 [6,9]:=fun x hx=>by simp at hx;rcases hx with rfl | rfl <;> decide
 refine loc_pc (P:=Tryz.prog) (E:=⟨[fcNew c.K,fcDNew,fcSerial c.K,fcDecC c.F (some 11),fcDecM c.F none],[pcSb,pcSameInts,pcDCode],89,[],[],[],none⟩) (L:=[]) mix Tryz.func9 rfl (by kernel_rfl) (by kernel_rfl) rfl rfl ?_
 ((conv=>arg 1;reduce);with_reducible repeat' first | exact ty | refine ta ?_ ?_ | refine ti fun _ => ?_ | refine tf fun _ => ?_ | refine tl ?_)
 all_goals try exact vlf
 · exact ⟨by show 1≤2;decide,by show 2≤2048;decide,by show 8*2+c.K.D≤nF c.F;omega⟩
 · rename_i y hy v hv b0
   change NwY at y
   have hy:NwOK c.K y:=hy
   exact ⟨by show 0+2≤2;decide,by show 2<100000;decide,nofun,b79,hy.2.1,hy.2.2,rfl⟩
 · refine ⟨⟨⟨by show c.K.t≤40;omega,by show 2<100000;decide,by show c.K.D<100000;omega,rfl,by show 1≤2;decide,by show 1≤c.K.D;omega⟩,⟨⟨by show 0+2≤2;decide,by show 2<1000000000;decide,nofun⟩,⟨by show 0+nP c.K≤(paK c.K [7,9]).length;omega,by show nP c.K<1000000000;omega,nofun⟩⟩,b79,?_⟩,rfl,rfl,?_⟩
   · show Byt8 (((paK c.K [7,9]).drop 0).take (nP c.K));rw [pt];exact pb
   · show clnB (dcS c.F c.K.t 2 c.K.D [7,9] (((paK c.K [7,9]).drop 0).take (nP c.K)))=true
     rw [pt];exact pa_clean c.K rfl
 · refine ⟨⟨⟨by show c.K.t≤40;omega,by show 2<100000;decide,by show c.K.D<100000;omega,rfl,by show 1≤2;decide,by show 1≤c.K.D;omega⟩,⟨⟨by show 0+2≤2;decide,by show 2<1000000000;decide,nofun⟩,⟨by show 0+nP c.K≤(paK c.K [7,9]).length;omega,by show nP c.K<1000000000;omega,nofun⟩⟩,b69,?_⟩,rfl,rfl,?_,?_,?_⟩
   · show Byt8 (((paK c.K [7,9]).drop 0).take (nP c.K));rw [pt];exact pb
   · show clnB (dcS c.F c.K.t 2 c.K.D [6,9] (((paK c.K [7,9]).drop 0).take (nP c.K)))=false
     rw [pt];exact x1
   · show ¬ (c.K.t<dcN c.F c.K.t 2 c.K.D [6,9] (((paK c.K [7,9]).drop 0).take (nP c.K))∨(dcL c.F c.K.t 2 c.K.D [6,9] (((paK c.K [7,9]).drop 0).take (nP c.K))).length≠dcN c.F c.K.t 2 c.K.D [6,9] (((paK c.K [7,9]).drop 0).take (nP c.K))+1)
     rw [pt,x2,x3];omega
   · show (dcZ c.F c.K.t 2 c.K.D [6,9] (((paK c.K [7,9]).drop 0).take (nP c.K))).length=dcN c.F c.K.t 2 c.K.D [6,9] (((paK c.K [7,9]).drop 0).take (nP c.K))
     rw [pt,x4,x2];rfl
 all_goals try (
  rename_i y hy v hv b0 s hs w1 A hA w2 B hB w3
  change Os×Os at A
  change Os×Os×Oq at B
  have hA1:Ow [7,9] A.1:=hA.2.2.1
  have hB1:Ow (tnD c.K.D [6,9] (dcZ c.F c.K.t 2 c.K.D [6,9] (((paK c.K [7,9]).drop 0).take (nP c.K)))) B.1:=hB.2.2.2.1.1
  have hB2:Ow (tnP c.K.D (mkR c.K.D (((paK c.K [7,9]).drop 0).take (nP c.K))) (dcZ c.F c.K.t 2 c.K.D [6,9] (((paK c.K [7,9]).drop 0).take (nP c.K)))) B.2.1:=hB.2.2.2.1.2
  have hB3:Oqw (dcZ c.F c.K.t 2 c.K.D [6,9] (((paK c.K [7,9]).drop 0).take (nP c.K))) B.2.2:=hB.2.2.2.2
  have eZ:(dcZ c.F c.K.t 2 c.K.D [6,9] (((paK c.K [7,9]).drop 0).take (nP c.K))).length=1:=by rw [pt,x4];rfl
  rw [pt,x4,x5] at hB1
  rw [pt,x4,x6] at hB2
  rw [pt,x4] at hB3
  have E1:((A.1.2.2.1.drop 0).take 2)=[7,9]:=by rw [zq];exact hA1.eq
  have E2:((B.1.2.2.1.drop 0).take 2)=[7,9]:=by rw [zq];exact hB1.eq
  have E3:((B.2.1.2.2.1.drop 0).take (nP c.K))=paK c.K [7,9]:=by rw [zq,← pl];exact hB2.eq
  have E4:B.2.2.2.2.2.1.take (dcZ c.F c.K.t 2 c.K.D [6,9] (((paK c.K [7,9]).drop 0).take (nP c.K))).length=[10]:=by rw [eZ];exact hB3.eq
  have a1:2≤A.1.2.2.2:=hA1.cap
  have a2:=hA1.len
  have b1:2≤B.1.2.2.2:=hB1.cap
  have b2:=hB1.len
  have b3:(paK c.K [7,9]).length≤B.2.1.2.2.2:=hB2.cap
  have b4:=hB2.len
  have b5:1≤B.2.2.2.2.2.2:=hB3.cap
  have b6:=hB3.len
  exact ⟨by show 0+2≤A.1.2.2.1.length;omega,by show 0+2≤2;decide,hA1.nil,nofun,by show Byt8 ((A.1.2.2.1.drop 0).take 2);rw [E1];exact b79,b79⟩)
 all_goals try (
  rename_i y hy v hv b0 s hs w1 A hA w2 B hB w3 e1
  change Os×Os at A
  change Os×Os×Oq at B
  have hA1:Ow [7,9] A.1:=hA.2.2.1
  have hB1:Ow (tnD c.K.D [6,9] (dcZ c.F c.K.t 2 c.K.D [6,9] (((paK c.K [7,9]).drop 0).take (nP c.K)))) B.1:=hB.2.2.2.1.1
  have hB2:Ow (tnP c.K.D (mkR c.K.D (((paK c.K [7,9]).drop 0).take (nP c.K))) (dcZ c.F c.K.t 2 c.K.D [6,9] (((paK c.K [7,9]).drop 0).take (nP c.K)))) B.2.1:=hB.2.2.2.1.2
  have hB3:Oqw (dcZ c.F c.K.t 2 c.K.D [6,9] (((paK c.K [7,9]).drop 0).take (nP c.K))) B.2.2:=hB.2.2.2.2
  have eZ:(dcZ c.F c.K.t 2 c.K.D [6,9] (((paK c.K [7,9]).drop 0).take (nP c.K))).length=1:=by rw [pt,x4];rfl
  rw [pt,x4,x5] at hB1
  rw [pt,x4,x6] at hB2
  rw [pt,x4] at hB3
  have E1:((A.1.2.2.1.drop 0).take 2)=[7,9]:=by rw [zq];exact hA1.eq
  have E2:((B.1.2.2.1.drop 0).take 2)=[7,9]:=by rw [zq];exact hB1.eq
  have E3:((B.2.1.2.2.1.drop 0).take (nP c.K))=paK c.K [7,9]:=by rw [zq,← pl];exact hB2.eq
  have E4:B.2.2.2.2.2.1.take (dcZ c.F c.K.t 2 c.K.D [6,9] (((paK c.K [7,9]).drop 0).take (nP c.K))).length=[10]:=by rw [eZ];exact hB3.eq
  have a1:2≤A.1.2.2.2:=hA1.cap
  have a2:=hA1.len
  have b1:2≤B.1.2.2.2:=hB1.cap
  have b2:=hB1.len
  have b3:(paK c.K [7,9]).length≤B.2.1.2.2.2:=hB2.cap
  have b4:=hB2.len
  have b5:1≤B.2.2.2.2.2.2:=hB3.cap
  have b6:=hB3.len
  have e1:(ieq ((A.1.2.2.1.drop 0).take 2) [7,9] && true)=false:=e1
  rw [E1,ieq_yes rfl] at e1
  cases e1)
 all_goals try (
  rename_i y hy v hv b0 s hs w1 A hA w2 B hB w3 e1 w4
  change Os×Os at A
  change Os×Os×Oq at B
  have hA1:Ow [7,9] A.1:=hA.2.2.1
  have hB1:Ow (tnD c.K.D [6,9] (dcZ c.F c.K.t 2 c.K.D [6,9] (((paK c.K [7,9]).drop 0).take (nP c.K)))) B.1:=hB.2.2.2.1.1
  have hB2:Ow (tnP c.K.D (mkR c.K.D (((paK c.K [7,9]).drop 0).take (nP c.K))) (dcZ c.F c.K.t 2 c.K.D [6,9] (((paK c.K [7,9]).drop 0).take (nP c.K)))) B.2.1:=hB.2.2.2.1.2
  have hB3:Oqw (dcZ c.F c.K.t 2 c.K.D [6,9] (((paK c.K [7,9]).drop 0).take (nP c.K))) B.2.2:=hB.2.2.2.2
  have eZ:(dcZ c.F c.K.t 2 c.K.D [6,9] (((paK c.K [7,9]).drop 0).take (nP c.K))).length=1:=by rw [pt,x4];rfl
  rw [pt,x4,x5] at hB1
  rw [pt,x4,x6] at hB2
  rw [pt,x4] at hB3
  have E1:((A.1.2.2.1.drop 0).take 2)=[7,9]:=by rw [zq];exact hA1.eq
  have E2:((B.1.2.2.1.drop 0).take 2)=[7,9]:=by rw [zq];exact hB1.eq
  have E3:((B.2.1.2.2.1.drop 0).take (nP c.K))=paK c.K [7,9]:=by rw [zq,← pl];exact hB2.eq
  have E4:B.2.2.2.2.2.1.take (dcZ c.F c.K.t 2 c.K.D [6,9] (((paK c.K [7,9]).drop 0).take (nP c.K))).length=[10]:=by rw [eZ];exact hB3.eq
  have a1:2≤A.1.2.2.2:=hA1.cap
  have a2:=hA1.len
  have b1:2≤B.1.2.2.2:=hB1.cap
  have b2:=hB1.len
  have b3:(paK c.K [7,9]).length≤B.2.1.2.2.2:=hB2.cap
  have b4:=hB2.len
  have b5:1≤B.2.2.2.2.2.2:=hB3.cap
  have b6:=hB3.len
  exact ⟨by show 0+2≤B.1.2.2.1.length;omega,by show 0+2≤2;decide,hB1.nil,nofun,by show Byt8 ((B.1.2.2.1.drop 0).take 2);rw [E2];exact b79,b79⟩)
 all_goals try (
  rename_i y hy v hv b0 s hs w1 A hA w2 B hB w3 e1 w4 e2
  change Os×Os at A
  change Os×Os×Oq at B
  have hA1:Ow [7,9] A.1:=hA.2.2.1
  have hB1:Ow (tnD c.K.D [6,9] (dcZ c.F c.K.t 2 c.K.D [6,9] (((paK c.K [7,9]).drop 0).take (nP c.K)))) B.1:=hB.2.2.2.1.1
  have hB2:Ow (tnP c.K.D (mkR c.K.D (((paK c.K [7,9]).drop 0).take (nP c.K))) (dcZ c.F c.K.t 2 c.K.D [6,9] (((paK c.K [7,9]).drop 0).take (nP c.K)))) B.2.1:=hB.2.2.2.1.2
  have hB3:Oqw (dcZ c.F c.K.t 2 c.K.D [6,9] (((paK c.K [7,9]).drop 0).take (nP c.K))) B.2.2:=hB.2.2.2.2
  have eZ:(dcZ c.F c.K.t 2 c.K.D [6,9] (((paK c.K [7,9]).drop 0).take (nP c.K))).length=1:=by rw [pt,x4];rfl
  rw [pt,x4,x5] at hB1
  rw [pt,x4,x6] at hB2
  rw [pt,x4] at hB3
  have E1:((A.1.2.2.1.drop 0).take 2)=[7,9]:=by rw [zq];exact hA1.eq
  have E2:((B.1.2.2.1.drop 0).take 2)=[7,9]:=by rw [zq];exact hB1.eq
  have E3:((B.2.1.2.2.1.drop 0).take (nP c.K))=paK c.K [7,9]:=by rw [zq,← pl];exact hB2.eq
  have E4:B.2.2.2.2.2.1.take (dcZ c.F c.K.t 2 c.K.D [6,9] (((paK c.K [7,9]).drop 0).take (nP c.K))).length=[10]:=by rw [eZ];exact hB3.eq
  have a1:2≤A.1.2.2.2:=hA1.cap
  have a2:=hA1.len
  have b1:2≤B.1.2.2.2:=hB1.cap
  have b2:=hB1.len
  have b3:(paK c.K [7,9]).length≤B.2.1.2.2.2:=hB2.cap
  have b4:=hB2.len
  have b5:1≤B.2.2.2.2.2.2:=hB3.cap
  have b6:=hB3.len
  refine ⟨by show 0+nP c.K≤B.2.1.2.2.1.length;omega,by show 0+nP c.K≤(paK c.K [7,9]).length;omega,fun h0=>⟨by have:=(hB2.nil h0).1;show nP c.K=0;omega,(hB2.nil h0).2⟩,nofun,?_,?_⟩
  · show Byt8 ((B.2.1.2.2.1.drop 0).take (nP c.K));rw [E3];exact pb
  · show Byt8 (((paK c.K [7,9]).drop 0).take (nP c.K));rw [pt];exact pb)
 all_goals try (
  rename_i y hy v hv b0 s hs w1 A hA w2 B hB w3 e1 w4 e2
  change Os×Os at A
  change Os×Os×Oq at B
  have hA1:Ow [7,9] A.1:=hA.2.2.1
  have hB1:Ow (tnD c.K.D [6,9] (dcZ c.F c.K.t 2 c.K.D [6,9] (((paK c.K [7,9]).drop 0).take (nP c.K)))) B.1:=hB.2.2.2.1.1
  have hB2:Ow (tnP c.K.D (mkR c.K.D (((paK c.K [7,9]).drop 0).take (nP c.K))) (dcZ c.F c.K.t 2 c.K.D [6,9] (((paK c.K [7,9]).drop 0).take (nP c.K)))) B.2.1:=hB.2.2.2.1.2
  have hB3:Oqw (dcZ c.F c.K.t 2 c.K.D [6,9] (((paK c.K [7,9]).drop 0).take (nP c.K))) B.2.2:=hB.2.2.2.2
  have eZ:(dcZ c.F c.K.t 2 c.K.D [6,9] (((paK c.K [7,9]).drop 0).take (nP c.K))).length=1:=by rw [pt,x4];rfl
  rw [pt,x4,x5] at hB1
  rw [pt,x4,x6] at hB2
  rw [pt,x4] at hB3
  have E1:((A.1.2.2.1.drop 0).take 2)=[7,9]:=by rw [zq];exact hA1.eq
  have E2:((B.1.2.2.1.drop 0).take 2)=[7,9]:=by rw [zq];exact hB1.eq
  have E3:((B.2.1.2.2.1.drop 0).take (nP c.K))=paK c.K [7,9]:=by rw [zq,← pl];exact hB2.eq
  have E4:B.2.2.2.2.2.1.take (dcZ c.F c.K.t 2 c.K.D [6,9] (((paK c.K [7,9]).drop 0).take (nP c.K))).length=[10]:=by rw [eZ];exact hB3.eq
  have a1:2≤A.1.2.2.2:=hA1.cap
  have a2:=hA1.len
  have b1:2≤B.1.2.2.2:=hB1.cap
  have b2:=hB1.len
  have b3:(paK c.K [7,9]).length≤B.2.1.2.2.2:=hB2.cap
  have b4:=hB2.len
  have b5:1≤B.2.2.2.2.2.2:=hB3.cap
  have b6:=hB3.len
  have e2:(ieq ((B.1.2.2.1.drop 0).take 2) [7,9] && ieq ((B.2.1.2.2.1.drop 0).take (nP c.K)) (((paK c.K [7,9]).drop 0).take (nP c.K)))=false:=e2
  rw [E2,E3,pt,ieq_yes rfl,ieq_yes rfl] at e2
  cases e2)
 all_goals try (
  rename_i y hy v hv b0 s hs w1 A hA w2 B hB w3 e1 w4 e2 w5
  change Os×Os at A
  change Os×Os×Oq at B
  have hA1:Ow [7,9] A.1:=hA.2.2.1
  have hB1:Ow (tnD c.K.D [6,9] (dcZ c.F c.K.t 2 c.K.D [6,9] (((paK c.K [7,9]).drop 0).take (nP c.K)))) B.1:=hB.2.2.2.1.1
  have hB2:Ow (tnP c.K.D (mkR c.K.D (((paK c.K [7,9]).drop 0).take (nP c.K))) (dcZ c.F c.K.t 2 c.K.D [6,9] (((paK c.K [7,9]).drop 0).take (nP c.K)))) B.2.1:=hB.2.2.2.1.2
  have hB3:Oqw (dcZ c.F c.K.t 2 c.K.D [6,9] (((paK c.K [7,9]).drop 0).take (nP c.K))) B.2.2:=hB.2.2.2.2
  have eZ:(dcZ c.F c.K.t 2 c.K.D [6,9] (((paK c.K [7,9]).drop 0).take (nP c.K))).length=1:=by rw [pt,x4];rfl
  rw [pt,x4,x5] at hB1
  rw [pt,x4,x6] at hB2
  rw [pt,x4] at hB3
  have E1:((A.1.2.2.1.drop 0).take 2)=[7,9]:=by rw [zq];exact hA1.eq
  have E2:((B.1.2.2.1.drop 0).take 2)=[7,9]:=by rw [zq];exact hB1.eq
  have E3:((B.2.1.2.2.1.drop 0).take (nP c.K))=paK c.K [7,9]:=by rw [zq,← pl];exact hB2.eq
  have E4:B.2.2.2.2.2.1.take (dcZ c.F c.K.t 2 c.K.D [6,9] (((paK c.K [7,9]).drop 0).take (nP c.K))).length=[10]:=by rw [eZ];exact hB3.eq
  have a1:2≤A.1.2.2.2:=hA1.cap
  have a2:=hA1.len
  have b1:2≤B.1.2.2.2:=hB1.cap
  have b2:=hB1.len
  have b3:(paK c.K [7,9]).length≤B.2.1.2.2.2:=hB2.cap
  have b4:=hB2.len
  have b5:1≤B.2.2.2.2.2.2:=hB3.cap
  have b6:=hB3.len
  exact ⟨by show (dcZ c.F c.K.t 2 c.K.D [6,9] (((paK c.K [7,9]).drop 0).take (nP c.K))).length≤B.2.2.2.2.2.1.length;omega,by show 1≤1;decide,by show (dcZ c.F c.K.t 2 c.K.D [6,9] (((paK c.K [7,9]).drop 0).take (nP c.K))).length<140737488355000;omega,fun h0=>(by have h1:1=0:=(hB3.nil h0).1;omega),nofun⟩)
 all_goals try (
  rename_i y hy v hv b0 s hs w1 A hA w2 B hB w3 e1 w4 e2 w5 e3
  change Os×Os at A
  change Os×Os×Oq at B
  have hA1:Ow [7,9] A.1:=hA.2.2.1
  have hB1:Ow (tnD c.K.D [6,9] (dcZ c.F c.K.t 2 c.K.D [6,9] (((paK c.K [7,9]).drop 0).take (nP c.K)))) B.1:=hB.2.2.2.1.1
  have hB2:Ow (tnP c.K.D (mkR c.K.D (((paK c.K [7,9]).drop 0).take (nP c.K))) (dcZ c.F c.K.t 2 c.K.D [6,9] (((paK c.K [7,9]).drop 0).take (nP c.K)))) B.2.1:=hB.2.2.2.1.2
  have hB3:Oqw (dcZ c.F c.K.t 2 c.K.D [6,9] (((paK c.K [7,9]).drop 0).take (nP c.K))) B.2.2:=hB.2.2.2.2
  have eZ:(dcZ c.F c.K.t 2 c.K.D [6,9] (((paK c.K [7,9]).drop 0).take (nP c.K))).length=1:=by rw [pt,x4];rfl
  rw [pt,x4,x5] at hB1
  rw [pt,x4,x6] at hB2
  rw [pt,x4] at hB3
  have E1:((A.1.2.2.1.drop 0).take 2)=[7,9]:=by rw [zq];exact hA1.eq
  have E2:((B.1.2.2.1.drop 0).take 2)=[7,9]:=by rw [zq];exact hB1.eq
  have E3:((B.2.1.2.2.1.drop 0).take (nP c.K))=paK c.K [7,9]:=by rw [zq,← pl];exact hB2.eq
  have E4:B.2.2.2.2.2.1.take (dcZ c.F c.K.t 2 c.K.D [6,9] (((paK c.K [7,9]).drop 0).take (nP c.K))).length=[10]:=by rw [eZ];exact hB3.eq
  have a1:2≤A.1.2.2.2:=hA1.cap
  have a2:=hA1.len
  have b1:2≤B.1.2.2.2:=hB1.cap
  have b2:=hB1.len
  have b3:(paK c.K [7,9]).length≤B.2.1.2.2.2:=hB2.cap
  have b4:=hB2.len
  have b5:1≤B.2.2.2.2.2.2:=hB3.cap
  have b6:=hB3.len
  have e3:ieq (B.2.2.2.2.2.1.take (dcZ c.F c.K.t 2 c.K.D [6,9] (((paK c.K [7,9]).drop 0).take (nP c.K))).length) [10]=false:=e3
  rw [E4,ieq_yes rfl] at e3
  cases e3)
 all_goals (
  rename_i y hy v hv b0 s hs w1 A hA w2 B hB w3 e1 w4 e2 w5
  change Os×Os at A
  change Os×Os×Oq at B
  have hA1:Ow [7,9] A.1:=hA.2.2.1
  have hB1:Ow (tnD c.K.D [6,9] (dcZ c.F c.K.t 2 c.K.D [6,9] (((paK c.K [7,9]).drop 0).take (nP c.K)))) B.1:=hB.2.2.2.1.1
  have hB2:Ow (tnP c.K.D (mkR c.K.D (((paK c.K [7,9]).drop 0).take (nP c.K))) (dcZ c.F c.K.t 2 c.K.D [6,9] (((paK c.K [7,9]).drop 0).take (nP c.K)))) B.2.1:=hB.2.2.2.1.2
  have hB3:Oqw (dcZ c.F c.K.t 2 c.K.D [6,9] (((paK c.K [7,9]).drop 0).take (nP c.K))) B.2.2:=hB.2.2.2.2
  have eZ:(dcZ c.F c.K.t 2 c.K.D [6,9] (((paK c.K [7,9]).drop 0).take (nP c.K))).length=1:=by rw [pt,x4];rfl
  rw [pt,x4,x5] at hB1
  rw [pt,x4,x6] at hB2
  rw [pt,x4] at hB3
  have E1:((A.1.2.2.1.drop 0).take 2)=[7,9]:=by rw [zq];exact hA1.eq
  have E2:((B.1.2.2.1.drop 0).take 2)=[7,9]:=by rw [zq];exact hB1.eq
  have E3:((B.2.1.2.2.1.drop 0).take (nP c.K))=paK c.K [7,9]:=by rw [zq,← pl];exact hB2.eq
  have E4:B.2.2.2.2.2.1.take (dcZ c.F c.K.t 2 c.K.D [6,9] (((paK c.K [7,9]).drop 0).take (nP c.K))).length=[10]:=by rw [eZ];exact hB3.eq
  have a1:2≤A.1.2.2.2:=hA1.cap
  have a2:=hA1.len
  have b1:2≤B.1.2.2.2:=hB1.cap
  have b2:=hB1.len
  have b3:(paK c.K [7,9]).length≤B.2.1.2.2.2:=hB2.cap
  have b4:=hB2.len
  have b5:1≤B.2.2.2.2.2.2:=hB3.cap
  have b6:=hB3.len
  show ieq (B.2.2.2.2.2.1.take (dcZ c.F c.K.t 2 c.K.D [6,9] (((paK c.K [7,9]).drop 0).take (nP c.K))).length) [10]=true
  rw [E4];exact ieq_yes rfl)
end
end Go.Vx
namespace Go.Vx
open Go Go.Proofs
noncomputable section
variable [Gl]
def pcFirst:Pc Tryz.prog C0 where
 tg:=.fn 9
 X:=Unit
 args _:=[]
 mem _:=[]
 pre _:=True
 res _:=.bool .t
 mat vs m:=match vs with
  | []=>some ((),[])
  | _=>none
 ok _ _:=first_ok
def fcMade (c:Cd) (n':Nat) (m t n:Int) (h:Does (C:=C0) Tryz.prog (.fn 10) [] [.int .i64 m,.int .i64 t,.int .i64 n] [⟨MdY,MdOK c.K,mdR c.K n',mdL c.K n'⟩]):Fc Tryz.prog C0 where
 tg:=.fn 10
 X:=Unit
 args _:=[.int .i64 m,.int .i64 t,.int .i64 n]
 mem _:=[]
 pre _:=True
 alts _:=[⟨MdY,MdOK c.K,mdR c.K n',mdL c.K n'⟩]
 mat vs m:=match vs with
  | [_,_,_]=>some ((),[])
  | _=>none
 ok _ _:=h
def fcXclear2:Fc Tryz.prog C0:={ fcXclear with mat:=fun vs m=>match vs with
    | [.agg [.int _ x,.int _ t,.int _ n,.sl s _ L c,.int _ (D:Nat)],.nils]=>match nth m s with
      | ⟨b,q,_,_,g,.rows 5 l⟩=>some (((x,t,n),(onOf g,b,q,l,L,c),D,(false,0,0,[],0,0,0)),[s,m.length])
      | _=>none
    | _=>none }
def Sp9 (D:Nat) (B:List Int) (M:Nat):Inv' C0:=⟨9,Nat×Oq,fun x=>[(20,.int .i64 (x.1:Int)),(19,.sl 14 0 B.length x.2.2.2.2.2)],fun x m=>match m with
 | a0 :: a1 :: a2 :: a3 :: a4 :: a5 :: a6 :: a7 :: a8 :: a9 :: a10 :: a11 :: a12 :: a13 :: _=>[a0,a1,a2,a3,a4,a5,a6,a7,a8,a9,a10,a11,a12,a13,obC true x.2]
 | m=>m,fun x=>(D≤x.1∧(x.1≤8*B.length∨x.1=D))∧Oqw (spI D B M x.1) x.2,fun x=>8*B.length - x.1⟩
section
variable (c:Cd) (n':Nat) (hn:1≤n'∧n'≤12∧8*n'+c.K.D≤nF c.F) (m t n:Int) (hM:Does (C:=C0) Tryz.prog (.fn 10) [] [.int .i64 m,.int .i64 t,.int .i64 n] [⟨MdY,MdOK c.K,mdR c.K n',mdL c.K n'⟩])
 (o:Bool) (b q:Nat) (l:List Int) (nn cc:Nat) (h:nn≤l.length) (ho:o=false→nn=0∧cc=0) (o2:Bool) (b2 q2:Nat) (l2:List Int) (nn2 cc2:Nat) (h2:nn2≤l2.length) (ho2:o2=false→nn2=0∧cc2=0) (bl:Byt8 (l.take nn)) (bl2:Byt8 (l2.take nn2)) (M:Nat) (hM8:M<256)
include hn hM h ho h2 ho2 bl bl2 hM8
set_option maxHeartbeats 16000000 in
theorem spareC_ok (hC:clnB (dcS c.F c.K.t n' c.K.D (fitL n' (l.take nn)) (clL c.K.D (fitL (nP c.K) (l2.take nn2))))=true):
 Tells (C:=C0) Tryz.prog (.fn 3) [⟨b,q,1,false,some o,.rows 5 l⟩,⟨b2,q2,1,false,some o2,.rows 5 l2⟩] [.int .i64 m,.int .i64 t,.int .i64 n,.sl 0 0 nn cc,.sl 1 0 nn2 cc2,.int .u8 (M:Int)] (.bool .t):=by
 obtain ⟨g1,g2,g3,g4⟩:=cd_facts c
 obtain ⟨ns,n7,nh⟩:=nF_sz c.F
 have D1:=c.K.D1
 have hP:nP c.K=(c.K.D+7) / 8:=rfl
 have tA:((fitL n' (l.take nn)).drop 0).take n'=(fitL n' (l.take nn)):=by rw [zq,za (by rw [fitL_len];exact zx _)]
 have tB0:((fitL (nP c.K) (l2.take nn2)).drop 0).take (nP c.K)=(fitL (nP c.K) (l2.take nn2)):=by rw [zq,za (by rw [fitL_len];exact zx _)]
 have eA:(fitL n' (l.take nn)).length=n':=fitL_len
 have eB0:(fitL (nP c.K) (l2.take nn2)).length=nP c.K:=fitL_len
 have eB:(clL c.K.D (fitL (nP c.K) (l2.take nn2))).length=nP c.K:=by rw [clL_len,eB0]
 have yA:Byt8 (fitL n' (l.take nn)):=fitL_byt bl
 have yB0:Byt8 (fitL (nP c.K) (l2.take nn2)):=fitL_byt bl2
 have yB:Byt8 (clL c.K.D (fitL (nP c.K) (l2.take nn2))):=clL_byt
 have mB:mkR c.K.D (clL c.K.D (fitL (nP c.K) (l2.take nn2)))=(clL c.K.D (fitL (nP c.K) (l2.take nn2))):=mk_id yB eB fun k hk=>by rw [clL_bt,decide_eq_false (by omega),yu]
 have yS:∀ j,Byt8 (spI c.K.D (clL c.K.D (fitL (nP c.K) (l2.take nn2))) M j):=fun j=>spI_byt
 have mS:∀ j,mkR c.K.D (spI c.K.D (clL c.K.D (fitL (nP c.K) (l2.take nn2))) M j)=mkR c.K.D (clL c.K.D (fitL (nP c.K) (l2.take nn2))):=fun j=>by
  refine byt_ext (mkR_byt (yS j)) (mkR_byt yB) (by rw [mkR_len,mkR_len,spI_len]) fun k _ => ?_
  rw [mkR_bt (yS j) (by rw [spI_len];exact eB),mkR_bt yB eB]
  by_cases hk:k<c.K.D
  · rw [spI_bt hk]
  · rw [decide_eq_false hk,yu,yu]
 have dS:∀ j,dcS c.F c.K.t n' c.K.D (fitL n' (l.take nn)) (spI c.K.D (clL c.K.D (fitL (nP c.K) (l2.take nn2))) M j)=dcS c.F c.K.t n' c.K.D (fitL n' (l.take nn)) (clL c.K.D (fitL (nP c.K) (l2.take nn2))):=fun j=>dcS_congr (mS j)
 have dN:∀ j,dcN c.F c.K.t n' c.K.D (fitL n' (l.take nn)) (spI c.K.D (clL c.K.D (fitL (nP c.K) (l2.take nn2))) M j)=dcN c.F c.K.t n' c.K.D (fitL n' (l.take nn)) (clL c.K.D (fitL (nP c.K) (l2.take nn2))):=fun j=>by rw [dcN_eq,dcN_eq,dS]
 have dL:∀ j,dcL c.F c.K.t n' c.K.D (fitL n' (l.take nn)) (spI c.K.D (clL c.K.D (fitL (nP c.K) (l2.take nn2))) M j)=dcL c.F c.K.t n' c.K.D (fitL n' (l.take nn)) (clL c.K.D (fitL (nP c.K) (l2.take nn2))):=fun j=>by rw [dcL_eq,dcL_eq,dS]
 have dZ:∀ j,dcZ c.F c.K.t n' c.K.D (fitL n' (l.take nn)) (spI c.K.D (clL c.K.D (fitL (nP c.K) (l2.take nn2))) M j)=dcZ c.F c.K.t n' c.K.D (fitL n' (l.take nn)) (clL c.K.D (fitL (nP c.K) (l2.take nn2))):=fun j=>by rw [dcZ_eq,dcZ_eq,dL]
 refine loc_pc (P:=Tryz.prog) (E:=⟨[fcMade c n' m t n hM,fcFit,fcXclear,fcXclear2,fcRbytes,fcDecC c.F none],[pcFirst,pcXpar,pcSb,pcSb2,pcSameInts,pcSi2],131,[(6,[10],[.p 0,.p 1,.p 2,.q 3,.e 4,.e 5,.p 6]),(15,[10],[.p 0,.p 1,.p 2,.p 3,.p 4,.p 5,.p 6,.p 7,.q 8,.p 9,.p 10,.p 11,.p 12,.q 13,.p 14,.p 15,.p 16,.p 17,.q 18,.p 19,.p 20,.p 21,.p 23,.p 22,.e 24,.q 25,.p 26,.p 27])],[],[],none⟩) (L:=[Sp9 c.K.D (clL c.K.D (fitL (nP c.K) (l2.take nn2))) M]) mix Tryz.func3 rfl (by kernel_rfl) (by kernel_rfl) rfl rfl ?_
 ((conv=>arg 1;reduce);with_reducible repeat' first | exact ty | refine ta ?_ ?_ | refine ti fun _ => ?_ | refine tf fun _ => ?_ | refine tl ?_)
 all_goals try exact vlf
 · exact ⟨⟨by show 0+nn≤l.length;omega,ho⟩,by show n'<100000;omega⟩
 · show c.K.D<1000000;omega
 · exact ⟨⟨by show 0+nn2≤l2.length;omega,ho2⟩,by show (c.K.D+7) / 8<100000;omega⟩
 · refine ⟨by show c.K.D<1000000;omega,⟨by show 0+nP c.K≤(fitL (nP c.K) (l2.take nn2)).length;omega,by show nP c.K<1000000000;omega,nofun⟩,?_⟩
   show Byt8 (((fitL (nP c.K) (l2.take nn2)).drop 0).take (nP c.K));rw [tB0];exact yB0
 · rename_i y hy s0 fa hfa fp hfp bb hbb
   change Oq at bb
   have hbb:Oqw (clL c.K.D (((fitL (nP c.K) (l2.take nn2)).drop 0).take (nP c.K))) bb:=hbb
   rw [tB0] at hbb
   have hb1:(clL c.K.D (fitL (nP c.K) (l2.take nn2))).length≤bb.2.2.2.2:=hbb.cap
   have hb2:=hbb.len
   exact ⟨by show 0+(((fitL (nP c.K) (l2.take nn2)).drop 0).take (nP c.K)).length≤bb.2.2.2.1.length;rw [tB0];omega,by show (((fitL (nP c.K) (l2.take nn2)).drop 0).take (nP c.K)).length<1000000000;rw [tB0];omega,fun h0=>⟨by have:=(hbb.nil h0).1;show (((fitL (nP c.K) (l2.take nn2)).drop 0).take (nP c.K)).length=0;rw [tB0];omega,(hbb.nil h0).2⟩⟩
 · rename_i y hy s0 fa hfa fp hfp bb hbb cb hcb
   change MdY at y
   change Oq at bb
   change Oq at cb
   have hbb:Oqw (clL c.K.D (((fitL (nP c.K) (l2.take nn2)).drop 0).take (nP c.K))) bb:=hbb
   rw [tB0] at hbb
   have hb1:(clL c.K.D (fitL (nP c.K) (l2.take nn2))).length≤bb.2.2.2.2:=hbb.cap
   have hb2:=hbb.len
   have hcb:Oqw ((bb.2.2.2.1.drop 0).take (((fitL (nP c.K) (l2.take nn2)).drop 0).take (nP c.K)).length) cb:=hcb
   have eT:bb.2.2.2.1.take (nP c.K)=(clL c.K.D (fitL (nP c.K) (l2.take nn2))):=by have:=hbb.eq;rw [eB] at this;exact this
   rw [tB0,zq,eB0,eT] at hcb
   refine Stands.one ((c.K.D,cb):Nat×Oq) ⟨⟨⟨zx _,.inr rfl⟩,by show Oqw (spI c.K.D (clL c.K.D (fitL (nP c.K) (l2.take nn2))) M c.K.D) cb;rw [spI_start yB];exact hcb⟩,?_⟩
   have eL:((bb.2.2.2.1.drop 0).take (((fitL (nP c.K) (l2.take nn2)).drop 0).take (nP c.K)).length).length=(clL c.K.D (fitL (nP c.K) (l2.take nn2))).length:=by rw [tB0,zq,eB0,eT]
   ((conv=>arg 1;reduce);with_reducible repeat' first | exact ty | refine ta ?_ ?_ | refine ti fun _ => ?_ | refine tf fun _ => ?_ | refine tl ?_)
   all_goals first | exact vlf | exact eL | exact eL.symm
 all_goals have q8:∀ j:Nat,(j:Int).tdiv 8=((j / 8:Nat):Int):=fun j=>(ym j 8).symm
 all_goals have m8:∀ j:Nat,(j:Int).tmod 8=((j % 8:Nat):Int):=fun j=>(zb j 8).symm
 all_goals try (refine inR64 ?_ ?_ <;> omega)
 all_goals try (
  rename_i x hx d
  change Nat×Oq at x
  obtain ⟨j,z⟩:=x
  show 0≤IntKind.u64.wrap ((j:Int).tmod 8);rw [m8,wu (by omega)];omega)
 all_goals try (
  rename_i x hx d e
  change Nat×Oq at x
  obtain ⟨j,z⟩:=x
  obtain ⟨⟨k1,k2⟩,k3⟩:(c.K.D≤j∧(j≤8*(clL c.K.D (fitL (nP c.K) (l2.take nn2))).length∨j=c.K.D))∧Oqw (spI c.K.D (clL c.K.D (fitL (nP c.K) (l2.take nn2))) M j) z:=hx
  have lS:=spI_len (D:=c.K.D) (P:=(clL c.K.D (fitL (nP c.K) (l2.take nn2)))) (M:=M) (i:=j)
  have c1:=k3.cap
  have c2:=k3.len
  have d:(j:Int)<8*((clL c.K.D (fitL (nP c.K) (l2.take nn2))).length:Int):=ng d
  have hj8:j / 8<(clL c.K.D (fitL (nP c.K) (l2.take nn2))).length:=by omega
  have eM:ibit .and .u8 (ishr .u8 (M:Int) (IntKind.u64.wrap ((j:Int).tmod 8))) 1=(((M.testBit (j % 8)).toNat:Nat):Int):=by
   rw [m8,wu (by omega)];exact bitI (x:=(M:Int)) ⟨by omega,by omega⟩ (zc _ (by omega))
  have e:decide (ibit .and .u8 (ishr .u8 (M:Int) (IntKind.u64.wrap ((j:Int).tmod 8))) 1=1)=true:=e
  rw [eM] at e
  have hb:M.testBit (j % 8)=true:=by
   have e:=ng e
   cases h9:M.testBit (j % 8) with
   | true=>rfl
   | false=>rw [h9] at e;exact absurd e (by decide)
  first
  | (show inR .i64 ((j:Int).tdiv 8);rw [q8];exact inR64 (n:=((j / 8:Nat):Int)) (by omega) (by omega))
  | exact on_of k3.nil (by omega)
  | (show 0≤(j:Int).tdiv 8;rw [q8];omega)
  | (show (j:Int).tdiv 8<((clL c.K.D (fitL (nP c.K) (l2.take nn2))).length:Int);rw [q8];omega)
  | (show ((j:Int).tdiv 8).toNat+0<z.2.2.2.1.length;rw [q8];omega)
  | (show 0≤IntKind.u64.wrap ((j:Int).tmod 8);rw [m8,wu (by omega)];omega)
  | exact inR64 (n:=(j:Int)+1) (by omega) (by omega)
  | (have eN:((j:Int).tdiv 8).toNat+0=j / 8:=by rw [q8];omega
     have eS:ishl .u8 1 (IntKind.u64.wrap ((j:Int).tmod 8))=((2 ^ (j % 8):Nat):Int):=by rw [m8,wu (by omega)];exact shl1_8 (zc _ (by omega))
     have k4:=k3.put (i:=j / 8) (by omega) (ibit .or .u8 ((spI c.K.D (clL c.K.D (fitL (nP c.K) (l2.take nn2))) M j).getD (j / 8) 0) ((2 ^ (j % 8):Nat):Int))
     rw [spI_yes k1 hj8 hb] at k4
     have eG:z.2.2.2.1.getD (((j:Int).tdiv 8).toNat+0) 0=(spI c.K.D (clL c.K.D (fitL (nP c.K) (l2.take nn2))) M j).getD (j / 8) 0:=by rw [eN];exact k3.at (by omega)
     refine Stands.one ((j+1,(z.1,z.2.1,z.2.2.1,z.2.2.2.1.set (j / 8) (ibit .or .u8 ((spI c.K.D (clL c.K.D (fitL (nP c.K) (l2.take nn2))) M j).getD (j / 8) 0) ((2 ^ (j % 8):Nat):Int)),z.2.2.2.2)):Nat×Oq) ⟨⟨⟨by show c.K.D≤j+1;omega,.inl (by show j+1≤_;omega)⟩,k4⟩,by show _ - (j+1)<_ - j;omega,?_⟩
     ((conv=>arg 1;reduce);with_reducible repeat' first | exact ty | refine ta ?_ ?_ | refine ti fun _ => ?_ | refine tf fun _ => ?_ | refine tl ?_)
     all_goals first
      | exact vlf
      | (show z.2.2.2.1.set (j / 8) _=z.2.2.2.1.set (((j:Int).tdiv 8).toNat+0) (ibit .or .u8 (z.2.2.2.1.getD (((j:Int).tdiv 8).toNat+0) 0) (ishl .u8 1 (IntKind.u64.wrap ((j:Int).tmod 8))));rw [eG,eS,eN])
      | (show z.2.2.2.1.set (((j:Int).tdiv 8).toNat+0) (ibit .or .u8 (z.2.2.2.1.getD (((j:Int).tdiv 8).toNat+0) 0) (ishl .u8 1 (IntKind.u64.wrap ((j:Int).tmod 8))))=z.2.2.2.1.set (j / 8) _;rw [eG,eS,eN])))
 all_goals try (
  rename_i x hx d e
  change Nat×Oq at x
  obtain ⟨j,z⟩:=x
  obtain ⟨⟨k1,k2⟩,k3⟩:(c.K.D≤j∧(j≤8*(clL c.K.D (fitL (nP c.K) (l2.take nn2))).length∨j=c.K.D))∧Oqw (spI c.K.D (clL c.K.D (fitL (nP c.K) (l2.take nn2))) M j) z:=hx
  have lS:=spI_len (D:=c.K.D) (P:=(clL c.K.D (fitL (nP c.K) (l2.take nn2)))) (M:=M) (i:=j)
  have c1:=k3.cap
  have c2:=k3.len
  have d:(j:Int)<8*((clL c.K.D (fitL (nP c.K) (l2.take nn2))).length:Int):=ng d
  have eM:ibit .and .u8 (ishr .u8 (M:Int) (IntKind.u64.wrap ((j:Int).tmod 8))) 1=(((M.testBit (j % 8)).toNat:Nat):Int):=by
   rw [m8,wu (by omega)];exact bitI (x:=(M:Int)) ⟨by omega,by omega⟩ (zc _ (by omega))
  have e:decide (ibit .and .u8 (ishr .u8 (M:Int) (IntKind.u64.wrap ((j:Int).tmod 8))) 1=1)=false:=e
  rw [eM] at e
  have hb:M.testBit (j % 8)=false:=by
   have e:=nf e
   cases h9:M.testBit (j % 8) with
   | false=>rfl
   | true=>rw [h9] at e;exact absurd rfl e
  first
  | exact inR64 (n:=(j:Int)+1) (by omega) (by omega)
  | (refine Stands.one ((j+1,z):Nat×Oq) ⟨⟨⟨by show c.K.D≤j+1;omega,.inl (by show j+1≤_;omega)⟩,by show Oqw (spI c.K.D (clL c.K.D (fitL (nP c.K) (l2.take nn2))) M (j+1)) z;rw [spI_no hb];exact k3⟩,by show _ - (j+1)<_ - j;omega,?_⟩
     exact vgo))
 · rename_i y hy s0 fa hfa fp hfp bb hbb cb hcb x hx d
   change MdY at y
   change Oq at bb
   change Oq at cb
   have hbb:Oqw (clL c.K.D (((fitL (nP c.K) (l2.take nn2)).drop 0).take (nP c.K))) bb:=hbb
   rw [tB0] at hbb
   have hb1:(clL c.K.D (fitL (nP c.K) (l2.take nn2))).length≤bb.2.2.2.2:=hbb.cap
   have hb2:=hbb.len
   have hcb:Oqw ((bb.2.2.2.1.drop 0).take (((fitL (nP c.K) (l2.take nn2)).drop 0).take (nP c.K)).length) cb:=hcb
   have eT:bb.2.2.2.1.take (nP c.K)=(clL c.K.D (fitL (nP c.K) (l2.take nn2))):=by have:=hbb.eq;rw [eB] at this;exact this
   rw [tB0,zq,eB0,eT] at hcb
   have eR:((bb.2.2.2.1.drop 0).take (((fitL (nP c.K) (l2.take nn2)).drop 0).take (nP c.K)).length)=(clL c.K.D (fitL (nP c.K) (l2.take nn2))):=by rw [tB0,zq,eB0,eT]
   have eL:(((fitL (nP c.K) (l2.take nn2)).drop 0).take (nP c.K)).length=nP c.K:=by rw [tB0];exact eB0
   refine ⟨⟨⟨by show c.K.t≤40;omega,by show n'<100000;omega,by show c.K.D<100000;omega,rfl,hn.1,c.K.D1⟩,⟨⟨by show 0+n'≤(fitL n' (l.take nn)).length;omega,by show n'<1000000000;omega,nofun⟩,⟨by show 0+(((fitL (nP c.K) (l2.take nn2)).drop 0).take (nP c.K)).length≤bb.2.2.2.1.length;omega,by show (((fitL (nP c.K) (l2.take nn2)).drop 0).take (nP c.K)).length<1000000000;omega,fun h0=>⟨by have:=(hbb.nil h0).1;show (((fitL (nP c.K) (l2.take nn2)).drop 0).take (nP c.K)).length=0;omega,(hbb.nil h0).2⟩⟩⟩,by show Byt8 (((fitL n' (l.take nn)).drop 0).take n');rw [tA];exact yA,by show Byt8 ((bb.2.2.2.1.drop 0).take (((fitL (nP c.K) (l2.take nn2)).drop 0).take (nP c.K)).length);rw [eR];exact yB⟩,rfl,eL,by show clnB (dcS c.F c.K.t n' c.K.D (((fitL n' (l.take nn)).drop 0).take n') ((bb.2.2.2.1.drop 0).take (((fitL (nP c.K) (l2.take nn2)).drop 0).take (nP c.K)).length))=true;rw [tA,eR];exact hC⟩
 · rename_i y hy s0 fa hfa fp hfp bb hbb cb hcb x hx d u hu
   change Nat×Oq at x
   obtain ⟨j,z⟩:=x
   obtain ⟨⟨k1,k2⟩,k3⟩:(c.K.D≤j∧(j≤8*(clL c.K.D (fitL (nP c.K) (l2.take nn2))).length∨j=c.K.D))∧Oqw (spI c.K.D (clL c.K.D (fitL (nP c.K) (l2.take nn2))) M j) z:=hx
   have lS:=spI_len (D:=c.K.D) (P:=(clL c.K.D (fitL (nP c.K) (l2.take nn2)))) (M:=M) (i:=j)
   have c1:=k3.cap
   have c2:=k3.len
   have eR:((z.2.2.2.1.drop 0).take (clL c.K.D (fitL (nP c.K) (l2.take nn2))).length)=spI c.K.D (clL c.K.D (fitL (nP c.K) (l2.take nn2))) M j:=by rw [zq,← lS];exact k3.eq
   refine ⟨⟨⟨by show c.K.t≤40;omega,by show n'<100000;omega,by show c.K.D<100000;omega,rfl,hn.1,c.K.D1⟩,⟨⟨by show 0+n'≤(fitL n' (l.take nn)).length;omega,by show n'<1000000000;omega,nofun⟩,⟨by show 0+(clL c.K.D (fitL (nP c.K) (l2.take nn2))).length≤z.2.2.2.1.length;omega,by show (clL c.K.D (fitL (nP c.K) (l2.take nn2))).length<1000000000;omega,fun h0=>⟨by have:=(k3.nil h0).1;show (clL c.K.D (fitL (nP c.K) (l2.take nn2))).length=0;omega,(k3.nil h0).2⟩⟩⟩,by show Byt8 (((fitL n' (l.take nn)).drop 0).take n');rw [tA];exact yA,by show Byt8 ((z.2.2.2.1.drop 0).take (clL c.K.D (fitL (nP c.K) (l2.take nn2))).length);rw [eR];exact yS j⟩,rfl,eB,by show clnB (dcS c.F c.K.t n' c.K.D (((fitL n' (l.take nn)).drop 0).take n') ((z.2.2.2.1.drop 0).take (clL c.K.D (fitL (nP c.K) (l2.take nn2))).length))=true;rw [tA,eR,dS];exact hC⟩
 all_goals try (
  rename_i y hy s0 fa hfa fp hfp bb hbb cb hcb x hx d u hu w hw e
  change MdY at y
  change Oq at bb
  change Oq at cb
  have hbb:Oqw (clL c.K.D (((fitL (nP c.K) (l2.take nn2)).drop 0).take (nP c.K))) bb:=hbb
  rw [tB0] at hbb
  have hb1:(clL c.K.D (fitL (nP c.K) (l2.take nn2))).length≤bb.2.2.2.2:=hbb.cap
  have hb2:=hbb.len
  have hcb:Oqw ((bb.2.2.2.1.drop 0).take (((fitL (nP c.K) (l2.take nn2)).drop 0).take (nP c.K)).length) cb:=hcb
  have eT:bb.2.2.2.1.take (nP c.K)=(clL c.K.D (fitL (nP c.K) (l2.take nn2))):=by have:=hbb.eq;rw [eB] at this;exact this
  rw [tB0,zq,eB0,eT] at hcb
  change Nat×Oq at x
  obtain ⟨j,z⟩:=x
  obtain ⟨⟨k1,k2⟩,k3⟩:(c.K.D≤j∧(j≤8*(clL c.K.D (fitL (nP c.K) (l2.take nn2))).length∨j=c.K.D))∧Oqw (spI c.K.D (clL c.K.D (fitL (nP c.K) (l2.take nn2))) M j) z:=hx
  have lS:=spI_len (D:=c.K.D) (P:=(clL c.K.D (fitL (nP c.K) (l2.take nn2)))) (M:=M) (i:=j)
  have c1:=k3.cap
  have c2:=k3.len
  have eR1:((bb.2.2.2.1.drop 0).take (((fitL (nP c.K) (l2.take nn2)).drop 0).take (nP c.K)).length)=(clL c.K.D (fitL (nP c.K) (l2.take nn2))):=by rw [tB0,zq,eB0,eT]
  have eR2:((z.2.2.2.1.drop 0).take (clL c.K.D (fitL (nP c.K) (l2.take nn2))).length)=spI c.K.D (clL c.K.D (fitL (nP c.K) (l2.take nn2))) M j:=by rw [zq,← lS];exact k3.eq
  change Os×Os at u
  change Os×Os at w
  have u1:Ow (((fitL n' (l.take nn)).drop 0).take n') u.1:=hu.2.2.1
  have u2:Ow (mkR c.K.D ((bb.2.2.2.1.drop 0).take (((fitL (nP c.K) (l2.take nn2)).drop 0).take (nP c.K)).length)) u.2:=hu.2.2.2
  have w1:Ow (((fitL n' (l.take nn)).drop 0).take n') w.1:=hw.2.2.1
  have w2:Ow (mkR c.K.D ((z.2.2.2.1.drop 0).take (clL c.K.D (fitL (nP c.K) (l2.take nn2))).length)) w.2:=hw.2.2.2
  rw [tA] at u1 w1
  rw [eR1,mB] at u2
  rw [eR2,mS,mB] at w2
  obtain ⟨U,eU⟩:∃ U,U=(fitL n' (l.take nn)):=⟨_,rfl⟩
  obtain ⟨V,eV⟩:∃ V,V=(clL c.K.D (fitL (nP c.K) (l2.take nn2))):=⟨_,rfl⟩
  have lU:U.length=n':=by rw [eU];exact eA
  have lV:V.length=nP c.K:=by rw [eV];exact eB
  have yU:Byt8 U:=by rw [eU];exact yA
  have yV:Byt8 V:=by rw [eV];exact yB
  have zV:∀ k,c.K.D≤k→bt V k=false:=fun k hk=>by rw [eV,clL_bt,decide_eq_false (by omega),yu]
  rw [← eU] at u1 w1
  rw [← eV] at u2 w2
  have a1:=u1.cap
  have a2:=u1.len
  have a3:=u2.cap
  have a4:=u2.len
  have c3:=w1.cap
  have c4:=w1.len
  have c5:=w2.cap
  have c6:=w2.len
  have E1:((u.1.2.2.1.drop 0).take n')=U:=by rw [zq,← lU];exact u1.eq
  have E2:((w.1.2.2.1.drop 0).take n')=U:=by rw [zq,← lU];exact w1.eq
  have E3:((u.2.2.2.1.drop 0).take (nP c.K))=V:=by rw [zq,← lV];exact u2.eq
  have E4:((w.2.2.2.1.drop 0).take (nP c.K))=V:=by rw [zq,← lV];exact w2.eq
  first
  | exact ⟨by show 0+n'≤u.1.2.2.1.length;omega,by show 0+n'≤w.1.2.2.1.length;omega,fun h0=>⟨by have:=(u1.nil h0).1;show n'=0;omega,(u1.nil h0).2⟩,fun h0=>⟨by have:=(w1.nil h0).1;show n'=0;omega,(w1.nil h0).2⟩,by show Byt8 ((u.1.2.2.1.drop 0).take n');rw [E1];exact yU,by show Byt8 ((w.1.2.2.1.drop 0).take n');rw [E2];exact yU⟩
  | exact ⟨by show 0+nP c.K≤u.2.2.2.1.length;omega,by show 0+nP c.K≤w.2.2.2.1.length;omega,fun h0=>⟨by have:=(u2.nil h0).1;show nP c.K=0;omega,(u2.nil h0).2⟩,fun h0=>⟨by have:=(w2.nil h0).1;show nP c.K=0;omega,(w2.nil h0).2⟩,by show Byt8 ((u.2.2.2.1.drop 0).take (nP c.K));rw [E3];exact yV,by show Byt8 ((w.2.2.2.1.drop 0).take (nP c.K));rw [E4];exact yV⟩
  | exact ⟨by show c.K.D<1000000;omega,⟨by show 0+nP c.K≤u.2.2.2.1.length;omega,by show nP c.K<1000000000;omega,fun h0=>⟨by have:=(u2.nil h0).1;show nP c.K=0;omega,(u2.nil h0).2⟩⟩,by show Byt8 ((u.2.2.2.1.drop 0).take (nP c.K));rw [E3];exact yV⟩
  | exact ⟨zx _,zx _,by show 0<140737488355000;decide,fun _=>⟨rfl,rfl⟩,fun _=>⟨rfl,rfl⟩⟩
  | (have e:(true && ieq ((u.1.2.2.1.drop 0).take n') ((w.1.2.2.1.drop 0).take n') && ieq ((u.2.2.2.1.drop 0).take (nP c.K)) ((w.2.2.2.1.drop 0).take (nP c.K)) && ieq (([]:List Int).take 0) (([]:List Int).take 0))=false:=e
     rw [E1,E2,E3,E4,ieq_yes rfl,ieq_yes rfl,ieq_yes rfl] at e
     cases e))
 all_goals try (
  rename_i y hy s0 fa hfa fp hfp bb hbb cb hcb x hx d u hu w hw e v hv
  change MdY at y
  change Oq at bb
  change Oq at cb
  have hbb:Oqw (clL c.K.D (((fitL (nP c.K) (l2.take nn2)).drop 0).take (nP c.K))) bb:=hbb
  rw [tB0] at hbb
  have hb1:(clL c.K.D (fitL (nP c.K) (l2.take nn2))).length≤bb.2.2.2.2:=hbb.cap
  have hb2:=hbb.len
  have hcb:Oqw ((bb.2.2.2.1.drop 0).take (((fitL (nP c.K) (l2.take nn2)).drop 0).take (nP c.K)).length) cb:=hcb
  have eT:bb.2.2.2.1.take (nP c.K)=(clL c.K.D (fitL (nP c.K) (l2.take nn2))):=by have:=hbb.eq;rw [eB] at this;exact this
  rw [tB0,zq,eB0,eT] at hcb
  change Nat×Oq at x
  obtain ⟨j,z⟩:=x
  obtain ⟨⟨k1,k2⟩,k3⟩:(c.K.D≤j∧(j≤8*(clL c.K.D (fitL (nP c.K) (l2.take nn2))).length∨j=c.K.D))∧Oqw (spI c.K.D (clL c.K.D (fitL (nP c.K) (l2.take nn2))) M j) z:=hx
  have lS:=spI_len (D:=c.K.D) (P:=(clL c.K.D (fitL (nP c.K) (l2.take nn2)))) (M:=M) (i:=j)
  have c1:=k3.cap
  have c2:=k3.len
  have eR1:((bb.2.2.2.1.drop 0).take (((fitL (nP c.K) (l2.take nn2)).drop 0).take (nP c.K)).length)=(clL c.K.D (fitL (nP c.K) (l2.take nn2))):=by rw [tB0,zq,eB0,eT]
  have eR2:((z.2.2.2.1.drop 0).take (clL c.K.D (fitL (nP c.K) (l2.take nn2))).length)=spI c.K.D (clL c.K.D (fitL (nP c.K) (l2.take nn2))) M j:=by rw [zq,← lS];exact k3.eq
  change Os×Os at u
  change Os×Os at w
  have u1:Ow (((fitL n' (l.take nn)).drop 0).take n') u.1:=hu.2.2.1
  have u2:Ow (mkR c.K.D ((bb.2.2.2.1.drop 0).take (((fitL (nP c.K) (l2.take nn2)).drop 0).take (nP c.K)).length)) u.2:=hu.2.2.2
  have w1:Ow (((fitL n' (l.take nn)).drop 0).take n') w.1:=hw.2.2.1
  have w2:Ow (mkR c.K.D ((z.2.2.2.1.drop 0).take (clL c.K.D (fitL (nP c.K) (l2.take nn2))).length)) w.2:=hw.2.2.2
  rw [tA] at u1 w1
  rw [eR1,mB] at u2
  rw [eR2,mS,mB] at w2
  obtain ⟨U,eU⟩:∃ U,U=(fitL n' (l.take nn)):=⟨_,rfl⟩
  obtain ⟨V,eV⟩:∃ V,V=(clL c.K.D (fitL (nP c.K) (l2.take nn2))):=⟨_,rfl⟩
  have lU:U.length=n':=by rw [eU];exact eA
  have lV:V.length=nP c.K:=by rw [eV];exact eB
  have yU:Byt8 U:=by rw [eU];exact yA
  have yV:Byt8 V:=by rw [eV];exact yB
  have zV:∀ k,c.K.D≤k→bt V k=false:=fun k hk=>by rw [eV,clL_bt,decide_eq_false (by omega),yu]
  rw [← eU] at u1 w1
  rw [← eV] at u2 w2
  have a1:=u1.cap
  have a2:=u1.len
  have a3:=u2.cap
  have a4:=u2.len
  have c3:=w1.cap
  have c4:=w1.len
  have c5:=w2.cap
  have c6:=w2.len
  have E1:((u.1.2.2.1.drop 0).take n')=U:=by rw [zq,← lU];exact u1.eq
  have E2:((w.1.2.2.1.drop 0).take n')=U:=by rw [zq,← lU];exact w1.eq
  have E3:((u.2.2.2.1.drop 0).take (nP c.K))=V:=by rw [zq,← lV];exact u2.eq
  have E4:((w.2.2.2.1.drop 0).take (nP c.K))=V:=by rw [zq,← lV];exact w2.eq
  change Oq at v
  have hv:Oqw (clL c.K.D ((u.2.2.2.1.drop 0).take (nP c.K))) v:=hv
  rw [E3,clL_id yV zV] at hv
  have v1:=hv.cap
  have v2:=hv.len
  first
  | exact ⟨by show 0+nP c.K≤u.2.2.2.1.length;omega,by show 0+((u.2.2.2.1.drop 0).take (nP c.K)).length≤v.2.2.2.1.length;rw [E3];omega,fun h0=>⟨by have:=(u2.nil h0).1;show nP c.K=0;omega,(u2.nil h0).2⟩,fun h0=>⟨by show ((u.2.2.2.1.drop 0).take (nP c.K)).length=0;rw [E3];exact (hv.nil h0).1,(hv.nil h0).2⟩,by show Byt8 ((u.2.2.2.1.drop 0).take (nP c.K));rw [E3];exact yV,by show Byt8 ((v.2.2.2.1.drop 0).take ((u.2.2.2.1.drop 0).take (nP c.K)).length);rw [E3,zq,hv.eq];exact yV⟩
  | (show ieq ((u.2.2.2.1.drop 0).take (nP c.K)) ((v.2.2.2.1.drop 0).take ((u.2.2.2.1.drop 0).take (nP c.K)).length)=true
     rw [E3,zq,hv.eq];exact ieq_yes rfl))
end
end
end Go.Vx
namespace Go.Vx
open Go Go.Proofs
noncomputable section
variable [Gl]
section
variable (c:Cd) (n':Nat) (hn:1≤n'∧n'≤12∧8*n'+c.K.D≤nF c.F) (m t n:Int) (hM:Does (C:=C0) Tryz.prog (.fn 10) [] [.int .i64 m,.int .i64 t,.int .i64 n] [⟨MdY,MdOK c.K,mdR c.K n',mdL c.K n'⟩])
 (o:Bool) (b q:Nat) (l:List Int) (nn cc:Nat) (h:nn≤l.length) (ho:o=false→nn=0∧cc=0) (o2:Bool) (b2 q2:Nat) (l2:List Int) (nn2 cc2:Nat) (h2:nn2≤l2.length) (ho2:o2=false→nn2=0∧cc2=0) (bl:Byt8 (l.take nn)) (bl2:Byt8 (l2.take nn2)) (M:Nat) (hM8:M<256)
include hn hM h ho h2 ho2 bl bl2 hM8
set_option maxHeartbeats 16000000 in
theorem spareM_ok (hC:clnB (dcS c.F c.K.t n' c.K.D (fitL n' (l.take nn)) (clL c.K.D (fitL (nP c.K) (l2.take nn2))))=false) (hM1:¬ (c.K.t<dcN c.F c.K.t n' c.K.D (fitL n' (l.take nn)) (clL c.K.D (fitL (nP c.K) (l2.take nn2)))∨(dcL c.F c.K.t n' c.K.D (fitL n' (l.take nn)) (clL c.K.D (fitL (nP c.K) (l2.take nn2)))).length≠dcN c.F c.K.t n' c.K.D (fitL n' (l.take nn)) (clL c.K.D (fitL (nP c.K) (l2.take nn2)))+1)) (hM2:(dcZ c.F c.K.t n' c.K.D (fitL n' (l.take nn)) (clL c.K.D (fitL (nP c.K) (l2.take nn2)))).length=dcN c.F c.K.t n' c.K.D (fitL n' (l.take nn)) (clL c.K.D (fitL (nP c.K) (l2.take nn2)))):
 Tells (C:=C0) Tryz.prog (.fn 3) [⟨b,q,1,false,some o,.rows 5 l⟩,⟨b2,q2,1,false,some o2,.rows 5 l2⟩] [.int .i64 m,.int .i64 t,.int .i64 n,.sl 0 0 nn cc,.sl 1 0 nn2 cc2,.int .u8 (M:Int)] (.bool .t):=by
 obtain ⟨g1,g2,g3,g4⟩:=cd_facts c
 obtain ⟨ns,n7,nh⟩:=nF_sz c.F
 have D1:=c.K.D1
 have hP:nP c.K=(c.K.D+7) / 8:=rfl
 have tA:((fitL n' (l.take nn)).drop 0).take n'=(fitL n' (l.take nn)):=by rw [zq,za (by rw [fitL_len];exact zx _)]
 have tB0:((fitL (nP c.K) (l2.take nn2)).drop 0).take (nP c.K)=(fitL (nP c.K) (l2.take nn2)):=by rw [zq,za (by rw [fitL_len];exact zx _)]
 have eA:(fitL n' (l.take nn)).length=n':=fitL_len
 have eB0:(fitL (nP c.K) (l2.take nn2)).length=nP c.K:=fitL_len
 have eB:(clL c.K.D (fitL (nP c.K) (l2.take nn2))).length=nP c.K:=by rw [clL_len,eB0]
 have yA:Byt8 (fitL n' (l.take nn)):=fitL_byt bl
 have yB0:Byt8 (fitL (nP c.K) (l2.take nn2)):=fitL_byt bl2
 have yB:Byt8 (clL c.K.D (fitL (nP c.K) (l2.take nn2))):=clL_byt
 have mB:mkR c.K.D (clL c.K.D (fitL (nP c.K) (l2.take nn2)))=(clL c.K.D (fitL (nP c.K) (l2.take nn2))):=mk_id yB eB fun k hk=>by rw [clL_bt,decide_eq_false (by omega),yu]
 have yS:∀ j,Byt8 (spI c.K.D (clL c.K.D (fitL (nP c.K) (l2.take nn2))) M j):=fun j=>spI_byt
 have mS:∀ j,mkR c.K.D (spI c.K.D (clL c.K.D (fitL (nP c.K) (l2.take nn2))) M j)=mkR c.K.D (clL c.K.D (fitL (nP c.K) (l2.take nn2))):=fun j=>by
  refine byt_ext (mkR_byt (yS j)) (mkR_byt yB) (by rw [mkR_len,mkR_len,spI_len]) fun k _ => ?_
  rw [mkR_bt (yS j) (by rw [spI_len];exact eB),mkR_bt yB eB]
  by_cases hk:k<c.K.D
  · rw [spI_bt hk]
  · rw [decide_eq_false hk,yu,yu]
 have dS:∀ j,dcS c.F c.K.t n' c.K.D (fitL n' (l.take nn)) (spI c.K.D (clL c.K.D (fitL (nP c.K) (l2.take nn2))) M j)=dcS c.F c.K.t n' c.K.D (fitL n' (l.take nn)) (clL c.K.D (fitL (nP c.K) (l2.take nn2))):=fun j=>dcS_congr (mS j)
 have dN:∀ j,dcN c.F c.K.t n' c.K.D (fitL n' (l.take nn)) (spI c.K.D (clL c.K.D (fitL (nP c.K) (l2.take nn2))) M j)=dcN c.F c.K.t n' c.K.D (fitL n' (l.take nn)) (clL c.K.D (fitL (nP c.K) (l2.take nn2))):=fun j=>by rw [dcN_eq,dcN_eq,dS]
 have dL:∀ j,dcL c.F c.K.t n' c.K.D (fitL n' (l.take nn)) (spI c.K.D (clL c.K.D (fitL (nP c.K) (l2.take nn2))) M j)=dcL c.F c.K.t n' c.K.D (fitL n' (l.take nn)) (clL c.K.D (fitL (nP c.K) (l2.take nn2))):=fun j=>by rw [dcL_eq,dcL_eq,dS]
 have dZ:∀ j,dcZ c.F c.K.t n' c.K.D (fitL n' (l.take nn)) (spI c.K.D (clL c.K.D (fitL (nP c.K) (l2.take nn2))) M j)=dcZ c.F c.K.t n' c.K.D (fitL n' (l.take nn)) (clL c.K.D (fitL (nP c.K) (l2.take nn2))):=fun j=>by rw [dcZ_eq,dcZ_eq,dL]
 refine loc_pc (P:=Tryz.prog) (E:=⟨[fcMade c n' m t n hM,fcFit,fcXclear,fcXclear2,fcRbytes,fcDecM c.F none],[pcFirst,pcXpar,pcSb,pcSb2,pcSameInts,pcSi2],131,[(6,[10],[.p 0,.p 1,.p 2,.q 3,.e 4,.e 5,.p 6]),(15,[10],[.p 0,.p 1,.p 2,.p 3,.p 4,.p 5,.p 6,.p 7,.q 8,.p 9,.p 10,.p 11,.p 12,.q 13,.p 14,.p 15,.p 16,.p 17,.q 18,.p 19,.p 20,.p 21,.p 23,.p 22,.e 24,.q 25,.p 26,.p 27])],[],[],none⟩) (L:=[Sp9 c.K.D (clL c.K.D (fitL (nP c.K) (l2.take nn2))) M]) mix Tryz.func3 rfl (by kernel_rfl) (by kernel_rfl) rfl rfl ?_
 ((conv=>arg 1;reduce);with_reducible repeat' first | exact ty | refine ta ?_ ?_ | refine ti fun _ => ?_ | refine tf fun _ => ?_ | refine tl ?_)
 all_goals try exact vlf
 · exact ⟨⟨by show 0+nn≤l.length;omega,ho⟩,by show n'<100000;omega⟩
 · show c.K.D<1000000;omega
 · exact ⟨⟨by show 0+nn2≤l2.length;omega,ho2⟩,by show (c.K.D+7) / 8<100000;omega⟩
 · refine ⟨by show c.K.D<1000000;omega,⟨by show 0+nP c.K≤(fitL (nP c.K) (l2.take nn2)).length;omega,by show nP c.K<1000000000;omega,nofun⟩,?_⟩
   show Byt8 (((fitL (nP c.K) (l2.take nn2)).drop 0).take (nP c.K));rw [tB0];exact yB0
 · rename_i y hy s0 fa hfa fp hfp bb hbb
   change Oq at bb
   have hbb:Oqw (clL c.K.D (((fitL (nP c.K) (l2.take nn2)).drop 0).take (nP c.K))) bb:=hbb
   rw [tB0] at hbb
   have hb1:(clL c.K.D (fitL (nP c.K) (l2.take nn2))).length≤bb.2.2.2.2:=hbb.cap
   have hb2:=hbb.len
   exact ⟨by show 0+(((fitL (nP c.K) (l2.take nn2)).drop 0).take (nP c.K)).length≤bb.2.2.2.1.length;rw [tB0];omega,by show (((fitL (nP c.K) (l2.take nn2)).drop 0).take (nP c.K)).length<1000000000;rw [tB0];omega,fun h0=>⟨by have:=(hbb.nil h0).1;show (((fitL (nP c.K) (l2.take nn2)).drop 0).take (nP c.K)).length=0;rw [tB0];omega,(hbb.nil h0).2⟩⟩
 · rename_i y hy s0 fa hfa fp hfp bb hbb cb hcb
   change MdY at y
   change Oq at bb
   change Oq at cb
   have hbb:Oqw (clL c.K.D (((fitL (nP c.K) (l2.take nn2)).drop 0).take (nP c.K))) bb:=hbb
   rw [tB0] at hbb
   have hb1:(clL c.K.D (fitL (nP c.K) (l2.take nn2))).length≤bb.2.2.2.2:=hbb.cap
   have hb2:=hbb.len
   have hcb:Oqw ((bb.2.2.2.1.drop 0).take (((fitL (nP c.K) (l2.take nn2)).drop 0).take (nP c.K)).length) cb:=hcb
   have eT:bb.2.2.2.1.take (nP c.K)=(clL c.K.D (fitL (nP c.K) (l2.take nn2))):=by have:=hbb.eq;rw [eB] at this;exact this
   rw [tB0,zq,eB0,eT] at hcb
   refine Stands.one ((c.K.D,cb):Nat×Oq) ⟨⟨⟨zx _,.inr rfl⟩,by show Oqw (spI c.K.D (clL c.K.D (fitL (nP c.K) (l2.take nn2))) M c.K.D) cb;rw [spI_start yB];exact hcb⟩,?_⟩
   have eL:((bb.2.2.2.1.drop 0).take (((fitL (nP c.K) (l2.take nn2)).drop 0).take (nP c.K)).length).length=(clL c.K.D (fitL (nP c.K) (l2.take nn2))).length:=by rw [tB0,zq,eB0,eT]
   ((conv=>arg 1;reduce);with_reducible repeat' first | exact ty | refine ta ?_ ?_ | refine ti fun _ => ?_ | refine tf fun _ => ?_ | refine tl ?_)
   all_goals first | exact vlf | exact eL | exact eL.symm
 all_goals have q8:∀ j:Nat,(j:Int).tdiv 8=((j / 8:Nat):Int):=fun j=>(ym j 8).symm
 all_goals have m8:∀ j:Nat,(j:Int).tmod 8=((j % 8:Nat):Int):=fun j=>(zb j 8).symm
 all_goals try (refine inR64 ?_ ?_ <;> omega)
 all_goals try (
  rename_i x hx d
  change Nat×Oq at x
  obtain ⟨j,z⟩:=x
  show 0≤IntKind.u64.wrap ((j:Int).tmod 8);rw [m8,wu (by omega)];omega)
 all_goals try (
  rename_i x hx d e
  change Nat×Oq at x
  obtain ⟨j,z⟩:=x
  obtain ⟨⟨k1,k2⟩,k3⟩:(c.K.D≤j∧(j≤8*(clL c.K.D (fitL (nP c.K) (l2.take nn2))).length∨j=c.K.D))∧Oqw (spI c.K.D (clL c.K.D (fitL (nP c.K) (l2.take nn2))) M j) z:=hx
  have lS:=spI_len (D:=c.K.D) (P:=(clL c.K.D (fitL (nP c.K) (l2.take nn2)))) (M:=M) (i:=j)
  have c1:=k3.cap
  have c2:=k3.len
  have d:(j:Int)<8*((clL c.K.D (fitL (nP c.K) (l2.take nn2))).length:Int):=ng d
  have hj8:j / 8<(clL c.K.D (fitL (nP c.K) (l2.take nn2))).length:=by omega
  have eM:ibit .and .u8 (ishr .u8 (M:Int) (IntKind.u64.wrap ((j:Int).tmod 8))) 1=(((M.testBit (j % 8)).toNat:Nat):Int):=by
   rw [m8,wu (by omega)];exact bitI (x:=(M:Int)) ⟨by omega,by omega⟩ (zc _ (by omega))
  have e:decide (ibit .and .u8 (ishr .u8 (M:Int) (IntKind.u64.wrap ((j:Int).tmod 8))) 1=1)=true:=e
  rw [eM] at e
  have hb:M.testBit (j % 8)=true:=by
   have e:=ng e
   cases h9:M.testBit (j % 8) with
   | true=>rfl
   | false=>rw [h9] at e;exact absurd e (by decide)
  first
  | (show inR .i64 ((j:Int).tdiv 8);rw [q8];exact inR64 (n:=((j / 8:Nat):Int)) (by omega) (by omega))
  | exact on_of k3.nil (by omega)
  | (show 0≤(j:Int).tdiv 8;rw [q8];omega)
  | (show (j:Int).tdiv 8<((clL c.K.D (fitL (nP c.K) (l2.take nn2))).length:Int);rw [q8];omega)
  | (show ((j:Int).tdiv 8).toNat+0<z.2.2.2.1.length;rw [q8];omega)
  | (show 0≤IntKind.u64.wrap ((j:Int).tmod 8);rw [m8,wu (by omega)];omega)
  | exact inR64 (n:=(j:Int)+1) (by omega) (by omega)
  | (have eN:((j:Int).tdiv 8).toNat+0=j / 8:=by rw [q8];omega
     have eS:ishl .u8 1 (IntKind.u64.wrap ((j:Int).tmod 8))=((2 ^ (j % 8):Nat):Int):=by rw [m8,wu (by omega)];exact shl1_8 (zc _ (by omega))
     have k4:=k3.put (i:=j / 8) (by omega) (ibit .or .u8 ((spI c.K.D (clL c.K.D (fitL (nP c.K) (l2.take nn2))) M j).getD (j / 8) 0) ((2 ^ (j % 8):Nat):Int))
     rw [spI_yes k1 hj8 hb] at k4
     have eG:z.2.2.2.1.getD (((j:Int).tdiv 8).toNat+0) 0=(spI c.K.D (clL c.K.D (fitL (nP c.K) (l2.take nn2))) M j).getD (j / 8) 0:=by rw [eN];exact k3.at (by omega)
     refine Stands.one ((j+1,(z.1,z.2.1,z.2.2.1,z.2.2.2.1.set (j / 8) (ibit .or .u8 ((spI c.K.D (clL c.K.D (fitL (nP c.K) (l2.take nn2))) M j).getD (j / 8) 0) ((2 ^ (j % 8):Nat):Int)),z.2.2.2.2)):Nat×Oq) ⟨⟨⟨by show c.K.D≤j+1;omega,.inl (by show j+1≤_;omega)⟩,k4⟩,by show _ - (j+1)<_ - j;omega,?_⟩
     ((conv=>arg 1;reduce);with_reducible repeat' first | exact ty | refine ta ?_ ?_ | refine ti fun _ => ?_ | refine tf fun _ => ?_ | refine tl ?_)
     all_goals first
      | exact vlf
      | (show z.2.2.2.1.set (j / 8) _=z.2.2.2.1.set (((j:Int).tdiv 8).toNat+0) (ibit .or .u8 (z.2.2.2.1.getD (((j:Int).tdiv 8).toNat+0) 0) (ishl .u8 1 (IntKind.u64.wrap ((j:Int).tmod 8))));rw [eG,eS,eN])
      | (show z.2.2.2.1.set (((j:Int).tdiv 8).toNat+0) (ibit .or .u8 (z.2.2.2.1.getD (((j:Int).tdiv 8).toNat+0) 0) (ishl .u8 1 (IntKind.u64.wrap ((j:Int).tmod 8))))=z.2.2.2.1.set (j / 8) _;rw [eG,eS,eN])))
 all_goals try (
  rename_i x hx d e
  change Nat×Oq at x
  obtain ⟨j,z⟩:=x
  obtain ⟨⟨k1,k2⟩,k3⟩:(c.K.D≤j∧(j≤8*(clL c.K.D (fitL (nP c.K) (l2.take nn2))).length∨j=c.K.D))∧Oqw (spI c.K.D (clL c.K.D (fitL (nP c.K) (l2.take nn2))) M j) z:=hx
  have lS:=spI_len (D:=c.K.D) (P:=(clL c.K.D (fitL (nP c.K) (l2.take nn2)))) (M:=M) (i:=j)
  have c1:=k3.cap
  have c2:=k3.len
  have d:(j:Int)<8*((clL c.K.D (fitL (nP c.K) (l2.take nn2))).length:Int):=ng d
  have eM:ibit .and .u8 (ishr .u8 (M:Int) (IntKind.u64.wrap ((j:Int).tmod 8))) 1=(((M.testBit (j % 8)).toNat:Nat):Int):=by
   rw [m8,wu (by omega)];exact bitI (x:=(M:Int)) ⟨by omega,by omega⟩ (zc _ (by omega))
  have e:decide (ibit .and .u8 (ishr .u8 (M:Int) (IntKind.u64.wrap ((j:Int).tmod 8))) 1=1)=false:=e
  rw [eM] at e
  have hb:M.testBit (j % 8)=false:=by
   have e:=nf e
   cases h9:M.testBit (j % 8) with
   | false=>rfl
   | true=>rw [h9] at e;exact absurd rfl e
  first
  | exact inR64 (n:=(j:Int)+1) (by omega) (by omega)
  | (refine Stands.one ((j+1,z):Nat×Oq) ⟨⟨⟨by show c.K.D≤j+1;omega,.inl (by show j+1≤_;omega)⟩,by show Oqw (spI c.K.D (clL c.K.D (fitL (nP c.K) (l2.take nn2))) M (j+1)) z;rw [spI_no hb];exact k3⟩,by show _ - (j+1)<_ - j;omega,?_⟩
     exact vgo))
 · rename_i y hy s0 fa hfa fp hfp bb hbb cb hcb x hx d
   change MdY at y
   change Oq at bb
   change Oq at cb
   have hbb:Oqw (clL c.K.D (((fitL (nP c.K) (l2.take nn2)).drop 0).take (nP c.K))) bb:=hbb
   rw [tB0] at hbb
   have hb1:(clL c.K.D (fitL (nP c.K) (l2.take nn2))).length≤bb.2.2.2.2:=hbb.cap
   have hb2:=hbb.len
   have hcb:Oqw ((bb.2.2.2.1.drop 0).take (((fitL (nP c.K) (l2.take nn2)).drop 0).take (nP c.K)).length) cb:=hcb
   have eT:bb.2.2.2.1.take (nP c.K)=(clL c.K.D (fitL (nP c.K) (l2.take nn2))):=by have:=hbb.eq;rw [eB] at this;exact this
   rw [tB0,zq,eB0,eT] at hcb
   have eR:((bb.2.2.2.1.drop 0).take (((fitL (nP c.K) (l2.take nn2)).drop 0).take (nP c.K)).length)=(clL c.K.D (fitL (nP c.K) (l2.take nn2))):=by rw [tB0,zq,eB0,eT]
   have eL:(((fitL (nP c.K) (l2.take nn2)).drop 0).take (nP c.K)).length=nP c.K:=by rw [tB0];exact eB0
   refine ⟨⟨⟨by show c.K.t≤40;omega,by show n'<100000;omega,by show c.K.D<100000;omega,rfl,hn.1,c.K.D1⟩,⟨⟨by show 0+n'≤(fitL n' (l.take nn)).length;omega,by show n'<1000000000;omega,nofun⟩,⟨by show 0+(((fitL (nP c.K) (l2.take nn2)).drop 0).take (nP c.K)).length≤bb.2.2.2.1.length;omega,by show (((fitL (nP c.K) (l2.take nn2)).drop 0).take (nP c.K)).length<1000000000;omega,fun h0=>⟨by have:=(hbb.nil h0).1;show (((fitL (nP c.K) (l2.take nn2)).drop 0).take (nP c.K)).length=0;omega,(hbb.nil h0).2⟩⟩⟩,by show Byt8 (((fitL n' (l.take nn)).drop 0).take n');rw [tA];exact yA,by show Byt8 ((bb.2.2.2.1.drop 0).take (((fitL (nP c.K) (l2.take nn2)).drop 0).take (nP c.K)).length);rw [eR];exact yB⟩,rfl,eL,by show clnB (dcS c.F c.K.t n' c.K.D (((fitL n' (l.take nn)).drop 0).take n') ((bb.2.2.2.1.drop 0).take (((fitL (nP c.K) (l2.take nn2)).drop 0).take (nP c.K)).length))=false;rw [tA,eR];exact hC,by show ¬ (c.K.t<dcN c.F c.K.t n' c.K.D (((fitL n' (l.take nn)).drop 0).take n') ((bb.2.2.2.1.drop 0).take (((fitL (nP c.K) (l2.take nn2)).drop 0).take (nP c.K)).length)∨(dcL c.F c.K.t n' c.K.D (((fitL n' (l.take nn)).drop 0).take n') ((bb.2.2.2.1.drop 0).take (((fitL (nP c.K) (l2.take nn2)).drop 0).take (nP c.K)).length)).length≠dcN c.F c.K.t n' c.K.D (((fitL n' (l.take nn)).drop 0).take n') ((bb.2.2.2.1.drop 0).take (((fitL (nP c.K) (l2.take nn2)).drop 0).take (nP c.K)).length)+1);rw [tA,eR];exact hM1,by show (dcZ c.F c.K.t n' c.K.D (((fitL n' (l.take nn)).drop 0).take n') ((bb.2.2.2.1.drop 0).take (((fitL (nP c.K) (l2.take nn2)).drop 0).take (nP c.K)).length)).length=dcN c.F c.K.t n' c.K.D (((fitL n' (l.take nn)).drop 0).take n') ((bb.2.2.2.1.drop 0).take (((fitL (nP c.K) (l2.take nn2)).drop 0).take (nP c.K)).length);rw [tA,eR];exact hM2⟩
 · rename_i y hy s0 fa hfa fp hfp bb hbb cb hcb x hx d u hu
   change Nat×Oq at x
   obtain ⟨j,z⟩:=x
   obtain ⟨⟨k1,k2⟩,k3⟩:(c.K.D≤j∧(j≤8*(clL c.K.D (fitL (nP c.K) (l2.take nn2))).length∨j=c.K.D))∧Oqw (spI c.K.D (clL c.K.D (fitL (nP c.K) (l2.take nn2))) M j) z:=hx
   have lS:=spI_len (D:=c.K.D) (P:=(clL c.K.D (fitL (nP c.K) (l2.take nn2)))) (M:=M) (i:=j)
   have c1:=k3.cap
   have c2:=k3.len
   have eR:((z.2.2.2.1.drop 0).take (clL c.K.D (fitL (nP c.K) (l2.take nn2))).length)=spI c.K.D (clL c.K.D (fitL (nP c.K) (l2.take nn2))) M j:=by rw [zq,← lS];exact k3.eq
   refine ⟨⟨⟨by show c.K.t≤40;omega,by show n'<100000;omega,by show c.K.D<100000;omega,rfl,hn.1,c.K.D1⟩,⟨⟨by show 0+n'≤(fitL n' (l.take nn)).length;omega,by show n'<1000000000;omega,nofun⟩,⟨by show 0+(clL c.K.D (fitL (nP c.K) (l2.take nn2))).length≤z.2.2.2.1.length;omega,by show (clL c.K.D (fitL (nP c.K) (l2.take nn2))).length<1000000000;omega,fun h0=>⟨by have:=(k3.nil h0).1;show (clL c.K.D (fitL (nP c.K) (l2.take nn2))).length=0;omega,(k3.nil h0).2⟩⟩⟩,by show Byt8 (((fitL n' (l.take nn)).drop 0).take n');rw [tA];exact yA,by show Byt8 ((z.2.2.2.1.drop 0).take (clL c.K.D (fitL (nP c.K) (l2.take nn2))).length);rw [eR];exact yS j⟩,rfl,eB,by show clnB (dcS c.F c.K.t n' c.K.D (((fitL n' (l.take nn)).drop 0).take n') ((z.2.2.2.1.drop 0).take (clL c.K.D (fitL (nP c.K) (l2.take nn2))).length))=false;rw [tA,eR,dS];exact hC,by show ¬ (c.K.t<dcN c.F c.K.t n' c.K.D (((fitL n' (l.take nn)).drop 0).take n') ((z.2.2.2.1.drop 0).take (clL c.K.D (fitL (nP c.K) (l2.take nn2))).length)∨(dcL c.F c.K.t n' c.K.D (((fitL n' (l.take nn)).drop 0).take n') ((z.2.2.2.1.drop 0).take (clL c.K.D (fitL (nP c.K) (l2.take nn2))).length)).length≠dcN c.F c.K.t n' c.K.D (((fitL n' (l.take nn)).drop 0).take n') ((z.2.2.2.1.drop 0).take (clL c.K.D (fitL (nP c.K) (l2.take nn2))).length)+1);rw [tA,eR,dN,dL];exact hM1,by show (dcZ c.F c.K.t n' c.K.D (((fitL n' (l.take nn)).drop 0).take n') ((z.2.2.2.1.drop 0).take (clL c.K.D (fitL (nP c.K) (l2.take nn2))).length)).length=dcN c.F c.K.t n' c.K.D (((fitL n' (l.take nn)).drop 0).take n') ((z.2.2.2.1.drop 0).take (clL c.K.D (fitL (nP c.K) (l2.take nn2))).length);rw [tA,eR,dZ,dN];exact hM2⟩
 all_goals try (
  rename_i y hy s0 fa hfa fp hfp bb hbb cb hcb x hx d u hu w hw e
  change MdY at y
  change Oq at bb
  change Oq at cb
  have hbb:Oqw (clL c.K.D (((fitL (nP c.K) (l2.take nn2)).drop 0).take (nP c.K))) bb:=hbb
  rw [tB0] at hbb
  have hb1:(clL c.K.D (fitL (nP c.K) (l2.take nn2))).length≤bb.2.2.2.2:=hbb.cap
  have hb2:=hbb.len
  have hcb:Oqw ((bb.2.2.2.1.drop 0).take (((fitL (nP c.K) (l2.take nn2)).drop 0).take (nP c.K)).length) cb:=hcb
  have eT:bb.2.2.2.1.take (nP c.K)=(clL c.K.D (fitL (nP c.K) (l2.take nn2))):=by have:=hbb.eq;rw [eB] at this;exact this
  rw [tB0,zq,eB0,eT] at hcb
  change Nat×Oq at x
  obtain ⟨j,z⟩:=x
  obtain ⟨⟨k1,k2⟩,k3⟩:(c.K.D≤j∧(j≤8*(clL c.K.D (fitL (nP c.K) (l2.take nn2))).length∨j=c.K.D))∧Oqw (spI c.K.D (clL c.K.D (fitL (nP c.K) (l2.take nn2))) M j) z:=hx
  have lS:=spI_len (D:=c.K.D) (P:=(clL c.K.D (fitL (nP c.K) (l2.take nn2)))) (M:=M) (i:=j)
  have c1:=k3.cap
  have c2:=k3.len
  have eR1:((bb.2.2.2.1.drop 0).take (((fitL (nP c.K) (l2.take nn2)).drop 0).take (nP c.K)).length)=(clL c.K.D (fitL (nP c.K) (l2.take nn2))):=by rw [tB0,zq,eB0,eT]
  have eR2:((z.2.2.2.1.drop 0).take (clL c.K.D (fitL (nP c.K) (l2.take nn2))).length)=spI c.K.D (clL c.K.D (fitL (nP c.K) (l2.take nn2))) M j:=by rw [zq,← lS];exact k3.eq
  change Os×Os×Oq at u
  change Os×Os×Oq at w
  have u1:Ow (tnD c.K.D (((fitL n' (l.take nn)).drop 0).take n') (dcZ c.F c.K.t n' c.K.D (((fitL n' (l.take nn)).drop 0).take n') ((bb.2.2.2.1.drop 0).take (((fitL (nP c.K) (l2.take nn2)).drop 0).take (nP c.K)).length))) u.1:=hu.2.2.2.1.1
  have u2:Ow (tnP c.K.D (mkR c.K.D ((bb.2.2.2.1.drop 0).take (((fitL (nP c.K) (l2.take nn2)).drop 0).take (nP c.K)).length)) (dcZ c.F c.K.t n' c.K.D (((fitL n' (l.take nn)).drop 0).take n') ((bb.2.2.2.1.drop 0).take (((fitL (nP c.K) (l2.take nn2)).drop 0).take (nP c.K)).length))) u.2.1:=hu.2.2.2.1.2
  have u3:Oqw (dcZ c.F c.K.t n' c.K.D (((fitL n' (l.take nn)).drop 0).take n') ((bb.2.2.2.1.drop 0).take (((fitL (nP c.K) (l2.take nn2)).drop 0).take (nP c.K)).length)) u.2.2:=hu.2.2.2.2
  have w1:Ow (tnD c.K.D (((fitL n' (l.take nn)).drop 0).take n') (dcZ c.F c.K.t n' c.K.D (((fitL n' (l.take nn)).drop 0).take n') ((z.2.2.2.1.drop 0).take (clL c.K.D (fitL (nP c.K) (l2.take nn2))).length))) w.1:=hw.2.2.2.1.1
  have w2:Ow (tnP c.K.D (mkR c.K.D ((z.2.2.2.1.drop 0).take (clL c.K.D (fitL (nP c.K) (l2.take nn2))).length)) (dcZ c.F c.K.t n' c.K.D (((fitL n' (l.take nn)).drop 0).take n') ((z.2.2.2.1.drop 0).take (clL c.K.D (fitL (nP c.K) (l2.take nn2))).length))) w.2.1:=hw.2.2.2.1.2
  have w3:Oqw (dcZ c.F c.K.t n' c.K.D (((fitL n' (l.take nn)).drop 0).take n') ((z.2.2.2.1.drop 0).take (clL c.K.D (fitL (nP c.K) (l2.take nn2))).length)) w.2.2:=hw.2.2.2.2
  have z1:dcZ c.F c.K.t n' c.K.D (((fitL n' (l.take nn)).drop 0).take n') ((bb.2.2.2.1.drop 0).take (((fitL (nP c.K) (l2.take nn2)).drop 0).take (nP c.K)).length)=dcZ c.F c.K.t n' c.K.D (fitL n' (l.take nn)) (clL c.K.D (fitL (nP c.K) (l2.take nn2))):=by rw [tA,eR1]
  have z2:dcZ c.F c.K.t n' c.K.D (((fitL n' (l.take nn)).drop 0).take n') ((z.2.2.2.1.drop 0).take (clL c.K.D (fitL (nP c.K) (l2.take nn2))).length)=dcZ c.F c.K.t n' c.K.D (fitL n' (l.take nn)) (clL c.K.D (fitL (nP c.K) (l2.take nn2))):=by rw [tA,eR2,dZ]
  rw [z1,tA] at u1
  rw [z1,eR1,mB] at u2
  rw [z1] at u3
  rw [z2,tA] at w1
  rw [z2,eR2,mS,mB] at w2
  rw [z2] at w3
  have hnN:8*n'+c.K.D≤c.F.N:=by rw [← nF_eq];exact hn.2.2
  obtain ⟨dz1,dz2⟩:=dcZ_nodup (F:=c.F) (t:=c.K.t) (d:=n') (g:=c.K.D) (D:=(fitL n' (l.take nn))) (R:=(clL c.K.D (fitL (nP c.K) (l2.take nn2)))) hnN
  obtain ⟨tb1,tb2,tb3,tb4⟩:=tn_bits (g:=c.K.D) (d:=n') (dcZ c.F c.K.t n' c.K.D (fitL n' (l.take nn)) (clL c.K.D (fitL (nP c.K) (l2.take nn2)))) (fitL n' (l.take nn)) (clL c.K.D (fitL (nP c.K) (l2.take nn2))) yA yB eA (by omega) dz1 dz2
  have zl:=dcZ_len (F:=c.F) (t:=c.K.t) (d:=n') (g:=c.K.D) (D:=(fitL n' (l.take nn))) (R:=(clL c.K.D (fitL (nP c.K) (l2.take nn2))))
  obtain ⟨U,eU⟩:∃ U,U=tnD c.K.D (fitL n' (l.take nn)) (dcZ c.F c.K.t n' c.K.D (fitL n' (l.take nn)) (clL c.K.D (fitL (nP c.K) (l2.take nn2)))):=⟨_,rfl⟩
  obtain ⟨V,eV⟩:∃ V,V=tnP c.K.D (clL c.K.D (fitL (nP c.K) (l2.take nn2))) (dcZ c.F c.K.t n' c.K.D (fitL n' (l.take nn)) (clL c.K.D (fitL (nP c.K) (l2.take nn2)))):=⟨_,rfl⟩
  have lU:U.length=n':=by rw [eU,tnD_len];exact eA
  have lV:V.length=nP c.K:=by rw [eV,tnP_len];exact eB
  have yU:Byt8 U:=by rw [eU];exact tb2
  have yV:Byt8 V:=by rw [eV];exact tb3
  have zV:∀ k,c.K.D≤k→bt V k=false:=fun k hk=>by rw [eV,tb4 k hk,clL_bt,decide_eq_false (by omega),yu]
  rw [← eU] at u1 w1
  rw [← eV] at u2 w2
  have i1:=u3.cap
  have i2:=u3.len
  have i3:=w3.cap
  have i4:=w3.len
  have a1:=u1.cap
  have a2:=u1.len
  have a3:=u2.cap
  have a4:=u2.len
  have c3:=w1.cap
  have c4:=w1.len
  have c5:=w2.cap
  have c6:=w2.len
  have E1:((u.1.2.2.1.drop 0).take n')=U:=by rw [zq,← lU];exact u1.eq
  have E2:((w.1.2.2.1.drop 0).take n')=U:=by rw [zq,← lU];exact w1.eq
  have E3:((u.2.1.2.2.1.drop 0).take (nP c.K))=V:=by rw [zq,← lV];exact u2.eq
  have E4:((w.2.1.2.2.1.drop 0).take (nP c.K))=V:=by rw [zq,← lV];exact w2.eq
  first
  | exact ⟨by show 0+n'≤u.1.2.2.1.length;omega,by show 0+n'≤w.1.2.2.1.length;omega,fun h0=>⟨by have:=(u1.nil h0).1;show n'=0;omega,(u1.nil h0).2⟩,fun h0=>⟨by have:=(w1.nil h0).1;show n'=0;omega,(w1.nil h0).2⟩,by show Byt8 ((u.1.2.2.1.drop 0).take n');rw [E1];exact yU,by show Byt8 ((w.1.2.2.1.drop 0).take n');rw [E2];exact yU⟩
  | exact ⟨by show 0+nP c.K≤u.2.1.2.2.1.length;omega,by show 0+nP c.K≤w.2.1.2.2.1.length;omega,fun h0=>⟨by have:=(u2.nil h0).1;show nP c.K=0;omega,(u2.nil h0).2⟩,fun h0=>⟨by have:=(w2.nil h0).1;show nP c.K=0;omega,(w2.nil h0).2⟩,by show Byt8 ((u.2.1.2.2.1.drop 0).take (nP c.K));rw [E3];exact yV,by show Byt8 ((w.2.1.2.2.1.drop 0).take (nP c.K));rw [E4];exact yV⟩
  | exact ⟨by show c.K.D<1000000;omega,⟨by show 0+nP c.K≤u.2.1.2.2.1.length;omega,by show nP c.K<1000000000;omega,fun h0=>⟨by have:=(u2.nil h0).1;show nP c.K=0;omega,(u2.nil h0).2⟩⟩,by show Byt8 ((u.2.1.2.2.1.drop 0).take (nP c.K));rw [E3];exact yV⟩
  | exact ⟨by show (dcZ c.F c.K.t n' c.K.D (((fitL n' (l.take nn)).drop 0).take n') ((bb.2.2.2.1.drop 0).take (((fitL (nP c.K) (l2.take nn2)).drop 0).take (nP c.K)).length)).length≤u.2.2.2.2.2.1.length;rw [z1];omega,by show (dcZ c.F c.K.t n' c.K.D (((fitL n' (l.take nn)).drop 0).take n') ((z.2.2.2.1.drop 0).take (clL c.K.D (fitL (nP c.K) (l2.take nn2))).length)).length≤w.2.2.2.2.2.1.length;rw [z2];omega,by show (dcZ c.F c.K.t n' c.K.D (((fitL n' (l.take nn)).drop 0).take n') ((bb.2.2.2.1.drop 0).take (((fitL (nP c.K) (l2.take nn2)).drop 0).take (nP c.K)).length)).length<140737488355000;rw [z1];omega,fun h0=>⟨by show (dcZ c.F c.K.t n' c.K.D (((fitL n' (l.take nn)).drop 0).take n') ((bb.2.2.2.1.drop 0).take (((fitL (nP c.K) (l2.take nn2)).drop 0).take (nP c.K)).length)).length=0;rw [z1];exact (u3.nil h0).1,(u3.nil h0).2⟩,fun h0=>⟨by show (dcZ c.F c.K.t n' c.K.D (((fitL n' (l.take nn)).drop 0).take n') ((z.2.2.2.1.drop 0).take (clL c.K.D (fitL (nP c.K) (l2.take nn2))).length)).length=0;rw [z2];exact (w3.nil h0).1,(w3.nil h0).2⟩⟩
  | (have e:(true && ieq ((u.1.2.2.1.drop 0).take n') ((w.1.2.2.1.drop 0).take n') && ieq ((u.2.1.2.2.1.drop 0).take (nP c.K)) ((w.2.1.2.2.1.drop 0).take (nP c.K)) && ieq (u.2.2.2.2.2.1.take (dcZ c.F c.K.t n' c.K.D (((fitL n' (l.take nn)).drop 0).take n') ((bb.2.2.2.1.drop 0).take (((fitL (nP c.K) (l2.take nn2)).drop 0).take (nP c.K)).length)).length) (w.2.2.2.2.2.1.take (dcZ c.F c.K.t n' c.K.D (((fitL n' (l.take nn)).drop 0).take n') ((z.2.2.2.1.drop 0).take (clL c.K.D (fitL (nP c.K) (l2.take nn2))).length)).length))=false:=e
     rw [E1,E2,E3,E4,z1,z2,u3.eq,w3.eq,ieq_yes rfl,ieq_yes rfl,ieq_yes rfl] at e
     cases e))
 all_goals try (
  rename_i y hy s0 fa hfa fp hfp bb hbb cb hcb x hx d u hu w hw e v hv
  change MdY at y
  change Oq at bb
  change Oq at cb
  have hbb:Oqw (clL c.K.D (((fitL (nP c.K) (l2.take nn2)).drop 0).take (nP c.K))) bb:=hbb
  rw [tB0] at hbb
  have hb1:(clL c.K.D (fitL (nP c.K) (l2.take nn2))).length≤bb.2.2.2.2:=hbb.cap
  have hb2:=hbb.len
  have hcb:Oqw ((bb.2.2.2.1.drop 0).take (((fitL (nP c.K) (l2.take nn2)).drop 0).take (nP c.K)).length) cb:=hcb
  have eT:bb.2.2.2.1.take (nP c.K)=(clL c.K.D (fitL (nP c.K) (l2.take nn2))):=by have:=hbb.eq;rw [eB] at this;exact this
  rw [tB0,zq,eB0,eT] at hcb
  change Nat×Oq at x
  obtain ⟨j,z⟩:=x
  obtain ⟨⟨k1,k2⟩,k3⟩:(c.K.D≤j∧(j≤8*(clL c.K.D (fitL (nP c.K) (l2.take nn2))).length∨j=c.K.D))∧Oqw (spI c.K.D (clL c.K.D (fitL (nP c.K) (l2.take nn2))) M j) z:=hx
  have lS:=spI_len (D:=c.K.D) (P:=(clL c.K.D (fitL (nP c.K) (l2.take nn2)))) (M:=M) (i:=j)
  have c1:=k3.cap
  have c2:=k3.len
  have eR1:((bb.2.2.2.1.drop 0).take (((fitL (nP c.K) (l2.take nn2)).drop 0).take (nP c.K)).length)=(clL c.K.D (fitL (nP c.K) (l2.take nn2))):=by rw [tB0,zq,eB0,eT]
  have eR2:((z.2.2.2.1.drop 0).take (clL c.K.D (fitL (nP c.K) (l2.take nn2))).length)=spI c.K.D (clL c.K.D (fitL (nP c.K) (l2.take nn2))) M j:=by rw [zq,← lS];exact k3.eq
  change Os×Os×Oq at u
  change Os×Os×Oq at w
  have u1:Ow (tnD c.K.D (((fitL n' (l.take nn)).drop 0).take n') (dcZ c.F c.K.t n' c.K.D (((fitL n' (l.take nn)).drop 0).take n') ((bb.2.2.2.1.drop 0).take (((fitL (nP c.K) (l2.take nn2)).drop 0).take (nP c.K)).length))) u.1:=hu.2.2.2.1.1
  have u2:Ow (tnP c.K.D (mkR c.K.D ((bb.2.2.2.1.drop 0).take (((fitL (nP c.K) (l2.take nn2)).drop 0).take (nP c.K)).length)) (dcZ c.F c.K.t n' c.K.D (((fitL n' (l.take nn)).drop 0).take n') ((bb.2.2.2.1.drop 0).take (((fitL (nP c.K) (l2.take nn2)).drop 0).take (nP c.K)).length))) u.2.1:=hu.2.2.2.1.2
  have u3:Oqw (dcZ c.F c.K.t n' c.K.D (((fitL n' (l.take nn)).drop 0).take n') ((bb.2.2.2.1.drop 0).take (((fitL (nP c.K) (l2.take nn2)).drop 0).take (nP c.K)).length)) u.2.2:=hu.2.2.2.2
  have w1:Ow (tnD c.K.D (((fitL n' (l.take nn)).drop 0).take n') (dcZ c.F c.K.t n' c.K.D (((fitL n' (l.take nn)).drop 0).take n') ((z.2.2.2.1.drop 0).take (clL c.K.D (fitL (nP c.K) (l2.take nn2))).length))) w.1:=hw.2.2.2.1.1
  have w2:Ow (tnP c.K.D (mkR c.K.D ((z.2.2.2.1.drop 0).take (clL c.K.D (fitL (nP c.K) (l2.take nn2))).length)) (dcZ c.F c.K.t n' c.K.D (((fitL n' (l.take nn)).drop 0).take n') ((z.2.2.2.1.drop 0).take (clL c.K.D (fitL (nP c.K) (l2.take nn2))).length))) w.2.1:=hw.2.2.2.1.2
  have w3:Oqw (dcZ c.F c.K.t n' c.K.D (((fitL n' (l.take nn)).drop 0).take n') ((z.2.2.2.1.drop 0).take (clL c.K.D (fitL (nP c.K) (l2.take nn2))).length)) w.2.2:=hw.2.2.2.2
  have z1:dcZ c.F c.K.t n' c.K.D (((fitL n' (l.take nn)).drop 0).take n') ((bb.2.2.2.1.drop 0).take (((fitL (nP c.K) (l2.take nn2)).drop 0).take (nP c.K)).length)=dcZ c.F c.K.t n' c.K.D (fitL n' (l.take nn)) (clL c.K.D (fitL (nP c.K) (l2.take nn2))):=by rw [tA,eR1]
  have z2:dcZ c.F c.K.t n' c.K.D (((fitL n' (l.take nn)).drop 0).take n') ((z.2.2.2.1.drop 0).take (clL c.K.D (fitL (nP c.K) (l2.take nn2))).length)=dcZ c.F c.K.t n' c.K.D (fitL n' (l.take nn)) (clL c.K.D (fitL (nP c.K) (l2.take nn2))):=by rw [tA,eR2,dZ]
  rw [z1,tA] at u1
  rw [z1,eR1,mB] at u2
  rw [z1] at u3
  rw [z2,tA] at w1
  rw [z2,eR2,mS,mB] at w2
  rw [z2] at w3
  have hnN:8*n'+c.K.D≤c.F.N:=by rw [← nF_eq];exact hn.2.2
  obtain ⟨dz1,dz2⟩:=dcZ_nodup (F:=c.F) (t:=c.K.t) (d:=n') (g:=c.K.D) (D:=(fitL n' (l.take nn))) (R:=(clL c.K.D (fitL (nP c.K) (l2.take nn2)))) hnN
  obtain ⟨tb1,tb2,tb3,tb4⟩:=tn_bits (g:=c.K.D) (d:=n') (dcZ c.F c.K.t n' c.K.D (fitL n' (l.take nn)) (clL c.K.D (fitL (nP c.K) (l2.take nn2)))) (fitL n' (l.take nn)) (clL c.K.D (fitL (nP c.K) (l2.take nn2))) yA yB eA (by omega) dz1 dz2
  have zl:=dcZ_len (F:=c.F) (t:=c.K.t) (d:=n') (g:=c.K.D) (D:=(fitL n' (l.take nn))) (R:=(clL c.K.D (fitL (nP c.K) (l2.take nn2))))
  obtain ⟨U,eU⟩:∃ U,U=tnD c.K.D (fitL n' (l.take nn)) (dcZ c.F c.K.t n' c.K.D (fitL n' (l.take nn)) (clL c.K.D (fitL (nP c.K) (l2.take nn2)))):=⟨_,rfl⟩
  obtain ⟨V,eV⟩:∃ V,V=tnP c.K.D (clL c.K.D (fitL (nP c.K) (l2.take nn2))) (dcZ c.F c.K.t n' c.K.D (fitL n' (l.take nn)) (clL c.K.D (fitL (nP c.K) (l2.take nn2)))):=⟨_,rfl⟩
  have lU:U.length=n':=by rw [eU,tnD_len];exact eA
  have lV:V.length=nP c.K:=by rw [eV,tnP_len];exact eB
  have yU:Byt8 U:=by rw [eU];exact tb2
  have yV:Byt8 V:=by rw [eV];exact tb3
  have zV:∀ k,c.K.D≤k→bt V k=false:=fun k hk=>by rw [eV,tb4 k hk,clL_bt,decide_eq_false (by omega),yu]
  rw [← eU] at u1 w1
  rw [← eV] at u2 w2
  have i1:=u3.cap
  have i2:=u3.len
  have i3:=w3.cap
  have i4:=w3.len
  have a1:=u1.cap
  have a2:=u1.len
  have a3:=u2.cap
  have a4:=u2.len
  have c3:=w1.cap
  have c4:=w1.len
  have c5:=w2.cap
  have c6:=w2.len
  have E1:((u.1.2.2.1.drop 0).take n')=U:=by rw [zq,← lU];exact u1.eq
  have E2:((w.1.2.2.1.drop 0).take n')=U:=by rw [zq,← lU];exact w1.eq
  have E3:((u.2.1.2.2.1.drop 0).take (nP c.K))=V:=by rw [zq,← lV];exact u2.eq
  have E4:((w.2.1.2.2.1.drop 0).take (nP c.K))=V:=by rw [zq,← lV];exact w2.eq
  change Oq at v
  have hv:Oqw (clL c.K.D ((u.2.1.2.2.1.drop 0).take (nP c.K))) v:=hv
  rw [E3,clL_id yV zV] at hv
  have v1:=hv.cap
  have v2:=hv.len
  first
  | exact ⟨by show 0+nP c.K≤u.2.1.2.2.1.length;omega,by show 0+((u.2.1.2.2.1.drop 0).take (nP c.K)).length≤v.2.2.2.1.length;rw [E3];omega,fun h0=>⟨by have:=(u2.nil h0).1;show nP c.K=0;omega,(u2.nil h0).2⟩,fun h0=>⟨by show ((u.2.1.2.2.1.drop 0).take (nP c.K)).length=0;rw [E3];exact (hv.nil h0).1,(hv.nil h0).2⟩,by show Byt8 ((u.2.1.2.2.1.drop 0).take (nP c.K));rw [E3];exact yV,by show Byt8 ((v.2.2.2.1.drop 0).take ((u.2.1.2.2.1.drop 0).take (nP c.K)).length);rw [E3,zq,hv.eq];exact yV⟩
  | (show ieq ((u.2.1.2.2.1.drop 0).take (nP c.K)) ((v.2.2.2.1.drop 0).take ((u.2.1.2.2.1.drop 0).take (nP c.K)).length)=true
     rw [E3,zq,hv.eq];exact ieq_yes rfl))
end
end
end Go.Vx
