/-
  Round 10: DecodeSpare: the walk, another way.
  Round 10: the errors that are laid; the inputs.
  Conditions: none.
-/
import Derived.Test.YtfjogcklhibboaaGreatDoorM4
import Derived.Test.YtfjogcklhibboaaGreatDoorM5
import Derived.Test.YtfjogcklhibboaaGreatDoorM9
import Derived.Test.YtfjogcklhibboaaGreatDoorRows
import Derived.LaidMore
import Derived.ChangeOld
import Derived.Below
import Derived.Stop.Joined
import Derived.Lib.SmallJoins
open Bool renaming false_and → yu
open List renaming drop_zero → zq, take_of_length_le → za
open Nat renaming le_refl → zx, mod_lt → zc
set_option linter.unusedVariables false
set_option linter.unusedSimpArgs false
set_option linter.unusedSectionVars false
set_option maxRecDepth 100000
namespace Go.Vx
open Go Go.Proofs
noncomputable section
variable [Gl]
section
variable (c:Cd) (n':Nat) (hn:1≤n'∧n'≤12∧8*n'+c.K.D≤nF c.F) (m t n:Int) (hM:Does (C:=C0) Tryz.prog (.fn 10) [] [.int .i64 m,.int .i64 t,.int .i64 n] [⟨MdY,MdOK c.K,mdR c.K n',mdL c.K n'⟩])
 (o:Bool) (b q:Nat) (l:List Int) (nn cc:Nat) (h:nn≤l.length) (ho:o=false→nn=0∧cc=0) (o2:Bool) (b2 q2:Nat) (l2:List Int) (nn2 cc2:Nat) (h2:nn2≤l2.length) (ho2:o2=false→nn2=0∧cc2=0) (bl:Byt8 (l.take nn)) (bl2:Byt8 (l2.take nn2)) (M:Nat) (hM8:M<256)
include hn hM h ho h2 ho2 bl bl2 hM8
set_option maxHeartbeats 16000000 in
theorem spareX_ok (hC:clnB (dcS c.F c.K.t n' c.K.D (fitL n' (l.take nn)) (clL c.K.D (fitL (nP c.K) (l2.take nn2))))=false) (hX:(c.K.t<dcN c.F c.K.t n' c.K.D (fitL n' (l.take nn)) (clL c.K.D (fitL (nP c.K) (l2.take nn2)))∨(dcL c.F c.K.t n' c.K.D (fitL n' (l.take nn)) (clL c.K.D (fitL (nP c.K) (l2.take nn2)))).length≠dcN c.F c.K.t n' c.K.D (fitL n' (l.take nn)) (clL c.K.D (fitL (nP c.K) (l2.take nn2)))+1)∨(dcZ c.F c.K.t n' c.K.D (fitL n' (l.take nn)) (clL c.K.D (fitL (nP c.K) (l2.take nn2)))).length≠dcN c.F c.K.t n' c.K.D (fitL n' (l.take nn)) (clL c.K.D (fitL (nP c.K) (l2.take nn2)))):
 Tells (C:=C0) Tryz.prog (.fn 3) [⟨b,q,1,false,some o,.rows 5 l⟩,⟨b2,q2,1,false,some o2,.rows 5 l2⟩] [.int .i64 m,.int .i64 t,.int .i64 n,.sl 0 0 nn cc,.sl 1 0 nn2 cc2,.int .u8 (M:Int)] (.bool .t):=by
 obtain ⟨g1,g2,g3,g4⟩:=cd_facts c
 obtain ⟨ns,n7,nh⟩:=nF_sz c.F
 have D1:=c.K.D1
 have hP:nP c.K=(c.K.D+7) / 8:=rfl
 have tA:((fitL n' (l.take nn)).drop 0).take n'=(fitL n' (l.take nn)):=by rw [zq,za (by rw [fitL_len];exact zx _)]
 have tB0:((fitL (nP c.K) (l2.take nn2)).drop 0).take (nP c.K)=(fitL (nP c.K) (l2.take nn2)):=by rw [zq,za (by rw [fitL_len];exact zx _)]
 have eA:(fitL n' (l.take nn)).length=n':=fitL_len
 have eB0:(fitL (nP c.K) (l2.take nn2)).length=nP c.K:=fitL_len
 have eB:(clL c.K.D (fitL (nP c.K) (l2.take nn2))).length=nP c.K:=by rw [clL_len,eB0]
 have yA:Byt8 (fitL n' (l.take nn)):=fitL_byt bl
 have yB0:Byt8 (fitL (nP c.K) (l2.take nn2)):=fitL_byt bl2
 have yB:Byt8 (clL c.K.D (fitL (nP c.K) (l2.take nn2))):=clL_byt
 have mB:mkR c.K.D (clL c.K.D (fitL (nP c.K) (l2.take nn2)))=(clL c.K.D (fitL (nP c.K) (l2.take nn2))):=mk_id yB eB fun k hk=>by rw [clL_bt,decide_eq_false (by omega),yu]
 have yS:∀ j,Byt8 (spI c.K.D (clL c.K.D (fitL (nP c.K) (l2.take nn2))) M j):=fun j=>spI_byt
 have mS:∀ j,mkR c.K.D (spI c.K.D (clL c.K.D (fitL (nP c.K) (l2.take nn2))) M j)=mkR c.K.D (clL c.K.D (fitL (nP c.K) (l2.take nn2))):=fun j=>by
  refine byt_ext (mkR_byt (yS j)) (mkR_byt yB) (by rw [mkR_len,mkR_len,spI_len]) fun k _ => ?_
  rw [mkR_bt (yS j) (by rw [spI_len];exact eB),mkR_bt yB eB]
  by_cases hk:k<c.K.D
  · rw [spI_bt hk]
  · rw [decide_eq_false hk,yu,yu]
 have dS:∀ j,dcS c.F c.K.t n' c.K.D (fitL n' (l.take nn)) (spI c.K.D (clL c.K.D (fitL (nP c.K) (l2.take nn2))) M j)=dcS c.F c.K.t n' c.K.D (fitL n' (l.take nn)) (clL c.K.D (fitL (nP c.K) (l2.take nn2))):=fun j=>dcS_congr (mS j)
 have dN:∀ j,dcN c.F c.K.t n' c.K.D (fitL n' (l.take nn)) (spI c.K.D (clL c.K.D (fitL (nP c.K) (l2.take nn2))) M j)=dcN c.F c.K.t n' c.K.D (fitL n' (l.take nn)) (clL c.K.D (fitL (nP c.K) (l2.take nn2))):=fun j=>by rw [dcN_eq,dcN_eq,dS]
 have dL:∀ j,dcL c.F c.K.t n' c.K.D (fitL n' (l.take nn)) (spI c.K.D (clL c.K.D (fitL (nP c.K) (l2.take nn2))) M j)=dcL c.F c.K.t n' c.K.D (fitL n' (l.take nn)) (clL c.K.D (fitL (nP c.K) (l2.take nn2))):=fun j=>by rw [dcL_eq,dcL_eq,dS]
 have dZ:∀ j,dcZ c.F c.K.t n' c.K.D (fitL n' (l.take nn)) (spI c.K.D (clL c.K.D (fitL (nP c.K) (l2.take nn2))) M j)=dcZ c.F c.K.t n' c.K.D (fitL n' (l.take nn)) (clL c.K.D (fitL (nP c.K) (l2.take nn2))):=fun j=>by rw [dcZ_eq,dcZ_eq,dL]
 refine loc_pc (P:=Tryz.prog) (E:=⟨[fcMade c n' m t n hM,fcFit,fcXclear,fcXclear2,fcRbytes,fcDecX c.F none],[pcFirst,pcXpar,pcSb,pcSb2,pcSameInts,pcSi2],131,[(6,[10],[.p 0,.p 1,.p 2,.q 3,.e 4,.e 5,.p 6]),(15,[10],[.p 0,.p 1,.p 2,.p 3,.p 4,.p 5,.p 6,.p 7,.q 8,.p 9,.p 10,.p 11,.p 12,.q 13,.p 14,.p 15,.p 16,.p 17,.q 18,.p 19,.p 20,.p 21,.p 23,.p 22,.e 24,.q 25,.p 26,.p 27])],[],[],none⟩) (L:=[Sp9 c.K.D (clL c.K.D (fitL (nP c.K) (l2.take nn2))) M]) mix Tryz.func3 rfl (by kernel_rfl) (by kernel_rfl) rfl rfl ?_
 ((conv=>arg 1;reduce);with_reducible repeat' first | exact ty | refine ta ?_ ?_ | refine ti fun _ => ?_ | refine tf fun _ => ?_ | refine tl ?_)
 all_goals try exact vlf
 · exact ⟨⟨by show 0+nn≤l.length;omega,ho⟩,by show n'<100000;omega⟩
 · show c.K.D<1000000;omega
 · exact ⟨⟨by show 0+nn2≤l2.length;omega,ho2⟩,by show (c.K.D+7) / 8<100000;omega⟩
 · refine ⟨by show c.K.D<1000000;omega,⟨by show 0+nP c.K≤(fitL (nP c.K) (l2.take nn2)).length;omega,by show nP c.K<1000000000;omega,nofun⟩,?_⟩
   show Byt8 (((fitL (nP c.K) (l2.take nn2)).drop 0).take (nP c.K));rw [tB0];exact yB0
 · rename_i y hy s0 fa hfa fp hfp bb hbb
   change Oq at bb
   have hbb:Oqw (clL c.K.D (((fitL (nP c.K) (l2.take nn2)).drop 0).take (nP c.K))) bb:=hbb
   rw [tB0] at hbb
   have hb1:(clL c.K.D (fitL (nP c.K) (l2.take nn2))).length≤bb.2.2.2.2:=hbb.cap
   have hb2:=hbb.len
   exact ⟨by show 0+(((fitL (nP c.K) (l2.take nn2)).drop 0).take (nP c.K)).length≤bb.2.2.2.1.length;rw [tB0];omega,by show (((fitL (nP c.K) (l2.take nn2)).drop 0).take (nP c.K)).length<1000000000;rw [tB0];omega,fun h0=>⟨by have:=(hbb.nil h0).1;show (((fitL (nP c.K) (l2.take nn2)).drop 0).take (nP c.K)).length=0;rw [tB0];omega,(hbb.nil h0).2⟩⟩
 · rename_i y hy s0 fa hfa fp hfp bb hbb cb hcb
   change MdY at y
   change Oq at bb
   change Oq at cb
   have hbb:Oqw (clL c.K.D (((fitL (nP c.K) (l2.take nn2)).drop 0).take (nP c.K))) bb:=hbb
   rw [tB0] at hbb
   have hb1:(clL c.K.D (fitL (nP c.K) (l2.take nn2))).length≤bb.2.2.2.2:=hbb.cap
   have hb2:=hbb.len
   have hcb:Oqw ((bb.2.2.2.1.drop 0).take (((fitL (nP c.K) (l2.take nn2)).drop 0).take (nP c.K)).length) cb:=hcb
   have eT:bb.2.2.2.1.take (nP c.K)=(clL c.K.D (fitL (nP c.K) (l2.take nn2))):=by have:=hbb.eq;rw [eB] at this;exact this
   rw [tB0,zq,eB0,eT] at hcb
   refine Stands.one ((c.K.D,cb):Nat×Oq) ⟨⟨⟨zx _,.inr rfl⟩,by show Oqw (spI c.K.D (clL c.K.D (fitL (nP c.K) (l2.take nn2))) M c.K.D) cb;rw [spI_start yB];exact hcb⟩,?_⟩
   have eL:((bb.2.2.2.1.drop 0).take (((fitL (nP c.K) (l2.take nn2)).drop 0).take (nP c.K)).length).length=(clL c.K.D (fitL (nP c.K) (l2.take nn2))).length:=by rw [tB0,zq,eB0,eT]
   ((conv=>arg 1;reduce);with_reducible repeat' first | exact ty | refine ta ?_ ?_ | refine ti fun _ => ?_ | refine tf fun _ => ?_ | refine tl ?_)
   all_goals first | exact vlf | exact eL | exact eL.symm
 all_goals have q8:∀ j:Nat,(j:Int).tdiv 8=((j / 8:Nat):Int):=fun j=>(Int.ofNat_tdiv j 8).symm
 all_goals have m8:∀ j:Nat,(j:Int).tmod 8=((j % 8:Nat):Int):=fun j=>(Int.ofNat_tmod j 8).symm
 all_goals try (refine inR64 ?_ ?_ <;> omega)
 all_goals try (
  rename_i x hx d
  change Nat×Oq at x
  obtain ⟨j,z⟩:=x
  show 0≤IntKind.u64.wrap ((j:Int).tmod 8);rw [m8,wu (by omega)];omega)
 all_goals try (
  rename_i x hx d e
  change Nat×Oq at x
  obtain ⟨j,z⟩:=x
  obtain ⟨⟨k1,k2⟩,k3⟩:(c.K.D≤j∧(j≤8*(clL c.K.D (fitL (nP c.K) (l2.take nn2))).length∨j=c.K.D))∧Oqw (spI c.K.D (clL c.K.D (fitL (nP c.K) (l2.take nn2))) M j) z:=hx
  have lS:=spI_len (D:=c.K.D) (P:=(clL c.K.D (fitL (nP c.K) (l2.take nn2)))) (M:=M) (i:=j)
  have c1:=k3.cap
  have c2:=k3.len
  have d:(j:Int)<8*((clL c.K.D (fitL (nP c.K) (l2.take nn2))).length:Int):=ng d
  have hj8:j / 8<(clL c.K.D (fitL (nP c.K) (l2.take nn2))).length:=by omega
  have eM:ibit .and .u8 (ishr .u8 (M:Int) (IntKind.u64.wrap ((j:Int).tmod 8))) 1=(((M.testBit (j % 8)).toNat:Nat):Int):=by
   rw [m8,wu (by omega)];exact bitI (x:=(M:Int)) ⟨by omega,by omega⟩ (zc _ (by omega))
  have e:decide (ibit .and .u8 (ishr .u8 (M:Int) (IntKind.u64.wrap ((j:Int).tmod 8))) 1=1)=true:=e
  rw [eM] at e
  have hb:M.testBit (j % 8)=true:=by
   have e:=ng e
   cases h9:M.testBit (j % 8) with
   | true=>rfl
   | false=>rw [h9] at e;exact absurd e (by decide)
  first
  | (show inR .i64 ((j:Int).tdiv 8);rw [q8];exact inR64 (n:=((j / 8:Nat):Int)) (by omega) (by omega))
  | exact on_of k3.nil (by omega)
  | (show 0≤(j:Int).tdiv 8;rw [q8];omega)
  | (show (j:Int).tdiv 8<((clL c.K.D (fitL (nP c.K) (l2.take nn2))).length:Int);rw [q8];omega)
  | (show ((j:Int).tdiv 8).toNat+0<z.2.2.2.1.length;rw [q8];omega)
  | (show 0≤IntKind.u64.wrap ((j:Int).tmod 8);rw [m8,wu (by omega)];omega)
  | exact inR64 (n:=(j:Int)+1) (by omega) (by omega)
  | (have eN:((j:Int).tdiv 8).toNat+0=j / 8:=by rw [q8];omega
     have eS:ishl .u8 1 (IntKind.u64.wrap ((j:Int).tmod 8))=((2 ^ (j % 8):Nat):Int):=by rw [m8,wu (by omega)];exact shl1_8 (zc _ (by omega))
     have k4:=k3.put (i:=j / 8) (by omega) (ibit .or .u8 ((spI c.K.D (clL c.K.D (fitL (nP c.K) (l2.take nn2))) M j).getD (j / 8) 0) ((2 ^ (j % 8):Nat):Int))
     rw [spI_yes k1 hj8 hb] at k4
     have eG:z.2.2.2.1.getD (((j:Int).tdiv 8).toNat+0) 0=(spI c.K.D (clL c.K.D (fitL (nP c.K) (l2.take nn2))) M j).getD (j / 8) 0:=by rw [eN];exact k3.at (by omega)
     refine Stands.one ((j+1,(z.1,z.2.1,z.2.2.1,z.2.2.2.1.set (j / 8) (ibit .or .u8 ((spI c.K.D (clL c.K.D (fitL (nP c.K) (l2.take nn2))) M j).getD (j / 8) 0) ((2 ^ (j % 8):Nat):Int)),z.2.2.2.2)):Nat×Oq) ⟨⟨⟨by show c.K.D≤j+1;omega,.inl (by show j+1≤_;omega)⟩,k4⟩,by show _ - (j+1)<_ - j;omega,?_⟩
     ((conv=>arg 1;reduce);with_reducible repeat' first | exact ty | refine ta ?_ ?_ | refine ti fun _ => ?_ | refine tf fun _ => ?_ | refine tl ?_)
     all_goals first
      | exact vlf
      | (show z.2.2.2.1.set (j / 8) _=z.2.2.2.1.set (((j:Int).tdiv 8).toNat+0) (ibit .or .u8 (z.2.2.2.1.getD (((j:Int).tdiv 8).toNat+0) 0) (ishl .u8 1 (IntKind.u64.wrap ((j:Int).tmod 8))));rw [eG,eS,eN])
      | (show z.2.2.2.1.set (((j:Int).tdiv 8).toNat+0) (ibit .or .u8 (z.2.2.2.1.getD (((j:Int).tdiv 8).toNat+0) 0) (ishl .u8 1 (IntKind.u64.wrap ((j:Int).tmod 8))))=z.2.2.2.1.set (j / 8) _;rw [eG,eS,eN])))
 all_goals try (
  rename_i x hx d e
  change Nat×Oq at x
  obtain ⟨j,z⟩:=x
  obtain ⟨⟨k1,k2⟩,k3⟩:(c.K.D≤j∧(j≤8*(clL c.K.D (fitL (nP c.K) (l2.take nn2))).length∨j=c.K.D))∧Oqw (spI c.K.D (clL c.K.D (fitL (nP c.K) (l2.take nn2))) M j) z:=hx
  have lS:=spI_len (D:=c.K.D) (P:=(clL c.K.D (fitL (nP c.K) (l2.take nn2)))) (M:=M) (i:=j)
  have c1:=k3.cap
  have c2:=k3.len
  have d:(j:Int)<8*((clL c.K.D (fitL (nP c.K) (l2.take nn2))).length:Int):=ng d
  have eM:ibit .and .u8 (ishr .u8 (M:Int) (IntKind.u64.wrap ((j:Int).tmod 8))) 1=(((M.testBit (j % 8)).toNat:Nat):Int):=by
   rw [m8,wu (by omega)];exact bitI (x:=(M:Int)) ⟨by omega,by omega⟩ (zc _ (by omega))
  have e:decide (ibit .and .u8 (ishr .u8 (M:Int) (IntKind.u64.wrap ((j:Int).tmod 8))) 1=1)=false:=e
  rw [eM] at e
  have hb:M.testBit (j % 8)=false:=by
   have e:=nf e
   cases h9:M.testBit (j % 8) with
   | false=>rfl
   | true=>rw [h9] at e;exact absurd rfl e
  first
  | exact inR64 (n:=(j:Int)+1) (by omega) (by omega)
  | (refine Stands.one ((j+1,z):Nat×Oq) ⟨⟨⟨by show c.K.D≤j+1;omega,.inl (by show j+1≤_;omega)⟩,by show Oqw (spI c.K.D (clL c.K.D (fitL (nP c.K) (l2.take nn2))) M (j+1)) z;rw [spI_no hb];exact k3⟩,by show _ - (j+1)<_ - j;omega,?_⟩
     exact vgo))
 · rename_i y hy s0 fa hfa fp hfp bb hbb cb hcb x hx d
   change MdY at y
   change Oq at bb
   change Oq at cb
   have hbb:Oqw (clL c.K.D (((fitL (nP c.K) (l2.take nn2)).drop 0).take (nP c.K))) bb:=hbb
   rw [tB0] at hbb
   have hb1:(clL c.K.D (fitL (nP c.K) (l2.take nn2))).length≤bb.2.2.2.2:=hbb.cap
   have hb2:=hbb.len
   have hcb:Oqw ((bb.2.2.2.1.drop 0).take (((fitL (nP c.K) (l2.take nn2)).drop 0).take (nP c.K)).length) cb:=hcb
   have eT:bb.2.2.2.1.take (nP c.K)=(clL c.K.D (fitL (nP c.K) (l2.take nn2))):=by have:=hbb.eq;rw [eB] at this;exact this
   rw [tB0,zq,eB0,eT] at hcb
   have eR:((bb.2.2.2.1.drop 0).take (((fitL (nP c.K) (l2.take nn2)).drop 0).take (nP c.K)).length)=(clL c.K.D (fitL (nP c.K) (l2.take nn2))):=by rw [tB0,zq,eB0,eT]
   have eL:(((fitL (nP c.K) (l2.take nn2)).drop 0).take (nP c.K)).length=nP c.K:=by rw [tB0];exact eB0
   refine ⟨⟨⟨by show c.K.t≤40;omega,by show n'<100000;omega,by show c.K.D<100000;omega,rfl,hn.1,c.K.D1⟩,⟨⟨by show 0+n'≤(fitL n' (l.take nn)).length;omega,by show n'<1000000000;omega,nofun⟩,⟨by show 0+(((fitL (nP c.K) (l2.take nn2)).drop 0).take (nP c.K)).length≤bb.2.2.2.1.length;omega,by show (((fitL (nP c.K) (l2.take nn2)).drop 0).take (nP c.K)).length<1000000000;omega,fun h0=>⟨by have:=(hbb.nil h0).1;show (((fitL (nP c.K) (l2.take nn2)).drop 0).take (nP c.K)).length=0;omega,(hbb.nil h0).2⟩⟩⟩,by show Byt8 (((fitL n' (l.take nn)).drop 0).take n');rw [tA];exact yA,by show Byt8 ((bb.2.2.2.1.drop 0).take (((fitL (nP c.K) (l2.take nn2)).drop 0).take (nP c.K)).length);rw [eR];exact yB⟩,rfl,eL,by show clnB (dcS c.F c.K.t n' c.K.D (((fitL n' (l.take nn)).drop 0).take n') ((bb.2.2.2.1.drop 0).take (((fitL (nP c.K) (l2.take nn2)).drop 0).take (nP c.K)).length))=false;rw [tA,eR];exact hC,by show (c.K.t<dcN c.F c.K.t n' c.K.D (((fitL n' (l.take nn)).drop 0).take n') ((bb.2.2.2.1.drop 0).take (((fitL (nP c.K) (l2.take nn2)).drop 0).take (nP c.K)).length)∨(dcL c.F c.K.t n' c.K.D (((fitL n' (l.take nn)).drop 0).take n') ((bb.2.2.2.1.drop 0).take (((fitL (nP c.K) (l2.take nn2)).drop 0).take (nP c.K)).length)).length≠dcN c.F c.K.t n' c.K.D (((fitL n' (l.take nn)).drop 0).take n') ((bb.2.2.2.1.drop 0).take (((fitL (nP c.K) (l2.take nn2)).drop 0).take (nP c.K)).length)+1)∨(dcZ c.F c.K.t n' c.K.D (((fitL n' (l.take nn)).drop 0).take n') ((bb.2.2.2.1.drop 0).take (((fitL (nP c.K) (l2.take nn2)).drop 0).take (nP c.K)).length)).length≠dcN c.F c.K.t n' c.K.D (((fitL n' (l.take nn)).drop 0).take n') ((bb.2.2.2.1.drop 0).take (((fitL (nP c.K) (l2.take nn2)).drop 0).take (nP c.K)).length);rw [tA,eR];exact hX⟩
 · rename_i y hy s0 fa hfa fp hfp bb hbb cb hcb x hx d u hu
   change Nat×Oq at x
   obtain ⟨j,z⟩:=x
   obtain ⟨⟨k1,k2⟩,k3⟩:(c.K.D≤j∧(j≤8*(clL c.K.D (fitL (nP c.K) (l2.take nn2))).length∨j=c.K.D))∧Oqw (spI c.K.D (clL c.K.D (fitL (nP c.K) (l2.take nn2))) M j) z:=hx
   have lS:=spI_len (D:=c.K.D) (P:=(clL c.K.D (fitL (nP c.K) (l2.take nn2)))) (M:=M) (i:=j)
   have c1:=k3.cap
   have c2:=k3.len
   have eR:((z.2.2.2.1.drop 0).take (clL c.K.D (fitL (nP c.K) (l2.take nn2))).length)=spI c.K.D (clL c.K.D (fitL (nP c.K) (l2.take nn2))) M j:=by rw [zq,← lS];exact k3.eq
   refine ⟨⟨⟨by show c.K.t≤40;omega,by show n'<100000;omega,by show c.K.D<100000;omega,rfl,hn.1,c.K.D1⟩,⟨⟨by show 0+n'≤(fitL n' (l.take nn)).length;omega,by show n'<1000000000;omega,nofun⟩,⟨by show 0+(clL c.K.D (fitL (nP c.K) (l2.take nn2))).length≤z.2.2.2.1.length;omega,by show (clL c.K.D (fitL (nP c.K) (l2.take nn2))).length<1000000000;omega,fun h0=>⟨by have:=(k3.nil h0).1;show (clL c.K.D (fitL (nP c.K) (l2.take nn2))).length=0;omega,(k3.nil h0).2⟩⟩⟩,by show Byt8 (((fitL n' (l.take nn)).drop 0).take n');rw [tA];exact yA,by show Byt8 ((z.2.2.2.1.drop 0).take (clL c.K.D (fitL (nP c.K) (l2.take nn2))).length);rw [eR];exact yS j⟩,rfl,eB,by show clnB (dcS c.F c.K.t n' c.K.D (((fitL n' (l.take nn)).drop 0).take n') ((z.2.2.2.1.drop 0).take (clL c.K.D (fitL (nP c.K) (l2.take nn2))).length))=false;rw [tA,eR,dS];exact hC,by show (c.K.t<dcN c.F c.K.t n' c.K.D (((fitL n' (l.take nn)).drop 0).take n') ((z.2.2.2.1.drop 0).take (clL c.K.D (fitL (nP c.K) (l2.take nn2))).length)∨(dcL c.F c.K.t n' c.K.D (((fitL n' (l.take nn)).drop 0).take n') ((z.2.2.2.1.drop 0).take (clL c.K.D (fitL (nP c.K) (l2.take nn2))).length)).length≠dcN c.F c.K.t n' c.K.D (((fitL n' (l.take nn)).drop 0).take n') ((z.2.2.2.1.drop 0).take (clL c.K.D (fitL (nP c.K) (l2.take nn2))).length)+1)∨(dcZ c.F c.K.t n' c.K.D (((fitL n' (l.take nn)).drop 0).take n') ((z.2.2.2.1.drop 0).take (clL c.K.D (fitL (nP c.K) (l2.take nn2))).length)).length≠dcN c.F c.K.t n' c.K.D (((fitL n' (l.take nn)).drop 0).take n') ((z.2.2.2.1.drop 0).take (clL c.K.D (fitL (nP c.K) (l2.take nn2))).length);rw [tA,eR,dN,dL,dZ];exact hX⟩
 all_goals try exact ⟨zx _,zx _,fun _=>⟨rfl,rfl⟩,fun _=>⟨rfl,rfl⟩,(fun x hx=>nomatch hx),(fun x hx=>nomatch hx)⟩
 all_goals try exact ⟨zx _,zx _,by show 0<140737488355000;decide,fun _=>⟨rfl,rfl⟩,fun _=>⟨rfl,rfl⟩⟩
 all_goals try exact ⟨by show c.K.D<1000000;omega,⟨zx _,by show 0<1000000000;decide,fun _=>⟨rfl,rfl⟩⟩,(fun x hx=>nomatch hx)⟩
 all_goals try (
  rename_i e v hv
  change Oq at v
  have hv:Oqw (clL c.K.D []) v:=hv
  have l0:(clL c.K.D []).length=0:=clL_len
  first
  | exact ⟨zx _,by show 0+0≤v.2.2.2.1.length;omega,fun _=>⟨rfl,rfl⟩,fun h0=>⟨rfl,(hv.nil h0).2⟩,(fun x hx=>nomatch hx),(fun x hx=>nomatch hx)⟩
  | exact ieq_yes rfl)
 all_goals try (
  rename_i e
  have hI:ieq ([]:List Int) []=true:=ieq_yes rfl
  have e:(true && ieq ([]:List Int) [] && ieq ([]:List Int) [] && ieq ([]:List Int) [])=false:=e
  rw [hI] at e
  cases e)
end
end
end Go.Vx
namespace Go.Vx
open Go Go.Proofs Go.ChangeShapes Go.WideShapes Go.Deep Go.RowKit Go.Proofs.YtfjogcklhibboaaGreatDoor
theorem c9:Tryz.prog.cellsOf 9=1:=by kernel_rfl
theorem c210:Tryz.prog.cellsOf 210=1:=by kernel_rfl
theorem star : "*" ++ "errors.errorString" = "*errors.errorString" := by decide
theorem rowE (u : TypeId) (h : Tryz.prog.typeName? 3 u = some "*errors.errorString") : u = 193 :=
 typeName_ptr_named (nm := "errors.errorString") (by rw [star]; kernel_rfl) (by kernel_rfl) (by decide) u (by rw [star]; exact h)
theorem gl_of {W : World} {L : List (String × DataW Unit)} {G0 : List Nat} {N : Nat} (pos : Nat → Nat) (hp : ∀ g, g < N → pos g < G0.length ∧ G0.getD (pos g) 0 = g) (hL : SentL Tryz.prog "*errors.errorString" 35 L G0) (h : laidMet Tryz.prog L W) :
 ∃ G:Gl,@Gl.lv G=N∧(∀ i j,i<N→j<N → @Gl.A G i = @Gl.A G j→i=j)∧∀ g,g<N→
 W.cell? ⟨g,0,none⟩=some (.iface 193 (.pointer (some (@Gl.A G g))))∧W.heap[(@Gl.A G g).block]? = some (.cells (@Gl.c G g) (@Gl.t G g) (0,0)):=by
 obtain ⟨ps,hv,hnd,hrows⟩:=h
 obtain ⟨az,hs,_⟩:=laid_all Tryz.underlying35 rowE Tryz.underlying193 Tryz.underlying210 rfl rfl Tryz.underlying9 c210 c9 _ _ _ hL hv hnd hrows
 have hex:∀ g,∃ p:Array Value×TypeId,g<N→W.heap[(az.getD (pos g) default).block]? = some (.cells p.1 p.2 (0,0)):=by
  intro g
  by_cases hg:g<N
  · obtain ⟨_,c,t,h2⟩:=hs.get (pos g) (hp g hg).1
    exact ⟨(c,t),fun _=>h2⟩
  · exact ⟨(#[],0),fun h=>absurd h hg⟩
 refine ⟨⟨fun g=>az.getD (pos g) default,fun g=>(Classical.choose (hex g)).1,fun g=>(Classical.choose (hex g)).2,N⟩,rfl,?_,?_⟩
 · intro i j hi hj he
   have:=hs.one (hp i hi).1 (hp j hj).1 he
   rw [← (hp i hi).2,← (hp j hj).2,this]
 · intro g hg
   obtain ⟨h1,_⟩:=hs.get (pos g) (hp g hg).1
   rw [(hp g hg).2] at h1
   exact ⟨h1,Classical.choose_spec (hex g) hg⟩
theorem gv_is [Gl] (g:Nat):(C0 g).gv=glV g:=by unfold C0;split <;> rfl
theorem gp_is [Gl] (g:Nat):(C0 g).gpins=glP g:=by unfold C0;split <;> rfl
theorem glB_lt [Gl] {g:Nat} {n:Nat} (h3:6≤n) (hn:Gl.lv≤n) (h:glB g=true):g<n:=by
 unfold glB at h
 split at h
 · rename_i hb;have:g<6:=by simpa using hb
   omega
 · have:g<Gl.lv:=by simpa using h
   omega
theorem more_of [Gl] {W:World} {n:Nat} (h3:6≤n) (hn:Gl.lv≤n) (h:∀ g,g<n→W.cell? ⟨g,0,none⟩=some (.iface 193 (.pointer (some (Gl.A g))))∧W.heap[(Gl.A g).block]? = some (.cells (Gl.c g) (Gl.t g) (0,0)))
 {mem:List (Ck C0)} (hnw:noWr mem=true) (hd:∀ c∈mem,∀ t x,c.cells.Has t x→(C0 t).good W x∧∀ b∈(C0 t).blks x,b<W.heap.size):More (wrS mem) W W mem where
 gv g v hv:=by
  rw [gv_is] at hv
  unfold glV at hv
  split at hv
  · rename_i hb
    have hg:=glB_lt h3 hn hb
    simp only [Option.some.injEq] at hv
    subst hv
    obtain ⟨h1,_⟩:=h g hg
    refine ⟨h1,?_,?_⟩
    · rcases Nat.lt_or_ge g W.heap.size with h' | h'
      · exact h'
      · simp [World.cell?,Array.getElem?_eq_none h'] at h1
    · rintro ⟨c,hc,hw,_⟩
      rw [noWr_ok hnw c hc] at hw;cases hw
  · cases hv
 gp g p hp:=by
  rw [gp_is] at hp
  unfold glP at hp
  split at hp
  · rename_i hb
    have hg:=glB_lt h3 hn hb
    rw [List.mem_singleton] at hp
    subst hp
    obtain ⟨_,h2⟩:=h g hg
    refine ⟨h2,heap_size_of h2,?_⟩
    rintro ⟨c,hc,hw,_⟩
    rw [noWr_ok hnw c hc] at hw;cases hw
  · cases hp
 pin p hp:=by cases hp
 nod:=List.nodup_nil
 deep:=deep_ro hnw hd
theorem bytes_open {H:Type} {enc:TypeId×Value→H} {W:World} {base b0:Nat} {r:Reach} {v:Value} {d:DataW H} {p:List MemPlace} (hv:Value.okWide Tryz.prog W r b0 22 v)
 (h:DataW.Trod enc Tryz.prog W base (fun _=>true) true 22 v d p):∃ (a:Option Addr) (n c:Nat) (l:List Int),v=.slice a n c∧IsRows (cInt .u8) W a n c l∧Byt8 l:=by
 obtain ⟨a,n,c,rfl⟩:=okWide_slice Tryz.underlying22 hv
 obtain ⟨fuel,hf⟩:=h
 have hf:DataW.trod enc Tryz.prog W base (fun _=>true) true fuel 22 [.slice a n c]=some (d,p):=by simpa [Value.cells] using hf
 rcases open_ints Tryz.underlying22 Tryz.underlying5 (by kernel_rfl) hf with ⟨hcs,_⟩ | ⟨x,len',cap',zs,hcs,_,hl,_,hz,_,hcell,hw⟩
 · simp at hcs
   obtain ⟨rfl,rfl,rfl⟩:=hcs
   exact ⟨none,0,0,[],rfl,.inl ⟨rfl,rfl,rfl,rfl⟩,fun x hx=>by cases hx⟩
 · simp at hcs
   obtain ⟨rfl,rfl,rfl⟩:=hcs
   simp only [if_true] at hz
   obtain ⟨hs,hb⟩:=okWide_at Tryz.underlying22 hv
   refine ⟨some x,n,c,zs,rfl,.inr ⟨x,rfl,hs,hb,hl,hz,fun i hi f hf => ?_⟩,fun n hn => ?_⟩
   · obtain rfl:f=0:=by
      have:f<1:=hf
      omega
     rw [show i*1+0=i by omega,hcell i (by omega)]
     rfl
   · have:=hw n hn
     simp [Lit.wf,IntKind.min,IntKind.max,IntKind.signed,IntKind.bits] at this
     omega
end Go.Vx
