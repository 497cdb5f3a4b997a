/-
  Round 10: encode's bytewise.
  Round 10: encode's divide, Serial, Fast.
  Round 10: lists that are compared: SameBytes, SameInts, encode's Right.
  Round 10: encode's Flip.
  Round 10: encode.New: the walk.
  Round 10: the codes of the statements; bytes with bits struck off or laid in: plain facts.
  Round 10: the document's New, Parity, Clear; copies.
  Round 10: a Decoder: decode.New, Code, measure.
  Round 10: a Decoder: find.
  Round 10: encode.New's contract; a Decoder: seek.
  Round 10: a Decoder: turn.
  Conditions: none.
-/
import Derived.Test.YtfjogcklhibboaaGreatDoorM2
import Derived.Test.YtfjogcklhibboaaGreatDoorM6
import Derived.Test.YtfjogcklhibboaaGreatDoorM7
open Array renaming length_toList → qj
open Bool renaming and_false → tn, false_and → yf, or_eq_true → yd, or_false → sr, toNat_le → ul, true_and → zd
open Int renaming eq_ofNat_of_zero_le → yh, natCast_nonneg → wb, ofNat_tdiv → yj, ofNat_tmod → zb, toNat_natCast → zu
open List renaming append_assoc → vx, append_nil → wx, drop_zero → zm, foldl_append → uo, foldl_cons → ut, getD_eq_getElem?_getD → zy, getElem?_append_left → yx, getElem?_append_right → xr, getElem?_replicate → sw, getElem?_take_of_lt → yn, length → wi, length_append → zx, length_drop → wk, length_replicate → xz, length_set → zh, length_take → ze, map_cons → vw, mem_cons_of_mem → yw, mem_cons_self → xp, mem_of_mem_take → xu, mem_replicate → qa, nil_append → rz, replicate → zo, set_append_left → tu, take_left' → vj, take_of_length_le → zc, take_zero → sf
open Nat renaming add_zero → za, and_le_left → ub, beq → zi, blt → ye, blt_eq → ui, le_refl → zw, lt_of_le_of_lt → wh, mod_eq_of_lt → tb, mod_lt → yv, not_lt_zero → xi, pow_le_pow_right → zj, sub_self → qo, testBit_and → qn, testBit_two_pow → vy, testBit_xor → ww, xor_lt_two_pow → wo, zero_add → we, zero_le → zg, zero_testBit → xj
set_option linter.unusedVariables false
set_option linter.unusedSimpArgs false
set_option linter.unusedSectionVars false
set_option maxRecDepth 100000
namespace Go.Vx
open Go Go.Proofs
noncomputable section
section
variable {F:Gf} (K:Kd F)
@[irreducible] def tbK (y:Nat):List Int:=rgK K (btI K (fun _=>false) y 8)
theorem tbK_len (y:Nat):(tbK K y).length=nP K:=by unfold tbK;exact rgK_len K _
theorem tbK_byt (y:Nat):Byt8 (tbK K y):=by unfold tbK;exact rgK_byt K _
@[irreducible] def mvK (r:Nat→Bool):List Int:=by' (nP K) fun k=>decide (8≤k) && r (k - 8)
theorem mvK_len (r:Nat→Bool):(mvK K r).length=nP K:=by unfold mvK;rw [by_len]
theorem mvK_of {R:List Int} (hR:R=rgK K (bt R)):((R.take 1 ++ ((R.drop 0).take (min (nP K) (nP K - 1))) ++ R.drop (1+min (nP K) (nP K - 1))).set 0 0)=mvK K (bt R):=by
 have hl:R.length=nP K:=by rw [hR,rgK_len]
 have hb:Byt8 R:=by rw [hR];exact rgK_byt K _
 have hn:=nP_pos K
 rw [zm,show min (nP K) (nP K - 1)=nP K - 1 by omega,show 1+(nP K - 1)=R.length by omega,List.drop_length,wx]
 have hl2:(R.take 1 ++ R.take (nP K - 1)).length=nP K:=by simp only [zx,ze];omega
 refine byt_ext (byt_set (fun x hx => ?_) ⟨by omega,by omega⟩) (by unfold mvK;exact by_byt _ _) (by rw [zh,hl2,mvK_len]) fun k hk => ?_
 · rcases List.mem_append.1 hx with hx | hx
   · exact hb x (xu hx)
   · exact hb x (xu hx)
 · rw [zh,hl2] at hk
   rw [bt_set (by omega)]
   unfold mvK
   rw [by_bt hk]
   by_cases h8:k / 8=0
   · rw [if_pos h8,decide_eq_false (by omega),yf]
     exact xj _
   · rw [if_neg h8,decide_eq_true (by omega),zd]
     unfold bt
     rw [show (k - 8) % 8=k % 8 by omega,show (k - 8) / 8=k / 8 - 1 by omega]
     congr 2
     have t1:(R.take 1).length=1:=by rw [ze];omega
     simp only [zy]
     rw [xr (by omega),t1,yn (by omega)]
theorem mvK_srow {R:List Int} (hR:R=rgK K (bt R)) {c:Nat} (hc:nP K≤c):((R.take (srow c 1 0) ++ ((R.drop 0).take (min (nP K) (nP K - 1))) ++ R.drop (srow c 1 0+min (nP K) (nP K - 1))).set 0 0)=mvK K (bt R):=by
 have hn:=nP_pos K
 have hl:R.length=nP K:=by rw [hR,rgK_len]
 have e:=mvK_of K hR
 unfold srow
 by_cases h:c=1
 · have h1:nP K=1:=by omega
   rw [if_pos h,h1]
   rw [h1] at e hl
   rw [← e]
   simp only [zm,qo,Nat.min_zero,sf,wx,za,rz]
   rw [zc (by omega),List.drop_eq_nil_of_le (by omega),wx]
 · rw [if_neg h]
   exact e
theorem mvK_slen {R:List Int} (hl:R.length=nP K) {c:Nat} (hc:nP K≤c):(R.take (srow c 1 0) ++ ((R.drop 0).take (min (nP K) (nP K - 1))) ++ R.drop (srow c 1 0+min (nP K) (nP K - 1))).length=nP K∧srow c 1 0+min (nP K) (nP K - 1)≤nP K:=by
 have hn:=nP_pos K
 unfold srow
 by_cases h:c=1
 · rw [if_pos h]
   simp only [zx,ze,wk,zm]
   omega
 · rw [if_neg h]
   simp only [zx,ze,wk,zm]
   omega
theorem mvK_mask {r:Nat→Bool} (h:0<K.D % 8):(mvK K r).set (nP K - 1) (ibit .and .u8 ((mvK K r).getD (nP K - 1) 0) ((2 ^ (K.D % 8) - 1:Nat):Int))=rgK K fun k=>decide (8≤k) && r (k - 8):=by
 rw [rgK_eq];unfold mvK;exact by_mask rfl h
theorem mvK_full {r:Nat→Bool} (h:K.D % 8=0):mvK K r=rgK K fun k=>decide (8≤k) && r (k - 8):=by rw [rgK_eq];unfold mvK;exact by_full rfl h
@[irreducible] def tpK (r:Nat→Bool) (i:Nat):Nat:=bn i fun j=>r (K.D - 8+j)
theorem tpK_lt (r:Nat→Bool) {i:Nat} (h:i≤8):tpK K r i<256:=by
 unfold tpK
 exact Nat.lt_of_lt_of_le (bn_lt i _) (show 2 ^ i≤2 ^ 8 from zj (by omega) h)
theorem tpK_zero (r:Nat→Bool):tpK K r 0=0:=by unfold tpK;rfl
theorem tpK_succ (r:Nat→Bool) {i:Nat} (h:i<8):ibit .or .u8 (tpK K r i:Int) (ishl .u8 (((r (K.D - 8+i)).toNat:Nat):Int) (i:Int))=(tpK K r (i+1):Int):=by
 have hb:=ul (r (K.D - 8+i))
 have hp:2 ^ i≤2 ^ 7:=zj (by omega) (by omega)
 have h8:(r (K.D - 8+i)).toNat*2 ^ i<256:=wh (Nat.mul_le_mul hb hp) (by decide)
 rw [shl8 _ i (by omega),tb h8,or8 (tpK_lt K r (by omega)) h8]
 unfold tpK
 rw [bn_snoc,Nat.shiftLeft_eq]
theorem tpK_bit (r:Nat→Bool) {j:Nat} (h:j<8):(tpK K r 8).testBit j=r (K.D - 8+j):=by
 unfold tpK
 rw [bn_bit,decide_eq_true h,zd]
@[irreducible] def xtK (r:Nat→Bool) (y j:Nat):List Int:=xoB (nP K) (fun k=>decide (k<K.D) && (decide (8≤k) && r (k - 8))) (bt (tbK K y)) j
theorem xtK_len (r:Nat→Bool) (y j:Nat):(xtK K r y j).length=nP K:=by unfold xtK;exact xoB_len
theorem xtK_zero (r:Nat→Bool) (y:Nat):xtK K r y 0=rgK K fun k=>decide (8≤k) && r (k - 8):=by unfold xtK;rw [xoB_zero,rgK_eq,rgB_eq]
theorem xtK_step {r:Nat→Bool} {y j:Nat} (hj:j<nP K):(xtK K r y j).set j (ibit .xor .u8 ((xtK K r y j).getD j 0) ((tbK K y).getD j 0))=xtK K r y (j+1):=by
 obtain ⟨z,hz,z1,z2⟩:=byt_at (tbK_byt K y) (show j<(tbK K y).length by rw [tbK_len];exact hj)
 rw [hz]
 unfold xtK
 exact xoB_step hj z1 z2
theorem xtK_all {R:List Int} (h8:8≤K.D) {x:Nat} (hx:x<256):xtK K (bt R) (tpK K (bt R) 8 ^^^ x) (nP K)=byK K R (x:Int):=by
 unfold xtK byK
 rw [xoB_all,zu,rgK_eq,rgB_eq]
 refine by_congr fun k hk => ?_
 unfold tbK
 rw [rgK_bt']
 by_cases hD:k<K.D
 · rw [decide_eq_true hD,zd,zd,zd]
   unfold btI
   rw [rgs_split (r:=bt R) K.D1 8 (zw 8) h8 k hD]
   congr 1
   refine rgs_congr K.D1 (fun _ _=>rfl) (fun j hj => ?_) 8 k hD
   rw [ww,tpK_bit K _ hj,decide_eq_true (show 8≤K.D+j by omega),zd,Bool.xor_comm,show K.D+j - 8=K.D - 8+j by omega]
 · rw [decide_eq_false hD];rfl
end
variable [Gl]
section
variable {F:Gf} (K:Kd F)
structure TbOK (TB:List (Rw Int)):Prop where
 len:256≤TB.length
 on:∀ x,x<256→(TB.getD x Rw.nil).on=true
 row:∀ x,x<256→(TB.getD x Rw.nil).l=tbK K x
def By4 (r:Nat→Bool):Inv' C0:=⟨4,Nat,fun i=>[(21,.int .i64 (i:Int)),(6,.int .u8 (tpK K r i:Int))],fun i m=>m,fun i=>i≤8,fun i=>8 - i⟩
def By14 (r:Nat→Bool):Inv' C0:=⟨1000014,Unit,fun _=>[],fun _ m=>match m with
 | [c,t,l,b]=>[c,⟨t.block,t.base,1,true,t.gl,.rows 5 (rgK K fun k=>decide (8≤k) && r (k - 8))⟩,l,b]
 | m=>m,fun _=>True,fun _=>0⟩
def By15 (r:Nat→Bool) (y:Nat):Inv' C0:=⟨15,Nat,fun j=>[(78,.int .i64 (j:Int))],fun j m=>match m with
 | [c,t,l,b,w]=>[c,⟨t.block,t.base,1,true,t.gl,.rows 5 (xtK K r y j)⟩,l,b,w]
 | m=>m,fun j=>j≤nP K,fun j=>nP K - j⟩
set_option maxHeartbeats 8000000 in
theorem bytewise_ok (s:Cr) (TB:List (Rw Int)) (x:Nat) (hx:x<256) (h:Cr.pre K s) (hT:TbOK K TB):match s with
 | (b,q,bR,qR,cR,bL,qL,oL,lo,cL,R)=>nP K≤cR→Does (C:=C0) Tryz.prog (.fn 48) [cdR K b q cL,⟨bR,qR,1,true,none,.rows 5 R⟩,⟨bL,qL,1,false,some oL,.rows 5 lo⟩,⟨b,q+7,1,false,none,.rows 22 TB⟩] [.ptr 0 0 0,.sl 1 0 (nP K) cR,.int .u8 (x:Int)]
     [⟨Unit,fun _=>True,fun _=>.tup [],fun _=>[cdR K b q cL,⟨bR,qR,1,true,none,.rows 5 (byK K R (x:Int))⟩,⟨bL,qL,1,false,some oL,.rows 5 lo⟩,⟨b,q+7,1,false,none,.rows 22 TB⟩]⟩]:=by
 obtain ⟨b,q,bR,qR,cR,bL,qL,oL,lo,cL,R⟩:=s
 obtain ⟨h1,h2,h3,h4⟩:=h
 show nP K≤cR→Does _ _ _ _ _
 intro hcR
 have n1:=nP_pos K
 have n2:=nP_lt K
 have nD:nP K=(K.D+7) / 8:=rfl
 have lR:R.length=nP K:=by rw [h4,rgK_len]
 have bR':Byt8 R:=by rw [h4];exact rgK_byt K _
 have d8:(K.D:Int).tmod 8=((K.D % 8:Nat):Int):=(zb _ 8).symm
 refine loc_fn (P:=Tryz.prog) (E:=⟨[fcBit K],[],91,[(13,[],[.p 0,.p 1,.p 2,.p 3,.p 4,.p 6,.p 7,.p 8,.q 5,.p 9,.p 10,.e 11])],[rdB],[],some ⟨86,7,mkB⟩⟩) (L:=[By4 K (bt R),By14 K (bt R),By15 K (bt R) (tpK K (bt R) 8 ^^^ x)]) mix Tryz.func48 rfl (by kernel_rfl) (by kernel_rfl) rfl rfl ?_
 ((conv=>arg 1;reduce);with_reducible repeat' first | exact ty | refine ta ?_ ?_ | refine ti fun _ => ?_ | refine tf fun _ => ?_ | refine tl ?_)
 all_goals try exact vlf
 · exact ⟨⟨h1,h2,h3,h4⟩,by show (0:Int)≤(x:Int);omega,by show (x:Int)<256;omega⟩
 · refine Ends.one () trivial ?_
   exact vgo
 · refine Stands.one (0:Nat) ⟨zg _,?_⟩
   ((conv=>arg 1;reduce);with_reducible repeat' first | exact ty | refine ta ?_ ?_ | refine ti fun _ => ?_ | refine tf fun _ => ?_ | refine tl ?_)
   all_goals first | exact vlf | (show (0:Int)=(tpK K (bt R) 0:Int);rw [tpK_zero];rfl) | (show (tpK K (bt R) 0:Int)=0;rw [tpK_zero];rfl)
 iterate 8 (focus
  rename_i d0 i hi d
  change Nat at i
  have hi:i≤8:=hi
  have d0:¬ (K.D:Int)<8:=nf d0
  have d:(i:Int)<8:=ng d
  have eD:(K.D:Int) - 8+(i:Int)=((K.D - 8+i:Nat):Int):=by omega
  have q8:((K.D - 8+i:Nat):Int).tdiv 8=(((K.D - 8+i) / 8:Nat):Int):=(yj _ 8).symm
  have m8:((K.D - 8+i:Nat):Int).tmod 8=(((K.D - 8+i) % 8:Nat):Int):=(zb _ 8).symm
  first
  | (refine Stands.one (i+1:Nat) ⟨by show i+1≤8;omega,by show 8 - (i+1)<8 - i;omega,?_⟩
     ((conv=>arg 1;reduce);with_reducible repeat' first | exact ty | refine ta ?_ ?_ | refine ti fun _ => ?_ | refine tf fun _ => ?_ | refine tl ?_)
     all_goals first
      | exact vlf
      | (show ibit .or .u8 (tpK K (bt R) i:Int) (ishl .u8 (ibit .and .u8 (ishr .u8 (R.getD ((((K.D:Int) - 8+(i:Int)).tdiv 8).toNat+0) 0) (((K.D:Int) - 8+(i:Int)).tmod 8)) 1) (i:Int))=(tpK K (bt R) (i+1):Int)
         have hx:0≤R.getD ((K.D - 8+i) / 8) 0∧R.getD ((K.D - 8+i) / 8) 0<256:=bR' _ (getD_mem (by rw [lR];omega))
         rw [eD,q8,m8,zu,za ((K.D - 8+i) / 8),bitI hx (yv _ (by omega))]
         exact tpK_succ K (bt R) (by omega)))
  | (rw [eD,q8];exact inR64 (n:=(((K.D - 8+i) / 8:Nat):Int)) (by omega) (by omega))
  | exact inR64 (n:=(K.D:Int) - 8+(i:Int)) (by omega) (by omega)
  | exact inR64 (n:=(i:Int)+1) (by omega) (by omega)
  | (rw [eD,q8];omega)
  | (rw [eD,m8];omega))
 · have:=mvK_slen K lR hcR
   exact ⟨by show srow cR 1 0+min (nP K) (nP K - 1)≤R.length;omega,by show 0+min (nP K) (nP K - 1)≤R.length;omega⟩
 all_goals try (
  rename_i d0 i hi d e
  change Nat at i
  have e:decide ((0:Int)<(K.D:Int).tmod 8)=_:=e
  rw [d8] at e
  have hsl:=mvK_slen K lR hcR
  have hmv:=mvK_srow K h4 hcR
  first
  | (rw [d8];omega)
  | (refine Stands.one () ⟨trivial,?_⟩
     ((conv=>arg 1;reduce);with_reducible repeat' first | exact ty | refine ta ?_ ?_ | refine ti fun _ => ?_ | refine tf fun _ => ?_ | refine tl ?_)
     all_goals first
      | exact vlf
      | (show (rgK K fun k=>decide (8≤k) && bt R (k - 8))=((R.take (srow cR 1 0) ++ ((R.drop 0).take (min (nP K) (nP K - 1))) ++ R.drop (srow cR 1 0+min (nP K) (nP K - 1))).set 0 0).set (((nP K:Int) - 1).toNat+0) (ibit .and .u8 (((R.take (srow cR 1 0) ++ ((R.drop 0).take (min (nP K) (nP K - 1))) ++ R.drop (srow cR 1 0+min (nP K) (nP K - 1))).set 0 0).getD (((nP K:Int) - 1).toNat+0) 0) (IntKind.u8.wrap (ishl .u8 1 ((K.D:Int).tmod 8) - 1)))
         have e:=ng e
         rw [hmv,d8,mask8 (yv _ (by omega)),show ((nP K:Int) - 1).toNat+0=nP K - 1 by omega]
         exact (mvK_mask K (by omega)).symm)
      | (show (rgK K fun k=>decide (8≤k) && bt R (k - 8))=(R.take (srow cR 1 0) ++ ((R.drop 0).take (min (nP K) (nP K - 1))) ++ R.drop (srow cR 1 0+min (nP K) (nP K - 1))).set 0 0
         have e:=nf e
         rw [hmv]
         exact (mvK_full K (by omega)).symm))
  | (rw [zh];show ((nP K:Int) - 1).toNat+0<(R.take (srow cR 1 0) ++ ((R.drop 0).take (min (nP K) (nP K - 1))) ++ R.drop (srow cR 1 0+min (nP K) (nP K - 1))).length;rw [hsl.1];omega))
 all_goals try (
  rename_i d0 i hi d u hu
  change Nat at i
  have hi:i≤8:=hi
  have d:¬ (i:Int)<8:=nf d
  obtain rfl:i=8:=by omega
  have ht:=tpK_lt K (bt R) (zw 8)
  have hX:=wo (n:=8) ht hx
  have hl:=hT.len
  have ey:ibit .xor .u8 (tpK K (bt R) 8:Int) (x:Int)=((tpK K (bt R) 8 ^^^ x:Nat):Int):=xor8 ht hx
  first
  | (show (0:Int)≤ibit .xor .u8 (tpK K (bt R) 8:Int) (x:Int);rw [ey];omega)
  | (show ibit .xor .u8 (tpK K (bt R) 8:Int) (x:Int)<((256:Nat):Int);rw [ey];omega)
  | (show (ibit .xor .u8 (tpK K (bt R) 8:Int) (x:Int)).toNat<TB.length;rw [ey];omega))
 · rename_i d0 i hi d u hu w hw
   change Nat at i
   have hi:i≤8:=hi
   have d:¬ (i:Int)<8:=nf d
   obtain rfl:i=8:=by omega
   change Rw Int at w
   have d0:¬ (K.D:Int)<8:=nf d0
   have ht:=tpK_lt K (bt R) (zw 8)
   have hX:=wo (n:=8) ht hx
   have ey:ibit .xor .u8 (tpK K (bt R) 8:Int) (x:Int)=((tpK K (bt R) 8 ^^^ x:Nat):Int):=xor8 ht hx
   have hw:TB.getD (ibit .xor .u8 (tpK K (bt R) 8:Int) (x:Int)).toNat Rw.nil=w:=hw
   rw [ey,zu] at hw
   have won:=hT.on _ hX
   have wl:=hT.row _ hX
   rw [hw] at won wl
   have wlen:w.l.length=nP K:=by rw [wl,tbK_len]
   refine Stands.one (0:Nat) ⟨zg _,?_⟩
   ((conv=>arg 1;reduce);with_reducible repeat' first | exact ty | refine ta ?_ ?_ | refine ti fun _ => ?_ | refine tf fun _ => ?_ | refine tl ?_)
   all_goals first | exact vlf | exact xtK_zero K _ _
 all_goals try (
  rename_i d0 i hi d u hu w hw j hj e
  change Nat at i
  have hi:i≤8:=hi
  have d:¬ (i:Int)<8:=nf d
  obtain rfl:i=8:=by omega
  change Rw Int at w
  have d0:¬ (K.D:Int)<8:=nf d0
  have ht:=tpK_lt K (bt R) (zw 8)
  have hX:=wo (n:=8) ht hx
  have ey:ibit .xor .u8 (tpK K (bt R) 8:Int) (x:Int)=((tpK K (bt R) 8 ^^^ x:Nat):Int):=xor8 ht hx
  have hw:TB.getD (ibit .xor .u8 (tpK K (bt R) 8:Int) (x:Int)).toNat Rw.nil=w:=hw
  rw [ey,zu] at hw
  have won:=hT.on _ hX
  have wl:=hT.row _ hX
  rw [hw] at won wl
  have wlen:w.l.length=nP K:=by rw [wl,tbK_len]
  change Nat at j
  have hj:j≤nP K:=hj
  have e:(j:Int)<(w.l.length:Int):=ng e
  first
  | (refine Stands.one (j+1:Nat) ⟨by show j+1≤nP K;omega,by show nP K - (j+1)<nP K - j;omega,?_⟩
     ((conv=>arg 1;reduce);with_reducible repeat' first | exact ty | refine ta ?_ ?_ | refine ti fun _ => ?_ | refine tf fun _ => ?_ | refine tl ?_)
     all_goals first
      | exact vlf
      | (show xtK K (bt R) (tpK K (bt R) 8 ^^^ x) (j+1)=(xtK K (bt R) (tpK K (bt R) 8 ^^^ x) j).set ((j:Int).toNat+0) (ibit .xor .u8 ((xtK K (bt R) (tpK K (bt R) 8 ^^^ x) j).getD ((j:Int).toNat+0) 0) (w.l.getD ((j:Int).toNat+0) 0))
         rw [zu,za j,wl]
         exact (xtK_step K (by omega)).symm))
  | exact won
  | exact e
  | exact inR64 (n:=(j:Int)+1) (by omega) (by omega)
  | (show (j:Int).toNat+0<w.l.length;omega)
  | (show (j:Int)<(nP K:Int);omega)
  | (rw [xtK_len];show (j:Int).toNat+0<nP K;omega))
 · rename_i d0 i hi d u hu w hw j hj e
   change Nat at i
   have hi:i≤8:=hi
   have d:¬ (i:Int)<8:=nf d
   obtain rfl:i=8:=by omega
   change Rw Int at w
   have d0:¬ (K.D:Int)<8:=nf d0
   have ht:=tpK_lt K (bt R) (zw 8)
   have hX:=wo (n:=8) ht hx
   have ey:ibit .xor .u8 (tpK K (bt R) 8:Int) (x:Int)=((tpK K (bt R) 8 ^^^ x:Nat):Int):=xor8 ht hx
   have hw:TB.getD (ibit .xor .u8 (tpK K (bt R) 8:Int) (x:Int)).toNat Rw.nil=w:=hw
   rw [ey,zu] at hw
   have won:=hT.on _ hX
   have wl:=hT.row _ hX
   rw [hw] at won wl
   have wlen:w.l.length=nP K:=by rw [wl,tbK_len]
   change Nat at j
   have hj:j≤nP K:=hj
   have e:¬ (j:Int)<(w.l.length:Int):=nf e
   obtain rfl:j=nP K:=by omega
   have ea:=xtK_all K (R:=R) (by omega) hx
   refine Ends.one () trivial ?_
   ((conv=>arg 1;reduce);with_reducible repeat' first | exact ty | refine ta ?_ ?_ | refine ti fun _ => ?_ | refine tf fun _ => ?_ | refine tl ?_)
   all_goals first | exact vlf | exact ea.symm | (rw [← ea];rfl)
def fcByte:Fc Tryz.prog C0 where
 tg:=.fn 48
 X:=Cr×Int×List (Rw Int)
 args:=fun ((b,q,bR,qR,cR,bL,qL,oL,lo,cL,R),z,TB)=>[.ptr 0 0 0,.sl 1 0 (nP K) cR,.int .u8 z]
 mem:=fun ((b,q,bR,qR,cR,bL,qL,oL,lo,cL,R),z,TB)=>[cdR K b q cL,⟨bR,qR,1,true,none,.rows 5 R⟩,⟨bL,qL,1,false,some oL,.rows 5 lo⟩,⟨b,q+7,1,false,none,.rows 22 TB⟩]
 pre:=fun (s,z,TB)=>Cr.pre K s∧0≤z∧z<256∧TbOK K TB∧nP K≤s.2.2.2.2.1
 alts:=fun ((b,q,bR,qR,cR,bL,qL,oL,lo,cL,R),z,TB)=>[⟨Unit,fun _=>True,fun _=>.tup [],fun _=>[cdR K b q cL,⟨bR,qR,1,true,none,.rows 5 (byK K R z)⟩,⟨bL,qL,1,false,some oL,.rows 5 lo⟩,⟨b,q+7,1,false,none,.rows 22 TB⟩]⟩]
 mat vs m:=match vs with
  | [.ptr k _ _,.sl s _ _ cR,.int _ z]=>match nth m k,nth m s with
    | ⟨b,q,_,_,_,.one (_ :: _ :: _ :: _ :: _ :: _ :: .sl w _ _ cL :: _)⟩,⟨bR,qR,_,_,_,.rows 5 R⟩=>match nth m w with
      | ⟨bL,qL,_,_,g,.rows 5 lo⟩=>match findTail 22 0 m with
        | some u=>match nth m u with
          | ⟨_,_,_,_,_,.rows 22 TB⟩=>some (((b,q,bR,qR,cR,bL,qL,onOf g,lo,cL,R),z,TB),[k,s,w,u])
          | _=>none
        | none=>none
      | _=>none
    | _,_=>none
  | _=>none
 ok:=fun (s,z,TB) h=>by
  obtain ⟨z,rfl⟩:=yh h.2.1
  have h3:((z:Nat):Int)<256:=h.2.2.1
  exact bytewise_ok K s TB z (by omega) h.1 h.2.2.2.1 h.2.2.2.2
end
end
end Go.Vx
namespace Go.Vx
open Go Go.Proofs
noncomputable section
section
variable {F:Gf} (K:Kd F)
@[irreducible] def dvK (P:List Int) (i:Nat):List Int:=rgK K (reg K.D (gK K) (bt P) (8*P.length) (8*i))
@[irreducible] def paK (P:List Int):List Int:=dvK K P P.length
theorem dvK_len (P:List Int) (i:Nat):(dvK K P i).length=nP K:=by unfold dvK;exact rgK_len K _
theorem dvK_self (P:List Int) (i:Nat):dvK K P i=rgK K (bt (dvK K P i)):=by
 unfold dvK
 exact rgK_congr K fun k hk=>(rgK_bt K hk).symm
theorem dvK_zero (P:List Int):dvK K P 0=zo (nP K) 0:=by
 unfold dvK
 rw [rgK_eq,rgB_eq]
 refine byt_ext (by_byt _ _) (fun x hx=>by rw [qa] at hx;omega) (by rw [by_len,xz]) fun k hk => ?_
 rw [by_len] at hk
 rw [by_bt hk,show reg K.D (gK K) (bt P) (8*P.length) (8*0) k=false from rfl,tn]
 unfold bt
 rw [zy,sw]
 split <;> exact (xj _).symm
theorem dvK_succ {P:List Int} {i:Nat} (h:i<P.length):byK K (dvK K P i) (P.getD (P.length - 1 - i) 0)=dvK K P (i+1):=by
 unfold byK btI dvK
 refine rgK_congr K fun k hk => ?_
 rw [show 8*(i+1)=8*i+8 by omega,reg_byte h 8 (zw 8)]
 refine rgs_congr K.D1 (fun j hj=>rgK_bt K hj) (fun j hj => ?_) 8 k hk
 unfold bt
 rw [show (8*(P.length - 1 - i)+j) / 8=P.length - 1 - i by omega,show (8*(P.length - 1 - i)+j) % 8=j by omega]
theorem paK_len (P:List Int):(paK K P).length=nP K:=by unfold paK;exact dvK_len K _ _
theorem paK_byt (P:List Int):Byt8 (paK K P):=by unfold paK dvK;exact rgK_byt K _
theorem paK_bt (P:List Int) (k:Nat):bt (paK K P) k=(decide (k<K.D) && reg K.D (gK K) (bt P) (8*P.length) (8*P.length) k):=by unfold paK dvK;exact rgK_bt' K _ k
end
variable [Gl]
section
variable {F:Gf} (K:Kd F)
abbrev cdA (n b q cL:Nat):Ck C0:=⟨b,q,263,false,none,.one [.junk,.junk,.int .i64 (n:Int),.int .i64 (K.D:Int),.int .i64 (nP K:Int),.junk,.sl 2 0 (nP K) cL]⟩
def Dv5B (P:List Int):Inv' C0:=⟨5,Nat,fun i=>[(9,.int .i64 ((P.length:Int) - 1 - (i:Int)))],fun i m=>match m with
 | [a0,a1,a2,t]=>[a0,a1,a2,⟨t.block,t.base,1,true,none,.rows 5 (dvK K P i)⟩]
 | m=>m,fun i=>i≤P.length,fun i=>P.length - i⟩
section
variable (n b q cL bd qd:Nat) (od:Bool) (ld:List Int) (i0 cd bL qL:Nat) (oL:Bool) (lo:List Int) (P:List Int) (hP:(ld.drop i0).take n=P) (hd:i0+n≤ld.length) (hn:n<100000) (ho:od=false→n=0∧cd=0) (kP:Byt8 P) (hL:nP K≤lo.length) (hlo:lo.take (nP K)=by' (nP K) (gK K)) (hoL:oL=true)
include hP hd hn ho kP hL hlo hoL
set_option maxHeartbeats 8000000 in
theorem divB_ok:Does (C:=C0) Tryz.prog (.fn 47) [cdA K n b q cL,⟨bd,qd,1,false,some od,.rows 5 ld⟩,⟨bL,qL,1,false,some oL,.rows 5 lo⟩] [.ptr 0 0 0,.sl 1 i0 n cd,.fn (.func 54) [.ptr 0 0 0] []]
 [⟨Nat,fun _=>True,fun _=>.tup [.sl 3 0 (nP K) (nP K),.nili],fun y=>[cdA K n b q cL,⟨bd,qd,1,false,some od,.rows 5 ld⟩,⟨bL,qL,1,false,some oL,.rows 5 lo⟩,⟨y,0,1,true,none,.rows 5 (paK K P)⟩]⟩]:=by
 have lP:P.length=n:=by rw [← hP];exact row_len hd
 have pv:∀ j,j<n→ld.getD (j+i0) 0=P.getD j 0:=by rw [← hP];exact row_at
 have n2:=nP_lt K
 have hby:(Tryz.prog.types[5].bytes:Int)=1:=by kernel_rfl
 refine loc_fn (P:=Tryz.prog) (E:=⟨[fcBit K],[],38,[],[],[],none⟩) (L:=[Dv5B K P]) mix Tryz.func47 rfl (by kernel_rfl) (by kernel_rfl) rfl rfl ?_
 ((conv=>arg 1;reduce);with_reducible repeat' first | exact ty | refine ta ?_ ?_ | refine ti fun _ => ?_ | refine tf fun _ => ?_ | refine tl ?_)
 all_goals try exact vlf
 all_goals try (
  exfalso
  rename_i d
  have d:=ng d
  exact d rfl)
 · refine ⟨by omega,by omega,by rw [hby];omega,by omega⟩
 · rename_i g1
   refine Stands.one (0:Nat) ⟨zg _,?_⟩
   ((conv=>arg 1;reduce);with_reducible repeat' first | exact ty | refine ta ?_ ?_ | refine ti fun _ => ?_ | refine tf fun _ => ?_ | refine tl ?_)
   all_goals first
    | exact vlf
    | (show (n:Int) - 1=(P.length:Int) - 1 - ((0:Nat):Int);omega)
    | (show dvK K P 0=zo (nP K) (0:Int);exact dvK_zero K P)
 all_goals try (
  rename_i g1 i hi d
  change Nat at i
  have hi:i≤P.length:=hi
  have d:0≤(P.length:Int) - 1 - (i:Int):=ng d
  have e1:((P.length:Int) - 1 - (i:Int)).toNat=n - 1 - i:=by omega
  have eV:ld.getD (((P.length:Int) - 1 - (i:Int)).toNat+i0) 0=P.getD (P.length - 1 - i) 0:=by rw [e1,pv _ (by omega),lP]
  first
  | exact on_of ho (by omega)
  | exact d
  | (show (P.length:Int) - 1 - (i:Int)<(n:Int);omega)
  | (show ((P.length:Int) - 1 - (i:Int)).toNat+i0<ld.length;omega)
  | (have hb:0≤ld.getD (((P.length:Int) - 1 - (i:Int)).toNat+i0) 0∧ld.getD (((P.length:Int) - 1 - (i:Int)).toNat+i0) 0<256:=by
      rw [eV];exact kP _ (getD_mem (by omega))
     exact ⟨⟨hL,hlo,hoL,dvK_self K P i⟩,hb.1,hb.2⟩))
 all_goals try (
  rename_i g1 i hi d u hu
  change Nat at i
  have hi:i≤P.length:=hi
  have d:0≤(P.length:Int) - 1 - (i:Int):=ng d
  have e1:((P.length:Int) - 1 - (i:Int)).toNat=n - 1 - i:=by omega
  have eV:ld.getD (((P.length:Int) - 1 - (i:Int)).toNat+i0) 0=P.getD (P.length - 1 - i) 0:=by rw [e1,pv _ (by omega),lP]
  first
  | exact inR64 (n:=(P.length:Int) - 1 - (i:Int) - 1) (by omega) (by omega)
  | (refine Stands.one (i+1:Nat) ⟨by show i+1≤P.length;omega,by show P.length - (i+1)<P.length - i;omega,?_⟩
     ((conv=>arg 1;reduce);with_reducible repeat' first | exact ty | refine ta ?_ ?_ | refine ti fun _ => ?_ | refine tf fun _ => ?_ | refine tl ?_)
     all_goals first
      | exact vlf
      | (show (P.length:Int) - 1 - (i:Int) - 1=(P.length:Int) - 1 - ((i+1:Nat):Int);omega)
      | (show dvK K P (i+1)=byK K (dvK K P i) (ld.getD (((P.length:Int) - 1 - (i:Int)).toNat+i0) 0);rw [eV,dvK_succ K (by omega)])))
 · rename_i g1 i hi d
   change Nat at i
   have hi:i≤P.length:=hi
   have d:¬ 0≤(P.length:Int) - 1 - (i:Int):=nf d
   obtain rfl:i=P.length:=by omega
   have e:paK K P=dvK K P P.length:=by unfold paK;rfl
   refine Ends.one g1 trivial ?_
   ((conv=>arg 1;reduce);with_reducible repeat' first | exact ty | refine ta ?_ ?_ | refine ti fun _ => ?_ | refine tf fun _ => ?_ | refine tl ?_)
   all_goals first | exact vlf | exact e | (rw [e];rfl)
end
abbrev DxB:=Nat×Nat×Nat×Nat×Nat×Nat×Bool×List Int×Nat×Nat×Nat×Nat×Bool×List Int
abbrev DxB.pre:DxB→Prop:=fun (n,b,q,cL,bd,qd,od,ld,i0,cd,bL,qL,oL,lo)=>i0+n≤ld.length∧n<100000∧(od=false→n=0∧cd=0)∧Byt8 ((ld.drop i0).take n)∧nP K≤lo.length∧lo.take (nP K)=by' (nP K) (gK K)∧oL=true
def fcDivB:Fc Tryz.prog C0 where
 tg:=.fn 47
 X:=DxB
 args:=fun (n,b,q,cL,bd,qd,od,ld,i0,cd,bL,qL,oL,lo)=>[.ptr 0 0 0,.sl 1 i0 n cd,.fn (.func 54) [.ptr 0 0 0] []]
 mem:=fun (n,b,q,cL,bd,qd,od,ld,i0,cd,bL,qL,oL,lo)=>[cdA K n b q cL,⟨bd,qd,1,false,some od,.rows 5 ld⟩,⟨bL,qL,1,false,some oL,.rows 5 lo⟩]
 pre:=DxB.pre K
 alts:=fun (n,b,q,cL,bd,qd,od,ld,i0,cd,bL,qL,oL,lo)=>[⟨Nat,fun _=>True,fun _=>.tup [.sl 3 0 (nP K) (nP K),.nili],fun y=>[cdA K n b q cL,⟨bd,qd,1,false,some od,.rows 5 ld⟩,⟨bL,qL,1,false,some oL,.rows 5 lo⟩,⟨y,0,1,true,none,.rows 5 (paK K ((ld.drop i0).take n))⟩]⟩]
 mat vs m:=match vs with
  | [.ptr k _ _,.sl s i0 n cd,_]=>match nth m k,nth m s with
    | ⟨b,q,_,_,_,.one (_ :: _ :: _ :: _ :: _ :: _ :: .sl w _ _ cL :: _)⟩,⟨bd,qd,_,_,gd,.rows 5 ld⟩=>match nth m w with
        | ⟨bL,qL,_,_,g,.rows 5 lo⟩=>some ((n,b,q,cL,bd,qd,onOf gd,ld,i0,cd,bL,qL,onOf g,lo),[k,s,w])
        | _=>none
    | _,_=>none
  | _=>none
 ok:=fun (n,b,q,cL,bd,qd,od,ld,i0,cd,bL,qL,oL,lo) h=>divB_ok K n b q cL bd qd od ld i0 cd bL qL oL lo _ rfl h.1 h.2.1 h.2.2.1 h.2.2.2.1 h.2.2.2.2.1 h.2.2.2.2.2.1 h.2.2.2.2.2.2
section
variable (n b q cL bd qd:Nat) (od:Bool) (ld:List Int) (i0 cd bL qL:Nat) (oL:Bool) (lo:List Int) (P:List Int) (hP:(ld.drop i0).take n=P) (hd:i0+n≤ld.length) (hn:n<100000) (ho:od=false→n=0∧cd=0) (kP:Byt8 P) (hL:nP K≤lo.length) (hlo:lo.take (nP K)=by' (nP K) (gK K)) (hoL:oL=true)
include hP hd hn ho kP hL hlo hoL
theorem serial_ok:Does (C:=C0) Tryz.prog (.fn 29) [cdA K n b q cL,⟨bd,qd,1,false,some od,.rows 5 ld⟩,⟨bL,qL,1,false,some oL,.rows 5 lo⟩] [.ptr 0 0 0,.sl 1 i0 n cd]
 [⟨Nat,fun _=>True,fun _=>.tup [.sl 3 0 (nP K) (nP K),.nili],fun y=>[cdA K n b q cL,⟨bd,qd,1,false,some od,.rows 5 ld⟩,⟨bL,qL,1,false,some oL,.rows 5 lo⟩,⟨y,0,1,true,none,.rows 5 (paK K P)⟩]⟩]:=by
 subst hP
 refine loc_fn (P:=Tryz.prog) (E:=⟨[fcDivB K],[],13,[],[],[],none⟩) (L:=[]) mix Tryz.func29 rfl (by kernel_rfl) (by kernel_rfl) rfl rfl ?_
 ((conv=>arg 1;reduce);with_reducible repeat' first | exact ty | refine ta ?_ ?_ | refine ti fun _ => ?_ | refine tf fun _ => ?_ | refine tl ?_)
 all_goals try exact vlf
 · exact ⟨hd,hn,ho,kP,hL,hlo,hoL⟩
 · rename_i y hy
   change Nat at y
   refine Ends.one y trivial ?_
   exact vgo
end
def fcSerial:Fc Tryz.prog C0 where
 tg:=.fn 29
 X:=DxB
 args:=fun (n,b,q,cL,bd,qd,od,ld,i0,cd,bL,qL,oL,lo)=>[.ptr 0 0 0,.sl 1 i0 n cd]
 mem:=fun (n,b,q,cL,bd,qd,od,ld,i0,cd,bL,qL,oL,lo)=>[cdA K n b q cL,⟨bd,qd,1,false,some od,.rows 5 ld⟩,⟨bL,qL,1,false,some oL,.rows 5 lo⟩]
 pre:=DxB.pre K
 alts:=fun (n,b,q,cL,bd,qd,od,ld,i0,cd,bL,qL,oL,lo)=>[⟨Nat,fun _=>True,fun _=>.tup [.sl 3 0 (nP K) (nP K),.nili],fun y=>[cdA K n b q cL,⟨bd,qd,1,false,some od,.rows 5 ld⟩,⟨bL,qL,1,false,some oL,.rows 5 lo⟩,⟨y,0,1,true,none,.rows 5 (paK K ((ld.drop i0).take n))⟩]⟩]
 mat vs m:=match vs with
  | [.ptr k _ _,.sl s i0 n cd]=>match nth m k,nth m s with
    | ⟨b,q,_,_,_,.one (_ :: _ :: _ :: _ :: _ :: _ :: .sl w _ _ cL :: _)⟩,⟨bd,qd,_,_,gd,.rows 5 ld⟩=>match nth m w with
        | ⟨bL,qL,_,_,g,.rows 5 lo⟩=>some ((n,b,q,cL,bd,qd,onOf gd,ld,i0,cd,bL,qL,onOf g,lo),[k,s,w])
        | _=>none
    | _,_=>none
  | _=>none
 ok:=fun (n,b,q,cL,bd,qd,od,ld,i0,cd,bL,qL,oL,lo) h=>serial_ok K n b q cL bd qd od ld i0 cd bL qL oL lo _ rfl h.1 h.2.1 h.2.2.1 h.2.2.2.1 h.2.2.2.2.1 h.2.2.2.2.2.1 h.2.2.2.2.2.2
def Dv5Y (P:List Int):Inv' C0:=⟨5,Nat,fun i=>[(9,.int .i64 ((P.length:Int) - 1 - (i:Int)))],fun i m=>match m with
 | [a0,a1,a2,a3,t]=>[a0,a1,a2,a3,⟨t.block,t.base,1,true,none,.rows 5 (dvK K P i)⟩]
 | m=>m,fun i=>i≤P.length,fun i=>P.length - i⟩
section
variable (n b q cL bd qd:Nat) (od:Bool) (ld:List Int) (i0 cd bL qL:Nat) (oL:Bool) (lo:List Int) (TB:List (Rw Int)) (hT:TbOK K TB) (P:List Int) (hP:(ld.drop i0).take n=P) (hd:i0+n≤ld.length) (hn:n<100000) (ho:od=false→n=0∧cd=0) (kP:Byt8 P) (hL:nP K≤lo.length) (hlo:lo.take (nP K)=by' (nP K) (gK K)) (hoL:oL=true)
include hP hd hn ho kP hL hlo hoL hT
set_option maxHeartbeats 8000000 in
theorem divY_ok:Does (C:=C0) Tryz.prog (.fn 47) [cdA K n b q cL,⟨bd,qd,1,false,some od,.rows 5 ld⟩,⟨bL,qL,1,false,some oL,.rows 5 lo⟩,⟨b,q+7,1,false,none,.rows 22 TB⟩] [.ptr 0 0 0,.sl 1 i0 n cd,.fn (.func 48) [.ptr 0 0 0] []]
 [⟨Nat,fun _=>True,fun _=>.tup [.sl 4 0 (nP K) (nP K),.nili],fun y=>[cdA K n b q cL,⟨bd,qd,1,false,some od,.rows 5 ld⟩,⟨bL,qL,1,false,some oL,.rows 5 lo⟩,⟨b,q+7,1,false,none,.rows 22 TB⟩,⟨y,0,1,true,none,.rows 5 (paK K P)⟩]⟩]:=by
 have lP:P.length=n:=by rw [← hP];exact row_len hd
 have pv:∀ j,j<n→ld.getD (j+i0) 0=P.getD j 0:=by rw [← hP];exact row_at
 have n2:=nP_lt K
 have hby:(Tryz.prog.types[5].bytes:Int)=1:=by kernel_rfl
 refine loc_fn (P:=Tryz.prog) (E:=⟨[fcByte K],[],38,[],[rdB],[],some ⟨86,7,mkB⟩⟩) (L:=[Dv5Y K P]) mix Tryz.func47 rfl (by kernel_rfl) (by kernel_rfl) rfl rfl ?_
 ((conv=>arg 1;reduce);with_reducible repeat' first | exact ty | refine ta ?_ ?_ | refine ti fun _ => ?_ | refine tf fun _ => ?_ | refine tl ?_)
 all_goals try exact vlf
 all_goals try (
  exfalso
  rename_i d
  have d:=ng d
  exact d rfl)
 · refine ⟨by omega,by omega,by rw [hby];omega,by omega⟩
 · rename_i g1
   refine Stands.one (0:Nat) ⟨zg _,?_⟩
   ((conv=>arg 1;reduce);with_reducible repeat' first | exact ty | refine ta ?_ ?_ | refine ti fun _ => ?_ | refine tf fun _ => ?_ | refine tl ?_)
   all_goals first
    | exact vlf
    | (show (n:Int) - 1=(P.length:Int) - 1 - ((0:Nat):Int);omega)
    | (show dvK K P 0=zo (nP K) (0:Int);exact dvK_zero K P)
 all_goals try (
  rename_i g1 i hi d
  change Nat at i
  have hi:i≤P.length:=hi
  have d:0≤(P.length:Int) - 1 - (i:Int):=ng d
  have e1:((P.length:Int) - 1 - (i:Int)).toNat=n - 1 - i:=by omega
  have eV:ld.getD (((P.length:Int) - 1 - (i:Int)).toNat+i0) 0=P.getD (P.length - 1 - i) 0:=by rw [e1,pv _ (by omega),lP]
  first
  | exact on_of ho (by omega)
  | exact d
  | (show (P.length:Int) - 1 - (i:Int)<(n:Int);omega)
  | (show ((P.length:Int) - 1 - (i:Int)).toNat+i0<ld.length;omega)
  | (have hb:0≤ld.getD (((P.length:Int) - 1 - (i:Int)).toNat+i0) 0∧ld.getD (((P.length:Int) - 1 - (i:Int)).toNat+i0) 0<256:=by
      rw [eV];exact kP _ (getD_mem (by omega))
     exact ⟨⟨hL,hlo,hoL,dvK_self K P i⟩,hb.1,hb.2,hT,zw _⟩))
 all_goals try (
  rename_i g1 i hi d u hu
  change Nat at i
  have hi:i≤P.length:=hi
  have d:0≤(P.length:Int) - 1 - (i:Int):=ng d
  have e1:((P.length:Int) - 1 - (i:Int)).toNat=n - 1 - i:=by omega
  have eV:ld.getD (((P.length:Int) - 1 - (i:Int)).toNat+i0) 0=P.getD (P.length - 1 - i) 0:=by rw [e1,pv _ (by omega),lP]
  first
  | exact inR64 (n:=(P.length:Int) - 1 - (i:Int) - 1) (by omega) (by omega)
  | (refine Stands.one (i+1:Nat) ⟨by show i+1≤P.length;omega,by show P.length - (i+1)<P.length - i;omega,?_⟩
     ((conv=>arg 1;reduce);with_reducible repeat' first | exact ty | refine ta ?_ ?_ | refine ti fun _ => ?_ | refine tf fun _ => ?_ | refine tl ?_)
     all_goals first
      | exact vlf
      | (show (P.length:Int) - 1 - (i:Int) - 1=(P.length:Int) - 1 - ((i+1:Nat):Int);omega)
      | (show dvK K P (i+1)=byK K (dvK K P i) (ld.getD (((P.length:Int) - 1 - (i:Int)).toNat+i0) 0);rw [eV,dvK_succ K (by omega)])))
 · rename_i g1 i hi d
   change Nat at i
   have hi:i≤P.length:=hi
   have d:¬ 0≤(P.length:Int) - 1 - (i:Int):=nf d
   obtain rfl:i=P.length:=by omega
   have e:paK K P=dvK K P P.length:=by unfold paK;rfl
   refine Ends.one g1 trivial ?_
   ((conv=>arg 1;reduce);with_reducible repeat' first | exact ty | refine ta ?_ ?_ | refine ti fun _ => ?_ | refine tf fun _ => ?_ | refine tl ?_)
   all_goals first | exact vlf | exact e | (rw [e];rfl)
end
abbrev DxY:=Nat×Nat×Nat×Nat×Nat×Nat×Bool×List Int×Nat×Nat×Nat×Nat×Bool×List Int×List (Rw Int)
abbrev DxY.pre:DxY→Prop:=fun (n,b,q,cL,bd,qd,od,ld,i0,cd,bL,qL,oL,lo,TB)=>i0+n≤ld.length∧n<100000∧(od=false→n=0∧cd=0)∧Byt8 ((ld.drop i0).take n)∧nP K≤lo.length∧lo.take (nP K)=by' (nP K) (gK K)∧oL=true∧TbOK K TB
def fcDivY:Fc Tryz.prog C0 where
 tg:=.fn 47
 X:=DxY
 args:=fun (n,b,q,cL,bd,qd,od,ld,i0,cd,bL,qL,oL,lo,TB)=>[.ptr 0 0 0,.sl 1 i0 n cd,.fn (.func 48) [.ptr 0 0 0] []]
 mem:=fun (n,b,q,cL,bd,qd,od,ld,i0,cd,bL,qL,oL,lo,TB)=>[cdA K n b q cL,⟨bd,qd,1,false,some od,.rows 5 ld⟩,⟨bL,qL,1,false,some oL,.rows 5 lo⟩,⟨b,q+7,1,false,none,.rows 22 TB⟩]
 pre:=DxY.pre K
 alts:=fun (n,b,q,cL,bd,qd,od,ld,i0,cd,bL,qL,oL,lo,TB)=>[⟨Nat,fun _=>True,fun _=>.tup [.sl 4 0 (nP K) (nP K),.nili],fun y=>[cdA K n b q cL,⟨bd,qd,1,false,some od,.rows 5 ld⟩,⟨bL,qL,1,false,some oL,.rows 5 lo⟩,⟨b,q+7,1,false,none,.rows 22 TB⟩,⟨y,0,1,true,none,.rows 5 (paK K ((ld.drop i0).take n))⟩]⟩]
 mat vs m:=match vs with
  | [.ptr k _ _,.sl s i0 n cd,_]=>match nth m k,nth m s with
    | ⟨b,q,_,_,_,.one (_ :: _ :: _ :: _ :: _ :: _ :: .sl w _ _ cL :: _)⟩,⟨bd,qd,_,_,gd,.rows 5 ld⟩=>match nth m w with
        | ⟨bL,qL,_,_,g,.rows 5 lo⟩=>match findTail 22 0 m with
          | some u=>match nth m u with
            | ⟨_,_,_,_,_,.rows 22 TB⟩=>some ((n,b,q,cL,bd,qd,onOf gd,ld,i0,cd,bL,qL,onOf g,lo,TB),[k,s,w,u])
            | _=>none
          | none=>none
        | _=>none
    | _,_=>none
  | _=>none
 ok:=fun (n,b,q,cL,bd,qd,od,ld,i0,cd,bL,qL,oL,lo,TB) h=>divY_ok K n b q cL bd qd od ld i0 cd bL qL oL lo TB h.2.2.2.2.2.2.2 _ rfl h.1 h.2.1 h.2.2.1 h.2.2.2.1 h.2.2.2.2.1 h.2.2.2.2.2.1 h.2.2.2.2.2.2.1
section
variable (n b q cL bd qd:Nat) (od:Bool) (ld:List Int) (i0 cd bL qL:Nat) (oL:Bool) (lo:List Int) (TB:List (Rw Int)) (hT:TbOK K TB) (P:List Int) (hP:(ld.drop i0).take n=P) (hd:i0+n≤ld.length) (hn:n<100000) (ho:od=false→n=0∧cd=0) (kP:Byt8 P) (hL:nP K≤lo.length) (hlo:lo.take (nP K)=by' (nP K) (gK K)) (hoL:oL=true)
include hP hd hn ho kP hL hlo hoL hT
theorem fast_ok:Does (C:=C0) Tryz.prog (.fn 23) [cdA K n b q cL,⟨bd,qd,1,false,some od,.rows 5 ld⟩,⟨bL,qL,1,false,some oL,.rows 5 lo⟩,⟨b,q+7,1,false,none,.rows 22 TB⟩] [.ptr 0 0 0,.sl 1 i0 n cd]
 [⟨Nat,fun _=>True,fun _=>.tup [.sl 4 0 (nP K) (nP K),.nili],fun y=>[cdA K n b q cL,⟨bd,qd,1,false,some od,.rows 5 ld⟩,⟨bL,qL,1,false,some oL,.rows 5 lo⟩,⟨b,q+7,1,false,none,.rows 22 TB⟩,⟨y,0,1,true,none,.rows 5 (paK K P)⟩]⟩]:=by
 subst hP
 refine loc_fn (P:=Tryz.prog) (E:=⟨[fcDivY K],[],13,[],[],[],none⟩) (L:=[]) mix Tryz.func23 rfl (by kernel_rfl) (by kernel_rfl) rfl rfl ?_
 ((conv=>arg 1;reduce);with_reducible repeat' first | exact ty | refine ta ?_ ?_ | refine ti fun _ => ?_ | refine tf fun _ => ?_ | refine tl ?_)
 all_goals try exact vlf
 · exact ⟨hd,hn,ho,kP,hL,hlo,hoL,hT⟩
 · rename_i y hy
   change Nat at y
   refine Ends.one y trivial ?_
   exact vgo
end
def fcFast:Fc Tryz.prog C0 where
 tg:=.fn 23
 X:=DxY
 args:=fun (n,b,q,cL,bd,qd,od,ld,i0,cd,bL,qL,oL,lo,TB)=>[.ptr 0 0 0,.sl 1 i0 n cd]
 mem:=fun (n,b,q,cL,bd,qd,od,ld,i0,cd,bL,qL,oL,lo,TB)=>[cdA K n b q cL,⟨bd,qd,1,false,some od,.rows 5 ld⟩,⟨bL,qL,1,false,some oL,.rows 5 lo⟩,⟨b,q+7,1,false,none,.rows 22 TB⟩]
 pre:=DxY.pre K
 alts:=fun (n,b,q,cL,bd,qd,od,ld,i0,cd,bL,qL,oL,lo,TB)=>[⟨Nat,fun _=>True,fun _=>.tup [.sl 4 0 (nP K) (nP K),.nili],fun y=>[cdA K n b q cL,⟨bd,qd,1,false,some od,.rows 5 ld⟩,⟨bL,qL,1,false,some oL,.rows 5 lo⟩,⟨b,q+7,1,false,none,.rows 22 TB⟩,⟨y,0,1,true,none,.rows 5 (paK K ((ld.drop i0).take n))⟩]⟩]
 mat vs m:=match vs with
  | [.ptr k _ _,.sl s i0 n cd]=>match nth m k,nth m s with
    | ⟨b,q,_,_,_,.one (_ :: _ :: _ :: _ :: _ :: _ :: .sl w _ _ cL :: _)⟩,⟨bd,qd,_,_,gd,.rows 5 ld⟩=>match nth m w with
        | ⟨bL,qL,_,_,g,.rows 5 lo⟩=>match findTail 22 0 m with
          | some u=>match nth m u with
            | ⟨_,_,_,_,_,.rows 22 TB⟩=>some ((n,b,q,cL,bd,qd,onOf gd,ld,i0,cd,bL,qL,onOf g,lo,TB),[k,s,w,u])
            | _=>none
          | none=>none
        | _=>none
    | _,_=>none
  | _=>none
 ok:=fun (n,b,q,cL,bd,qd,od,ld,i0,cd,bL,qL,oL,lo,TB) h=>fast_ok K n b q cL bd qd od ld i0 cd bL qL oL lo TB h.2.2.2.2.2.2.2 _ rfl h.1 h.2.1 h.2.2.1 h.2.2.2.1 h.2.2.2.2.1 h.2.2.2.2.2.1 h.2.2.2.2.2.2.1
end
end
end Go.Vx
namespace Go.Vx
open Go Go.Proofs
noncomputable section
variable [Gl]
theorem loop_toList (b:ByteArray):∀ (k i:Nat) (r:List UInt8),i+k=b.size→ByteArray.toList.loop b i r=r.reverse ++ b.data.toList.drop i:=by
 intro k
 induction k with
 | zero=>
   intro i r h
   rw [ByteArray.toList.loop,if_neg (by omega),List.drop_of_length_le (by rw [qj];show b.size≤i;omega),wx]
 | succ k ih=>
   intro i r h
   rw [ByteArray.toList.loop,if_pos (by omega),ih _ _ (by omega)]
   have hi:i<b.data.toList.length:=by rw [qj];show i<b.size;omega
   rw [List.drop_eq_getElem_cons hi,List.reverse_cons,vx]
   show r.reverse ++ (b.get! i :: _)=_
   congr 2
   have hi2:i<b.data.size:=by rw [← qj];exact hi
   rw [ByteArray.get!,Array.getElem_toList]
   exact getElem!_pos b.data i hi2
theorem toList_data (b:ByteArray):b.toList=b.data.toList:=by
 rw [ByteArray.toList,loop_toList b b.size 0 [] (by omega)];rfl
theorem strOf_toList (l:List Int):(strOf l).toList=l.map fun n=>UInt8.ofNat n.toNat:=by
 rw [toList_data]
 unfold strOf
 suffices ∀ a:ByteArray,(l.foldl (fun r n=>r.push (UInt8.ofNat n.toNat)) a).data.toList=a.data.toList ++ l.map fun n=>UInt8.ofNat n.toNat by
  rw [this];rfl
 induction l with
 | nil=>intro a;simp
 | cons x r ih=>intro a;rw [ut,ih,ByteArray.data_push,Array.toList_push,vw,vx];rfl
theorem u8_inj {a b:Int} (h1:0≤a∧a<256) (h2:0≤b∧b<256) (h:UInt8.ofNat a.toNat=UInt8.ofNat b.toNat):a=b:=by
 have h:=congrArg UInt8.toNat h
 simp only [UInt8.toNat_ofNat'] at h
 omega
theorem map_inj:∀ {a b:List Int},Byt8 a→Byt8 b→a.map (fun n=>UInt8.ofNat n.toNat)=b.map (fun n=>UInt8.ofNat n.toNat)→a=b
 | [],[],_,_,_=>rfl
 | [],_ :: _,_,_,h=>by simp at h
 | _ :: _,[],_,_,h=>by simp at h
 | x :: a,y :: b,h1,h2,h=>by
   simp only [vw,List.cons.injEq] at h
   rw [u8_inj (h1 x xp) (h2 y xp) h.1,map_inj (fun z hz=>h1 z (yw _ hz)) (fun z hz=>h2 z (yw _ hz)) h.2]
theorem str_eq {a b:List Int} (h1:Byt8 a) (h2:Byt8 b):strEq (strOf a) (strOf b)=decide (a=b):=by
 unfold strEq
 rw [strOf_toList,strOf_toList,Bool.eq_iff_iff,beq_iff_eq,decide_eq_true_iff]
 exact ⟨map_inj h1 h2,fun h=>by rw [h]⟩
theorem bytesOf_5 (l:List Int):bytesOf (C0 5) l=l:=by
 unfold bytesOf
 show l.map (fun x=>x)=l
 exact List.map_id' l
@[irreducible] def ieq (a b:List Int):Bool:=decide (a=b)
theorem ieq_iff {a b:List Int}:ieq a b=true↔a=b:=by unfold ieq;exact decide_eq_true_iff
theorem ieq_no {a b:List Int} (h:a≠b):ieq a b=false:=by unfold ieq;exact decide_eq_false h
theorem ieq_yes {a b:List Int} (h:a=b):ieq a b=true:=ieq_iff.2 h
theorem sameBytes_ok (o:Bool) (b q:Nat) (l:List Int) (i n c:Nat) (o2:Bool) (b2 q2:Nat) (l2:List Int) (i2 n2 c2:Nat) (h1:i+n≤l.length) (h2:i2+n2≤l2.length) (ho:o=false→n=0∧c=0) (ho2:o2=false→n2=0∧c2=0) (hb:Byt8 ((l.drop i).take n)) (hb2:Byt8 ((l2.drop i2).take n2)):
 Tells (C:=C0) Tryz.prog (.fn 16) [⟨b,q,1,false,some o,.rows 5 l⟩,⟨b2,q2,1,false,some o2,.rows 5 l2⟩] [.sl 0 i n c,.sl 1 i2 n2 c2] (.bool (.tm (ieq ((l.drop i).take n) ((l2.drop i2).take n2)))):=by
 refine loc_pc (P:=Tryz.prog) (E:=⟨[],[],10,[],[],[],none⟩) (L:=[]) mix Tryz.func16 rfl (by kernel_rfl) (by kernel_rfl) rfl rfl ?_
 ((conv=>arg 1;reduce);with_reducible repeat' first | exact ty | refine ta ?_ ?_ | refine ti fun _ => ?_ | refine tf fun _ => ?_ | refine tl ?_)
 all_goals try exact vlf
 · exact fun h=>⟨(ho h).1,(ho h).1⟩
 · exact ⟨h1,fun x=>⟨x,rfl⟩⟩
 · exact fun h=>⟨(ho2 h).1,(ho2 h).1⟩
 · exact ⟨h2,fun x=>⟨x,rfl⟩⟩
 · show strEq _ _=ieq _ _
   unfold ieq
   rw [bytesOf_5,bytesOf_5]
   exact str_eq hb hb2
def pcSb:Pc Tryz.prog C0 where
 tg:=.fn 16
 X:=(Bool×Nat×Nat×List Int×Nat×Nat×Nat)×(Bool×Nat×Nat×List Int×Nat×Nat×Nat)
 args:=fun ((o,b,q,l,i,n,c),(o2,b2,q2,l2,i2,n2,c2))=>[.sl 0 i n c,.sl 1 i2 n2 c2]
 mem:=fun ((o,b,q,l,i,n,c),(o2,b2,q2,l2,i2,n2,c2))=>[⟨b,q,1,false,some o,.rows 5 l⟩,⟨b2,q2,1,false,some o2,.rows 5 l2⟩]
 pre:=fun ((o,b,q,l,i,n,c),(o2,b2,q2,l2,i2,n2,c2))=>i+n≤l.length∧i2+n2≤l2.length∧(o=false→n=0∧c=0)∧(o2=false→n2=0∧c2=0)∧Byt8 ((l.drop i).take n)∧Byt8 ((l2.drop i2).take n2)
 res:=fun ((o,b,q,l,i,n,c),(o2,b2,q2,l2,i2,n2,c2))=>.bool (.tm (ieq ((l.drop i).take n) ((l2.drop i2).take n2)))
 mat vs m:=match vs with
  | [.sl a i n c,.sl a2 i2 n2 c2]=>match nth m a,nth m a2 with
    | ⟨b,q,_,_,g,.rows 5 l⟩,⟨b2,q2,_,_,g2,.rows 5 l2⟩=>some (((onOf g,b,q,l,i,n,c),(onOf g2,b2,q2,l2,i2,n2,c2)),[a,a2])
    | _,_=>none
  | [.nils,.sl a2 i2 n2 c2]=>match nth m a2 with
    | ⟨b2,q2,_,_,g2,.rows 5 l2⟩=>some (((false,0,0,[],0,0,0),(onOf g2,b2,q2,l2,i2,n2,c2)),[m.length,a2])
    | _=>none
  | [.sl a i n c,.nils]=>match nth m a with
    | ⟨b,q,_,_,g,.rows 5 l⟩=>some (((onOf g,b,q,l,i,n,c),(false,0,0,[],0,0,0)),[a,m.length])
    | _=>none
  | _=>none
 ok:=fun ((o,b,q,l,i,n,c),(o2,b2,q2,l2,i2,n2,c2)) h=>sameBytes_ok o b q l i n c o2 b2 q2 l2 i2 n2 c2 h.1 h.2.1 h.2.2.1 h.2.2.2.1 h.2.2.2.2.1 h.2.2.2.2.2
def Sm {α:Type} (A B:List α) (n:Nat):Inv' C0:=⟨4,Nat,fun i=>[(5,.int .i64 (i:Int))],fun _ m=>m,fun i=>i≤n∧A.take i=B.take i,fun i=>n - i⟩
set_option maxHeartbeats 8000000 in
theorem SameInts_ok (o:Bool) (b q:Nat) (l:List Int) (n c:Nat) (o':Bool) (b' q':Nat) (l':List Int) (n' c':Nat) (h:n≤l.length) (h':n'≤l'.length) (hs:n<140737488355000) (ho:o=false→n=0∧c=0) (ho':o'=false→n'=0∧c'=0):
 Tells (C:=C0) Tryz.prog (.fn 17) [⟨b,q,1,false,some o,.rows 3 l⟩,⟨b',q',1,false,some o',.rows 3 l'⟩] [.sl 0 0 n c,.sl 1 0 n' c'] (.bool (.tm (ieq (l.take n) (l'.take n')))):=by
 refine loc_pc (P:=Tryz.prog) (E:=⟨[],[],29,[],[],[],none⟩) (L:=[Sm (l.take n) (l'.take n') n]) mix Tryz.func17 rfl (by kernel_rfl) (by kernel_rfl) rfl rfl ?_
 ((conv=>arg 1;reduce);with_reducible repeat' first | exact ty | refine ta ?_ ?_ | refine ti fun _ => ?_ | refine tf fun _ => ?_ | refine tl ?_)
 all_goals try exact vlf
 · rename_i h0
   have h0:=ng h0
   refine (ieq_no fun he=>h0 ?_).symm
   have:=congrArg wi he
   rw [tk_len h,tk_len h'] at this
   omega
 · rename_i h0
   refine Stands.one (0:Nat) ⟨⟨zg _,rfl⟩,?_⟩
   exact vgo
 all_goals try (
  rename_i h0 v hv h1
  change Nat at v
  have h0:=nf h0
  have h1:=ng h1
  first
   | (exact on_of ho (by omega))
   | (exact on_of ho' (by omega))
   | (show (v:Int)<(n:Int);omega)
   | (show (v:Int)<(n':Int);omega)
   | (show (v:Int).toNat<l.length;omega)
   | (show (v:Int).toNat<l'.length;omega)
   | (show (v:Int).toNat+0<l.length;omega)
   | (show (v:Int).toNat+0<l'.length;omega))
 · rename_i h0 v hv h1 h2
   change Nat at v
   have h1':=ng h1
   have h0':=nf h0
   refine (ieq_no fun he => ?_).symm
   have hc:=congrArg (fun L:List Int=>L.getD v 0) he
   simp only [tk_get (l:=l) (n:=n) (i:=v) (by omega),tk_get (l:=l') (n:=n') (i:=v) (by omega)] at hc
   have h2:(!decide (l.getD v 0=l'.getD v 0))=true:=h2
   rw [decide_eq_true hc] at h2
   cases h2
 · rename_i h0 v hv h1 h2
   change Nat at v
   have h1':=ng h1
   have h0':=nf h0
   exact inR64 (by show _≤(v:Int)+1;omega) (by show (v:Int)+1≤_;omega)
 · rename_i h0 v hv h1 h2
   change Nat at v
   have h1':=ng h1
   have h0':=nf h0
   have h2:(!decide (l.getD v 0=l'.getD v 0))=false:=h2
   have h2:=ng (by simpa using h2:decide (l.getD v 0=l'.getD v 0)=true)
   refine Stands.one (Nat.succ v) ⟨⟨by show v+1≤n;omega,?_⟩,?_,?_⟩
   · show (l.take n).take (v+1)=(l'.take n').take (v+1)
     rw [take_snoc (d:=0) (by rw [tk_len h];omega),take_snoc (d:=0) (by rw [tk_len h'];omega),tk_get (by omega),tk_get (by omega),h2,hv.2]
   · show n - (v+1)<n - v
     omega
   exact vgo
 · rename_i h0 v hv h1
   change Nat at v
   have h1':=nf h1
   have h0':=nf h0
   have hn:n=n':=by omega
   subst hn
   have he:=hv.2
   have e1:(l.take n).take v=l.take n:=zc (by rw [tk_len h];omega)
   have e2:(l'.take n).take v=l'.take n:=zc (by rw [tk_len h'];omega)
   exact (ieq_yes (e1.symm.trans (he.trans e2))).symm
def pcSameInts:Pc Tryz.prog C0 where
 tg:=.fn 17
 X:=(Bool×Nat×Nat×List Int×Nat×Nat)×(Bool×Nat×Nat×List Int×Nat×Nat)
 args:=fun ((o,b,q,l,n,c),(o',b',q',l',n',c'))=>[.sl 0 0 n c,.sl 1 0 n' c']
 mem:=fun ((o,b,q,l,n,c),(o',b',q',l',n',c'))=>[⟨b,q,1,false,some o,.rows 3 l⟩,⟨b',q',1,false,some o',.rows 3 l'⟩]
 pre:=fun ((o,b,q,l,n,c),(o',b',q',l',n',c'))=>n≤l.length∧n'≤l'.length∧n<140737488355000∧(o=false→n=0∧c=0)∧(o'=false→n'=0∧c'=0)
 res:=fun ((o,b,q,l,n,c),(o',b',q',l',n',c'))=>.bool (.tm (ieq (l.take n) (l'.take n')))
 mat vs m:=match vs with
  | [.sl a 0 n c,.sl a' 0 n' c']=>match nth m a,nth m a' with
    | ⟨b,q,_,_,g,.rows 3 l⟩,⟨b',q',_,_,g',.rows 3 l'⟩=>some (((onOf g,b,q,l,n,c),(onOf g',b',q',l',n',c')),[a,a'])
    | _,_=>none
  | [.nils,.sl a' 0 n' c']=>match nth m a' with
    | ⟨b',q',_,_,g',.rows 3 l'⟩=>some (((false,0,0,[],0,0),(onOf g',b',q',l',n',c')),[m.length,a'])
    | _=>none
  | [.sl a 0 n c,.nils]=>match nth m a with
    | ⟨b,q,_,_,g,.rows 3 l⟩=>some (((onOf g,b,q,l,n,c),(false,0,0,[],0,0)),[a,m.length])
    | _=>none
  | _=>none
 ok:=fun ((o,b,q,l,n,c),(o',b',q',l',n',c')) h=>SameInts_ok o b q l n c o' b' q' l' n' c' h.1 h.2.1 h.2.2.1 h.2.2.2.1 h.2.2.2.2
section
variable {F:Gf} (K:Kd F)
theorem right_ok (n b q cL bd qd:Nat) (od:Bool) (ld:List Int) (i0 cd bL qL:Nat) (oL:Bool) (lo:List Int) (TB:List (Rw Int)) (o2:Bool) (b2 q2:Nat) (l2:List Int) (i2 n2 c2:Nat) (h:DxY.pre K (n,b,q,cL,bd,qd,od,ld,i0,cd,bL,qL,oL,lo,TB)) (h2:i2+n2≤l2.length) (ho2:o2=false→n2=0∧c2=0) (hb:Byt8 ((l2.drop i2).take n2)):
 Tells (C:=C0) Tryz.prog (.fn 26) [cdA K n b q cL,⟨bd,qd,1,false,some od,.rows 5 ld⟩,⟨bL,qL,1,false,some oL,.rows 5 lo⟩,⟨b,q+7,1,false,none,.rows 22 TB⟩,⟨b2,q2,1,false,some o2,.rows 5 l2⟩] [.ptr 0 0 0,.sl 1 i0 n cd,.sl 4 i2 n2 c2] (.bool (.tm (ieq (paK K ((ld.drop i0).take n)) ((l2.drop i2).take n2)))):=by
 refine loc_pc (P:=Tryz.prog) (E:=⟨[fcFast K],[],24,[],[],[],none⟩) (L:=[]) mix Tryz.func26 rfl (by kernel_rfl) (by kernel_rfl) rfl rfl ?_
 ((conv=>arg 1;reduce);with_reducible repeat' first | exact ty | refine ta ?_ ?_ | refine ti fun _ => ?_ | refine tf fun _ => ?_ | refine tl ?_)
 all_goals try exact vlf
 · exact h
 · exact ⟨by rw [paK_len];omega,fun x=>⟨x,rfl⟩⟩
 · exact fun h0=>⟨(ho2 h0).1,(ho2 h0).1⟩
 · exact ⟨h2,fun x=>⟨x,rfl⟩⟩
 · show strEq _ _=ieq _ _
   unfold ieq
   rw [bytesOf_5,bytesOf_5,zm,zc (by rw [paK_len];exact zw _)]
   exact str_eq (paK_byt K _) hb
end
end
end Go.Vx
namespace Go.Vx
open Go Go.Proofs
noncomputable section
@[irreducible] def flB (P:List Int) (z:Nat):List Int:=P.set (z / 8) (ibit .xor .u8 (P.getD (z / 8) 0) ((2 ^ (z % 8):Nat):Int))
theorem flB_len {P:List Int} {z:Nat}:(flB P z).length=P.length:=by unfold flB;rw [zh]
theorem flB_byt {P:List Int} {z:Nat} (h:Byt8 P):Byt8 (flB P z):=by
 unfold flB
 by_cases hz:z / 8<P.length
 · obtain ⟨x,hx,x1,_⟩:=byt_at h hz
   have hp:2 ^ (z % 8)≤2 ^ 7:=zj (by omega) (by omega)
   rw [hx,xor8 x1 (by omega)]
   have:=wo (n:=8) x1 (show 2 ^ (z % 8)<2 ^ 8 by omega)
   exact byt_set h ⟨by omega,by omega⟩
 · rw [List.set_eq_of_length_le (by omega)];exact h
theorem flB_bt {P:List Int} {z k:Nat} (h:Byt8 P) (hz:z<8*P.length):bt (flB P z) k=(bt P k ^^ decide (k=z)):=by
 unfold flB
 obtain ⟨x,hx,x1,x2⟩:=byt_at h (show z / 8<P.length by omega)
 have hp:2 ^ (z % 8)≤2 ^ 7:=zj (by omega) (by omega)
 rw [hx,xor8 x1 (by omega),bt_set (by omega),zu,ww,vy]
 by_cases hk:k / 8=z / 8
 · rw [if_pos hk,x2 _ (yv _ (by omega)),show 8*(z / 8)+k % 8=k by omega,show decide (z % 8=k % 8)=decide (k=z) from decide_eq_decide.2 (by omega)]
 · rw [if_neg hk,decide_eq_false (by omega),Bool.xor_false]
theorem flB_app {P sp:List Int} {z:Nat} (hz:z / 8<P.length):(P ++ sp).set (z / 8) (ibit .xor .u8 ((P ++ sp).getD (z / 8) 0) ((2 ^ (z % 8):Nat):Int))=flB P z ++ sp:=by
 unfold flB
 rw [tu _ _ hz]
 congr 2
 simp only [zy,yx hz]
theorem shl1_8 {s:Nat} (h:s<8):ishl .u8 1 (s:Int)=((2 ^ s:Nat):Int):=by
 have:=shl8 1 s (by omega)
 have hp:2 ^ s≤2 ^ 7:=zj (by omega) (by omega)
 rw [Nat.one_mul,tb (by omega)] at this
 exact this
@[irreducible] def fpD (D:Nat) (P:List Int) (z:Nat):List Int:=if z<D then P else flB P (z - D)
@[irreducible] def fpP (D:Nat) (Q:List Int) (z:Nat):List Int:=if z<D then flB Q z else Q
theorem fpD_lo {D:Nat} {P:List Int} {z:Nat} (h:z<D):fpD D P z=P:=by unfold fpD;rw [if_pos h]
theorem fpD_hi {D:Nat} {P:List Int} {z:Nat} (h:¬ z<D):fpD D P z=flB P (z - D):=by unfold fpD;rw [if_neg h]
theorem fpP_lo {D:Nat} {Q:List Int} {z:Nat} (h:z<D):fpP D Q z=flB Q z:=by unfold fpP;rw [if_pos h]
theorem fpP_hi {D:Nat} {Q:List Int} {z:Nat} (h:¬ z<D):fpP D Q z=Q:=by unfold fpP;rw [if_neg h]
theorem fpD_len {D:Nat} {P:List Int} {z:Nat}:(fpD D P z).length=P.length:=by unfold fpD;split;exact rfl;exact flB_len
theorem fpP_len {D:Nat} {Q:List Int} {z:Nat}:(fpP D Q z).length=Q.length:=by unfold fpP;split;exact flB_len;exact rfl
variable [Gl]
theorem ow_app {L sp:List Int} {n:Nat} (b:Nat) (hl:L.length=n) (hsp:n=0→sp.length=0):Ow L (ye 0 n,b,L ++ sp,n+sp.length):=by
 refine ⟨vj rfl,by show L.length≤n+sp.length;omega,by show n+sp.length≤(L ++ sp).length;rw [zx,hl];exact zw _,fun h0 => ?_⟩
 have h0:ye 0 n=false:=h0
 have:¬ 0<n:=fun h=>by rw [show ye 0 n=true by rw [ui];exact h] at h0;cases h0
 have:=hsp (by omega)
 exact ⟨by omega,by show n+sp.length=0;omega⟩
theorem blt_yes {n:Nat} (h:0<n):ye 0 n=true:=by rw [ui];exact h
abbrev cdS (D n p:Nat) (b q:Nat):Ck C0:=⟨b,q,263,false,none,.one [.junk,.junk,.int .i64 (n:Int),.int .i64 (D:Int),.int .i64 (p:Int)]⟩
set_option maxHeartbeats 8000000 in
theorem flip_ok (D n p b q:Nat) (o1:Bool) (b1 q1:Nat) (l1:List Int) (i1 c1:Nat) (o2:Bool) (b2 q2:Nat) (l2:List Int) (i2 c2:Nat) (z:Nat) (h1:i1+n≤l1.length) (hc1:n≤c1) (ho1:o1=false→n=0∧c1=0) (h2:i2+p≤l2.length) (hc2:p≤c2) (ho2:o2=false→p=0∧c2=0)
 (hn:n<100000) (hp:p<100000) (hD:D≤8*p) (hz:z<8*n+D) (P Q:List Int) (hP:(l1.drop i1).take n=P) (hQ:(l2.drop i2).take p=Q):
 Does (C:=C0) Tryz.prog (.fn 25) [cdS D n p b q,⟨b1,q1,1,false,some o1,.rows 5 l1⟩,⟨b2,q2,1,false,some o2,.rows 5 l2⟩] [.ptr 0 0 0,.sl 1 i1 n c1,.sl 2 i2 p c2,.int .i64 (z:Int)]
  [⟨Os×Os,fun y=>Ow (fpD D P z) y.1∧Ow (fpP D Q z) y.2,fun y=>.tup [.sl 3 0 n y.1.2.2.2,.sl 4 0 p y.2.2.2.2,.nili],fun y=>[cdS D n p b q,⟨b1,q1,1,false,some o1,.rows 5 l1⟩,⟨b2,q2,1,false,some o2,.rows 5 l2⟩,osB true y.1,osB true y.2]⟩]:=by
 have lP:P.length=n:=by rw [← hP];exact row_len h1
 have lQ:Q.length=p:=by rw [← hQ];exact row_len h2
 have hby:Tryz.prog.types[5].bytes=1:=by kernel_rfl
 refine loc_fn (P:=Tryz.prog) (E:=⟨[],[pcCoBits],79,[(7,[],[.p 0,.p 1,.p 2,.p 3,.p 5,.p 6,.p 7,.q 4,.p 8,.p 9,.e 10]),(9,[],[.p 0,.p 1,.p 2,.p 3,.p 5,.p 6,.p 7,.q 4,.p 8,.p 9,.e 10])],[],[],none⟩) (L:=[]) mix Tryz.func25 rfl (by kernel_rfl) (by kernel_rfl) rfl rfl ?_
 ((conv=>arg 1;reduce);with_reducible repeat' first | exact ty | refine ta ?_ ?_ | refine ti fun _ => ?_ | refine tf fun _ => ?_ | refine tl ?_)
 all_goals try exact vlf
 · exfalso
   rename_i d0
   simp [SB.val] at d0
 · exact ⟨by omega,by omega,by omega,by omega⟩
 · exfalso
   rename_i d0 d1
   simp only [yd,decide_eq_true_eq,SB.val] at d1
   omega
 · rw [hby];omega
 · intro h0;have:=ho1 h0;omega
 · rw [hby];omega
 · intro h0;have:=ho2 h0;omega
 all_goals (
  rename_i d0 d1 g1 sp1 hs1 g2 sp2 hs2 d2
  change List Int at sp1
  change List Int at sp2
  have hs1:n=0→sp1.length=0:=hs1
  have hs2:p=0→sp2.length=0:=hs2)
 all_goals try (
  have d2:(z:Int)<(D:Int):=ng d2
  have a8:(z:Int).tdiv 8=((z / 8:Nat):Int):=(yj z 8).symm
  have m8:(z:Int).tmod 8=((z % 8:Nat):Int):=(zb z 8).symm
  have lq:((l2.drop i2).take p ++ sp2).length=p+sp2.length:=by rw [zx,hQ,lQ]
  first
  | exact blt_yes (by omega)
  | (rw [a8];exact inR64 (n:=((z / 8:Nat):Int)) (by omega) (by omega))
  | (show (0:Int)≤(z:Int).tdiv 8;rw [a8];omega)
  | (show (0:Int)≤(z:Int).tmod 8;rw [m8];omega)
  | (show (z:Int).tdiv 8<(p:Int);rw [a8];omega)
  | (show ((z:Int).tdiv 8).toNat+0<((l2.drop i2).take p ++ sp2).length;rw [lq,a8];omega)
  | (have eP:fpD D P z=P:=fpD_lo (by omega)
     have eQ:fpP D Q z=flB Q z:=fpP_lo (by omega)
     refine Ends.one ((ye 0 n,g1,P ++ sp1,n+sp1.length),(ye 0 p,g2,flB Q z ++ sp2,p+sp2.length)) ⟨by rw [eP];exact ow_app g1 lP hs1,by rw [eQ];exact ow_app g2 (by rw [flB_len,lQ]) hs2⟩ ?_
     ((conv=>arg 1;reduce);with_reducible repeat' first | exact ty | refine ta ?_ ?_ | refine ti fun _ => ?_ | refine tf fun _ => ?_ | refine tl ?_)
     all_goals first
      | exact vlf
      | (show P ++ sp1=(l1.drop i1).take n ++ sp1;rw [hP])
      | (show flB Q z ++ sp2=((l2.drop i2).take p ++ sp2).set (((z:Int).tdiv 8).toNat+0) (ibit .xor .u8 (((l2.drop i2).take p ++ sp2).getD (((z:Int).tdiv 8).toNat+0) 0) (ishl .u8 1 ((z:Int).tmod 8)))
         rw [hQ,a8,m8,shl1_8 (by omega),zu,za (z / 8),flB_app (by omega)])))
 all_goals (
  have d2:¬ (z:Int)<(D:Int):=nf d2
  have zD:(z:Int) - (D:Int)=((z - D:Nat):Int):=by omega
  have a8:((z - D:Nat):Int).tdiv 8=(((z - D) / 8:Nat):Int):=(yj (z - D) 8).symm
  have m8:((z - D:Nat):Int).tmod 8=(((z - D) % 8:Nat):Int):=(zb (z - D) 8).symm
  have lp:((l1.drop i1).take n ++ sp1).length=n+sp1.length:=by rw [zx,hP,lP]
  first
  | exact blt_yes (by omega)
  | exact inR64 (n:=(z:Int) - (D:Int)) (by omega) (by omega)
  | (rw [zD,a8];exact inR64 (n:=(((z - D) / 8:Nat):Int)) (by omega) (by omega))
  | (show (0:Int)≤((z:Int) - (D:Int)).tdiv 8;rw [zD,a8];omega)
  | (show (0:Int)≤((z:Int) - (D:Int)).tmod 8;rw [zD,m8];omega)
  | (show ((z:Int) - (D:Int)).tdiv 8<(n:Int);rw [zD,a8];omega)
  | (show (((z:Int) - (D:Int)).tdiv 8).toNat+0<((l1.drop i1).take n ++ sp1).length;rw [lp,zD,a8];omega)
  | (have eP:fpD D P z=flB P (z - D):=fpD_hi (by omega)
     have eQ:fpP D Q z=Q:=fpP_hi (by omega)
     refine Ends.one ((ye 0 n,g1,flB P (z - D) ++ sp1,n+sp1.length),(ye 0 p,g2,Q ++ sp2,p+sp2.length)) ⟨by rw [eP];exact ow_app g1 (by rw [flB_len,lP]) hs1,by rw [eQ];exact ow_app g2 lQ hs2⟩ ?_
     ((conv=>arg 1;reduce);with_reducible repeat' first | exact ty | refine ta ?_ ?_ | refine ti fun _ => ?_ | refine tf fun _ => ?_ | refine tl ?_)
     all_goals first
      | exact vlf
      | (show Q ++ sp2=(l2.drop i2).take p ++ sp2;rw [hQ])
      | (show flB P (z - D) ++ sp1=((l1.drop i1).take n ++ sp1).set ((((z:Int) - (D:Int)).tdiv 8).toNat+0) (ibit .xor .u8 (((l1.drop i1).take n ++ sp1).getD ((((z:Int) - (D:Int)).tdiv 8).toNat+0) 0) (ishl .u8 1 (((z:Int) - (D:Int)).tmod 8)))
         rw [hP,zD,a8,m8,shl1_8 (by omega),zu,za ((z - D) / 8),flB_app (by omega)])))
def fcFlip:Fc Tryz.prog C0 where
 tg:=.fn 25
 X:=(Nat×Nat×Nat×Nat×Nat)×(Bool×Nat×Nat×List Int×Nat×Nat)×(Bool×Nat×Nat×List Int×Nat×Nat)×Int
 args:=fun ((D,n,p,b,q),(o1,b1,q1,l1,i1,c1),(o2,b2,q2,l2,i2,c2),z)=>[.ptr 0 0 0,.sl 1 i1 n c1,.sl 2 i2 p c2,.int .i64 z]
 mem:=fun ((D,n,p,b,q),(o1,b1,q1,l1,i1,c1),(o2,b2,q2,l2,i2,c2),z)=>[cdS D n p b q,⟨b1,q1,1,false,some o1,.rows 5 l1⟩,⟨b2,q2,1,false,some o2,.rows 5 l2⟩]
 pre:=fun ((D,n,p,b,q),(o1,b1,q1,l1,i1,c1),(o2,b2,q2,l2,i2,c2),z)=>(i1+n≤l1.length∧n≤c1∧(o1=false→n=0∧c1=0))∧(i2+p≤l2.length∧p≤c2∧(o2=false→p=0∧c2=0))∧n<100000∧p<100000∧D≤8*p∧0≤z∧z<8*(n:Int)+(D:Int)
 alts:=fun ((D,n,p,b,q),(o1,b1,q1,l1,i1,c1),(o2,b2,q2,l2,i2,c2),z)=>[⟨Os×Os,fun y=>Ow (fpD D ((l1.drop i1).take n) z.toNat) y.1∧Ow (fpP D ((l2.drop i2).take p) z.toNat) y.2,fun y=>.tup [.sl 3 0 n y.1.2.2.2,.sl 4 0 p y.2.2.2.2,.nili],fun y=>[cdS D n p b q,⟨b1,q1,1,false,some o1,.rows 5 l1⟩,⟨b2,q2,1,false,some o2,.rows 5 l2⟩,osB true y.1,osB true y.2]⟩]
 mat vs m:=match vs with
  | [.ptr k _ _,.sl s i1 n c1,.sl t i2 p c2,.int _ z]=>match nth m k,nth m s,nth m t with
    | ⟨b,q,_,_,_,.one (_ :: _ :: _ :: .int _ D :: _)⟩,⟨b1,q1,_,_,g1,.rows 5 l1⟩,⟨b2,q2,_,_,g2,.rows 5 l2⟩=>some (((D.toNat,n,p,b,q),(onOf g1,b1,q1,l1,i1,c1),(onOf g2,b2,q2,l2,i2,c2),z),[k,s,t])
    | _,_,_=>none
  | _=>none
 ok:=fun ((D,n,p,b,q),(o1,b1,q1,l1,i1,c1),(o2,b2,q2,l2,i2,c2),z) h=>by
  obtain ⟨⟨a1,a2,a3⟩,⟨b1',b2',b3⟩,h3,h4,h5,h6,h7⟩:=h
  obtain ⟨z,rfl⟩:=yh h6
  exact flip_ok D n p b q o1 b1 q1 l1 i1 c1 o2 b2 q2 l2 i2 c2 z a1 a2 a3 b1' b2' b3 h3 h4 h5 (by omega) _ _ rfl rfl
end
end Go.Vx
namespace Go.Vx
open Go Go.Proofs
noncomputable section
variable [Gl]
section
variable {F:Gf} (K:Kd F)
theorem an_bit {s j:Nat} (hs:s<8) (hj:j<8):(255 - 2 ^ s:Nat).testBit j=!decide (j=s):=by
 have hp:2 ^ s<2 ^ 8:=Nat.pow_lt_pow_right (by omega) hs
 rw [show 255 - 2 ^ s=2 ^ 8 - (2 ^ s+1) by omega,Nat.testBit_two_pow_sub_succ hp,decide_eq_true hj,zd,vy]
 congr 1
 exact decide_eq_decide.2 ⟨Eq.symm,Eq.symm⟩
theorem gen_len:(nb K.G).length=K.D / 8+1:=by rw [nb_len];unfold nl;rw [K.tp];omega
theorem low_gK (sp:List Int):((nb K.G ++ sp).set (K.D / 8) (ibit .andNot .u8 ((nb K.G ++ sp).getD (K.D / 8) 0) ((2 ^ (K.D % 8):Nat):Int))).take (nP K)=by' (nP K) (gK K):=by
 have hg:=gen_len K
 have hn:nP K=(K.D+7) / 8:=rfl
 obtain ⟨x,hx,x1,x2⟩:=byt_at (nb_byt K.G) (show K.D / 8<(nb K.G).length by omega)
 have hp:2 ^ (K.D % 8)≤2 ^ 7:=zj (by omega) (by omega)
 have e0:(nb K.G ++ sp).getD (K.D / 8) 0=(x:Int):=by
  rw [← hx];simp only [zy,yx (show K.D / 8<(nb K.G).length by omega)]
 rw [e0,an8 x1 (by omega),tu _ _ (by omega),List.take_append_of_le_length (by rw [zh];omega)]
 have hv:(x &&& (255 - 2 ^ (K.D % 8)):Nat)<256:=wh ub x1
 refine byt_ext (fun y hy=>byt_set (nb_byt K.G) ⟨by omega,by omega⟩ y (xu hy)) (by_byt _ _) (by rw [by_len,ze,zh];omega) fun k hk => ?_
 rw [ze,zh] at hk
 have hk:k<8*nP K:=by omega
 rw [by_bt hk]
 have e1:bt (((nb K.G).set (K.D / 8) ((x &&& (255 - 2 ^ (K.D % 8)):Nat):Int)).take (nP K)) k=bt ((nb K.G).set (K.D / 8) ((x &&& (255 - 2 ^ (K.D % 8)):Nat):Int)) k:=by
  unfold bt
  simp only [zy]
  rw [yn (by omega)]
 have eb:∀ k,bt (nb K.G) k=K.G.testBit k:=fun k=>by rw [← byN_bit,byN_nb]
 rw [e1,bt_set (by omega),zu]
 unfold gK
 by_cases h:k / 8=K.D / 8
 · rw [if_pos h,qn,x2 _ (yv _ (by omega)),an_bit (yv _ (by omega)) (yv _ (by omega)),show 8*(K.D / 8)+k % 8=k by omega,eb]
   by_cases hD:k<K.D
   · rw [decide_eq_true hD,decide_eq_false (show ¬ k % 8=K.D % 8 by omega)];simp
   · by_cases hE:k=K.D
     · rw [decide_eq_false hD,decide_eq_true (show k % 8=K.D % 8 by rw [hE])];simp
     · rw [decide_eq_false hD,bl_out (by rw [K.tp];omega)];simp
 · rw [if_neg h,eb]
   by_cases hD:k<K.D
   · rw [decide_eq_true hD,zd]
   · rw [decide_eq_false hD,bl_out (by rw [K.tp];omega)];rfl
theorem rgK_none (x:Nat):rgK K (btI K (fun _=>false) x 0)=zo (nP K) 0:=by
 rw [btI_zero,rgK_eq,rgB_eq]
 refine byt_ext (by_byt _ _) (fun x hx=>by rw [qa] at hx;omega) (by rw [by_len,xz]) fun k hk => ?_
 rw [by_len] at hk
 rw [by_bt hk,tn]
 unfold bt
 rw [zy,sw]
 split <;> exact (xj _).symm
theorem bit64 {i s:Nat} (hi:i<256) (hs:s<8):ibit .and .i64 (ishr .i64 (i:Int) (s:Int)) 1=(((i.testBit s).toNat:Nat):Int):=by
 have h3:i / 2 ^ s≤i:=Nat.div_le_self _ _
 rw [shr8 .i64 i s (show s≤64 by omega)]
 have e:=and64 (a:=i / 2 ^ s) (b:=1) (by omega) (by omega)
 rw [show ibit .and .i64 ((i / 2 ^ s:Nat):Int) 1=((i / 2 ^ s &&& 1:Nat):Int) from e,Nat.and_one_is_mod,Nat.testBit_eq_decide_div_mod_eq]
 by_cases h9:i / 2 ^ s % 2=1
 · rw [decide_eq_true h9,h9];rfl
 · rw [decide_eq_false h9,show i / 2 ^ s % 2=0 by omega];rfl
abbrev tvC (tv:Nat→Value):List SV:=(List.range 256).map fun k=>.val (tv k)
structure TvOK (i:Nat) (tv:Nat→Value) (ys:List (Rw Int)):Prop where
 len:ys.length=i
 on:∀ k,k<i→(ys.getD k Rw.nil).on=true
 row:∀ k,k<i→(ys.getD k Rw.nil).l=tbK K k
 val:∀ k,k<i→tv k=(ys.getD k Rw.nil).val
def Nw19:Inv' C0:=⟨19,Nat×(Nat→Value)×List (Rw Int),fun x=>[(115,.int .i64 (x.1:Int))],fun x m=>match m with
 | ⟨bc,qc,_,_,_,.one (a0 :: a1 :: a2 :: a3 :: a4 :: a5 :: a6 :: _)⟩ :: g :: f :: xx :: l :: ge :: d :: lo :: _=>
   [⟨bc,qc,263,true,none,.one (a0 :: a1 :: a2 :: a3 :: a4 :: a5 :: a6 :: tvC x.2.1)⟩,⟨0,0,1,false,some false,.rows 22 x.2.2⟩,f,xx,l,ge,d,lo]
 | m=>m,fun x=>x.1≤256∧TvOK K x.1 x.2.1 x.2.2,fun x=>256 - x.1⟩
def Nw23:Inv' C0:=⟨23,Nat×Nat,fun x=>[(115,.int .i64 (x.1:Int)),(11,.int .i64 (x.1:Int)),(13,.int .i64 (7 - (x.2:Int)))],fun x m=>match m with
 | c :: g :: f :: xx :: l :: ge :: d :: lo :: r :: _=>[c,g,f,xx,l,ge,d,lo,⟨r.block,r.base,1,true,none,.rows 5 (rgK K (btI K (fun _=>false) x.1 x.2))⟩]
 | m=>m,fun x=>x.1<256∧x.2≤8,fun x=>8 - x.2⟩
set_option maxHeartbeats 16000000 in
theorem cnew_ok (n:Nat) (h1:1≤n) (h2:n≤2048) (h3:8*n+K.D≤nF F):
 Does (C:=C0) Tryz.prog (.fn 27) [] [.int .i64 (F.m:Int),.int .i64 (K.t:Int),.int .i64 (n:Int)]
  [⟨(Nat×(Nat×Nat×Nat)×Os×(Nat×Nat×List Int×Nat))×(Nat→Value)×List (Rw Int),fun y=>TvOK K 256 y.2.1 y.2.2∧nP K≤y.1.2.2.2.2.2.1.length∧y.1.2.2.2.2.2.1.take (nP K)=by' (nP K) (gK K),
    fun _=>.tup [.ptr 0 0 0,.nili],
    fun y=>[⟨y.1.1,0,263,true,none,.one (.ptr 2 0 0 :: .int .i64 (K.t:Int) :: .int .i64 (n:Int) :: .int .i64 (K.D:Int) :: .int .i64 (nP K:Int) :: .sl 5 0 (nb K.G).length y.1.2.2.1.2.2.2 :: .sl 6 0 (nP K) y.1.2.2.2.2.2.2 :: tvC y.2.1)⟩,⟨0,0,1,false,some false,.rows 22 y.2.2⟩,
     ⟨y.1.2.1.1,0,4,true,none,.one [.int .i64 (F.m:Int),.int .i64 (szF F:Int),.sl 3 0 (nF F) (nF F),.sl 4 0 (szF F) (szF F)]⟩,⟨y.1.2.1.2.1,0,1,true,none,.rows 3 (xT F)⟩,⟨y.1.2.1.2.2,0,1,true,none,.rows 3 (lT F)⟩,osB true y.1.2.2.1,
     ⟨y.1.2.2.2.1,y.1.2.2.2.2.1,1,true,none,.rows 5 y.1.2.2.2.2.2.1⟩]⟩]:=by
 obtain ⟨hs,h7,hh⟩:=nF_sz F
 have es:=shl_sz F
 have e1:(szF F:Int) - 1=(nF F:Int):=by omega
 have n1:=nP_pos K
 have n2:=nP_lt K
 have nD:nP K=(K.D+7) / 8:=rfl
 have D1:=K.D1
 have by5:(Tryz.prog.types[5].bytes:Int)=1:=by kernel_rfl
 have by5':Tryz.prog.types[5].bytes=1:=by kernel_rfl
 have q7:((K.D:Int)+7).tdiv 8=(nP K:Int):=by
  rw [show (K.D:Int)+7=((K.D+7:Nat):Int) by omega];exact (yj _ 8).symm
 have q8:(K.D:Int).tdiv 8=((K.D / 8:Nat):Int):=(yj _ 8).symm
 have m8:(K.D:Int).tmod 8=((K.D % 8:Nat):Int):=(zb _ 8).symm
 have gl:=gen_len K
 refine loc_fn (P:=Tryz.prog) (E:=⟨[fcLeast K,fcFNew F,fcGen K,fcCShift K],[],142,[(15,[0],[.p 0,.p 1,.p 2,.p 3,.p 7,.p 8,.p 9,.p 4,.p 5,.p 10,.e 6,.e 11,.p 12,.p 13,.f 14]),(16,[],[.p 0,.p 1,.p 2,.p 4,.p 5,.p 8,.p 9,.p 10,.q 3,.p 6,.q 7,.p 11,.p 12,.e 13]),(17,[],[.p 0,.p 1,.p 2,.p 3,.p 5,.p 6,.p 7,.q 4,.q 8,.p 9,.p 10,.p 11,.e 12])],[],[],some ⟨86,7,mkB⟩⟩) (L:=[Nw19 K,Nw23 K]) mix Tryz.func27 rfl (by kernel_rfl) (by kernel_rfl) rfl rfl ?_
 ((conv=>arg 1;reduce);with_reducible repeat' first | exact ty | refine ta ?_ ?_ | refine ti fun _ => ?_ | refine tf fun _ => ?_ | refine tl ?_)
 all_goals try exact vlf
 · exfalso
   rename_i u hu d0
   simp only [yd,decide_eq_true_eq,SB.val] at d0
   omega
 · exfalso
   rename_i u hu d0 d1
   rw [es,e1] at d1
   have d1:=ng d1
   omega
 · rw [q7,by5];omega
 · rename_i u hu d0 d1 bc fn hfn ge hge g1
   change Os at ge
   have hge:Ow (nb K.G) ge:=hge
   have v1:=hge.cap
   have v2:=hge.len
   rw [q7,by5']
   simp only [xz]
   show 0≤((nP K:Int)+1).toNat∧0+((nP K:Int)+1).toNat≤((nP K:Int)+1).toNat∧0+(nb K.G).length≤ge.2.2.1.length∧(0+(nb K.G).length)*1≤140737488355328
   omega
 · rename_i u hu d0 d1 bc fn hfn ge hge g1
   change Os at ge
   have hge:Ow (nb K.G) ge:=hge
   intro h0
   have:=hge.nil h0
   exact ⟨this.1,this.1⟩
 iterate 2 (focus
  rename_i u hu d0 d1 bc fn hfn ge hge g1 g2 g3 sp k w1 w2
  change Os at ge
  change List Int at sp
  have hge:Ow (nb K.G) ge:=hge
  have w1:(0:Int).toNat+(nb K.G).length≤k:=w1
  have w2:k≤(0:Int).toNat+(nb K.G).length+sp.length:=w2
  have w1:(nb K.G).length≤k:=by have e:(0:Int).toNat=0:=rfl;omega
  have w2:k≤(nb K.G).length+sp.length:=by have e:(0:Int).toNat=0:=rfl;omega
  have eg:(ge.2.2.1.drop 0).take (nb K.G).length=nb K.G:=hge.eq
  show ((K.D:Int).tdiv 8).toNat+0<(((zo (((K.D:Int)+7).tdiv 8+1).toNat (0:Int)).drop 0).take 0 ++ (ge.2.2.1.drop 0).take (nb K.G).length ++ sp).length
  rw [eg,sf,rz,zx,q8];omega)
 · rename_i u hu d0 d1 bc fn hfn ge hge g1 g2 g3 sp k w1 w2
   change Os at ge
   change List Int at sp
   have hge:Ow (nb K.G) ge:=hge
   have w1:(0:Int).toNat+(nb K.G).length≤k:=w1
   have w2:k≤(0:Int).toNat+(nb K.G).length+sp.length:=w2
   have w1:(nb K.G).length≤k:=by have e:(0:Int).toNat=0:=rfl;omega
   have w2:k≤(nb K.G).length+sp.length:=by have e:(0:Int).toNat=0:=rfl;omega
   have eg:(ge.2.2.1.drop 0).take (nb K.G).length=nb K.G:=hge.eq
   obtain ⟨lo,hlo⟩:∃ lo,lo=(nb K.G ++ sp).set (K.D / 8) (ibit .andNot .u8 ((nb K.G ++ sp).getD (K.D / 8) 0) ((2 ^ (K.D % 8):Nat):Int)):=⟨_,rfl⟩
   have elo:((((zo (((K.D:Int)+7).tdiv 8+1).toNat (0:Int)).drop 0).take 0 ++ (ge.2.2.1.drop 0).take (nb K.G).length ++ sp).set (((K.D:Int).tdiv 8).toNat+0) (ibit .andNot .u8 ((((zo (((K.D:Int)+7).tdiv 8+1).toNat (0:Int)).drop 0).take 0 ++ (ge.2.2.1.drop 0).take (nb K.G).length ++ sp).getD (((K.D:Int).tdiv 8).toNat+0) 0) (ishl .u8 1 ((K.D:Int).tmod 8))))=lo:=by
    rw [hlo,eg,q8,m8,zu,shl1_8 (yv _ (by omega))]
    rfl
   have tlo:lo.take (nP K)=by' (nP K) (gK K):=by rw [hlo];exact low_gK K sp
   have llo:nP K≤lo.length:=by rw [hlo,zh,zx];omega
   refine Stands.one ((0,(fun _=>.slice none 0 0),[]):Nat×(Nat→Value)×List (Rw Int)) ⟨⟨zg _,⟨rfl,fun k hk=>absurd hk (xi k),fun k hk=>absurd hk (xi k),fun k hk=>absurd hk (xi k)⟩⟩,?_⟩
   exact vgo
 · rw [q7,by5];omega
 · rename_i u hu d0 d1 bc fn hfn ge hge g1 g2 g3 sp k w1 w2 x hx d r
   change Os at ge
   change List Int at sp
   have hge:Ow (nb K.G) ge:=hge
   have w1:(0:Int).toNat+(nb K.G).length≤k:=w1
   have w2:k≤(0:Int).toNat+(nb K.G).length+sp.length:=w2
   have w1:(nb K.G).length≤k:=by have e:(0:Int).toNat=0:=rfl;omega
   have w2:k≤(nb K.G).length+sp.length:=by have e:(0:Int).toNat=0:=rfl;omega
   have eg:(ge.2.2.1.drop 0).take (nb K.G).length=nb K.G:=hge.eq
   obtain ⟨lo,hlo⟩:∃ lo,lo=(nb K.G ++ sp).set (K.D / 8) (ibit .andNot .u8 ((nb K.G ++ sp).getD (K.D / 8) 0) ((2 ^ (K.D % 8):Nat):Int)):=⟨_,rfl⟩
   have elo:((((zo (((K.D:Int)+7).tdiv 8+1).toNat (0:Int)).drop 0).take 0 ++ (ge.2.2.1.drop 0).take (nb K.G).length ++ sp).set (((K.D:Int).tdiv 8).toNat+0) (ibit .andNot .u8 ((((zo (((K.D:Int)+7).tdiv 8+1).toNat (0:Int)).drop 0).take 0 ++ (ge.2.2.1.drop 0).take (nb K.G).length ++ sp).getD (((K.D:Int).tdiv 8).toNat+0) 0) (ishl .u8 1 ((K.D:Int).tmod 8))))=lo:=by
    rw [hlo,eg,q8,m8,zu,shl1_8 (yv _ (by omega))]
    rfl
   have tlo:lo.take (nP K)=by' (nP K) (gK K):=by rw [hlo];exact low_gK K sp
   have llo:nP K≤lo.length:=by rw [hlo,zh,zx];omega
   change Nat×(Nat→Value)×List (Rw Int) at x
   obtain ⟨i,tv,ys⟩:=x
   obtain ⟨k1,k2⟩:i≤256∧TvOK K i tv ys:=hx
   have d:(i:Int)<256:=ng d
   refine Stands.one ((i,0):Nat×Nat) ⟨⟨by show i<256;omega,zg _⟩,?_⟩
   ((conv=>arg 1;reduce);with_reducible repeat' first | exact ty | refine ta ?_ ?_ | refine ti fun _ => ?_ | refine tf fun _ => ?_ | refine tl ?_)
   all_goals first
    | exact vlf
    | (show rgK K (btI K (fun _=>false) i 0)=zo (((K.D:Int)+7).tdiv 8).toNat (0:Int);rw [rgK_none,q7,zu])
 · rename_i u hu d0 d1 bc fn hfn ge hge g1 g2 g3 sp k w1 w2 x hx d r z hz e1 e2 d2
   exact ng d2
 · rename_i u hu d0 d1 bc fn hfn ge hge g1 g2 g3 sp k w1 w2 x hx d r z hz e1 e2 d2
   change Os at ge
   change List Int at sp
   have hge:Ow (nb K.G) ge:=hge
   have w1:(0:Int).toNat+(nb K.G).length≤k:=w1
   have w2:k≤(0:Int).toNat+(nb K.G).length+sp.length:=w2
   have w1:(nb K.G).length≤k:=by have e:(0:Int).toNat=0:=rfl;omega
   have w2:k≤(nb K.G).length+sp.length:=by have e:(0:Int).toNat=0:=rfl;omega
   have eg:(ge.2.2.1.drop 0).take (nb K.G).length=nb K.G:=hge.eq
   obtain ⟨lo,hlo⟩:∃ lo,lo=(nb K.G ++ sp).set (K.D / 8) (ibit .andNot .u8 ((nb K.G ++ sp).getD (K.D / 8) 0) ((2 ^ (K.D % 8):Nat):Int)):=⟨_,rfl⟩
   have elo:((((zo (((K.D:Int)+7).tdiv 8+1).toNat (0:Int)).drop 0).take 0 ++ (ge.2.2.1.drop 0).take (nb K.G).length ++ sp).set (((K.D:Int).tdiv 8).toNat+0) (ibit .andNot .u8 ((((zo (((K.D:Int)+7).tdiv 8+1).toNat (0:Int)).drop 0).take 0 ++ (ge.2.2.1.drop 0).take (nb K.G).length ++ sp).getD (((K.D:Int).tdiv 8).toNat+0) 0) (ishl .u8 1 ((K.D:Int).tmod 8))))=lo:=by
    rw [hlo,eg,q8,m8,zu,shl1_8 (yv _ (by omega))]
    rfl
   have tlo:lo.take (nP K)=by' (nP K) (gK K):=by rw [hlo];exact low_gK K sp
   have llo:nP K≤lo.length:=by rw [hlo,zh,zx];omega
   change Nat×(Nat→Value)×List (Rw Int) at x
   obtain ⟨i,tv,ys⟩:=x
   obtain ⟨k1,k2⟩:i≤256∧TvOK K i tv ys:=hx
   have d:(i:Int)<256:=ng d
   change Nat×Nat at z
   obtain ⟨i',j⟩:=z
   obtain ⟨z1,z2⟩:i'<256∧j≤8:=hz
   have e1:(i:Int)=(i':Int):=e1
   obtain rfl:i=i':=by omega
   have d2:(0:Int)≤7 - (j:Int):=ng d2
   have ev:ibit .and .i64 (ishr .i64 (i:Int) (7 - (j:Int))) 1=(((i.testBit (7 - j)).toNat:Nat):Int):=by
    rw [show (7:Int) - (j:Int)=((7 - j:Nat):Int) by omega];exact bit64 z1 (by omega)
   have hb:=ul (i.testBit (7 - j))
   refine ⟨⟨?_,?_,rfl,rgK_congr K fun k hk=>(rgK_bt K hk).symm⟩,?_,?_⟩
   · show nP K≤wi (List.set _ _ _)
     have e:=elo
     rw [← e] at llo
     exact llo
   · show List.take (nP K) (List.set _ _ _)=_
     have e:=elo
     rw [← e] at tlo
     exact tlo
   · show 0≤ibit .and .i64 (ishr .i64 (i:Int) (7 - (j:Int))) 1
     rw [ev];omega
   · show ibit .and .i64 (ishr .i64 (i:Int) (7 - (j:Int))) 1≤1
     rw [ev];omega
 · rename_i u hu d0 d1 bc fn hfn ge hge g1 g2 g3 sp k w1 w2 x hx d r z hz e1 e2 d2 v hv
   change Nat×(Nat→Value)×List (Rw Int) at x
   obtain ⟨i,tv,ys⟩:=x
   obtain ⟨k1,k2⟩:i≤256∧TvOK K i tv ys:=hx
   have d:(i:Int)<256:=ng d
   change Nat×Nat at z
   obtain ⟨i',j⟩:=z
   obtain ⟨z1,z2⟩:i'<256∧j≤8:=hz
   have e1:(i:Int)=(i':Int):=e1
   obtain rfl:i=i':=by omega
   have d2:(0:Int)≤7 - (j:Int):=ng d2
   have ev:ibit .and .i64 (ishr .i64 (i:Int) (7 - (j:Int))) 1=(((i.testBit (7 - j)).toNat:Nat):Int):=by
    rw [show (7:Int) - (j:Int)=((7 - j:Nat):Int) by omega];exact bit64 z1 (by omega)
   exact inR64 (n:=7 - (j:Int) - 1) (by omega) (by omega)
 · rename_i u hu d0 d1 bc fn hfn ge hge g1 g2 g3 sp k w1 w2 x hx d r z hz e1 e2 d2 v hv
   change Nat×(Nat→Value)×List (Rw Int) at x
   obtain ⟨i,tv,ys⟩:=x
   obtain ⟨k1,k2⟩:i≤256∧TvOK K i tv ys:=hx
   have d:(i:Int)<256:=ng d
   change Nat×Nat at z
   obtain ⟨i',j⟩:=z
   obtain ⟨z1,z2⟩:i'<256∧j≤8:=hz
   have e1:(i:Int)=(i':Int):=e1
   obtain rfl:i=i':=by omega
   have d2:(0:Int)≤7 - (j:Int):=ng d2
   have ev:ibit .and .i64 (ishr .i64 (i:Int) (7 - (j:Int))) 1=(((i.testBit (7 - j)).toNat:Nat):Int):=by
    rw [show (7:Int) - (j:Int)=((7 - j:Nat):Int) by omega];exact bit64 z1 (by omega)
   have hd:decide (ibit .and .i64 (ishr .i64 (i:Int) (7 - (j:Int))) 1=1)=i.testBit (7 - j):=by
    rw [ev]
    cases i.testBit (7 - j) <;> rfl
   refine Stands.one ((i,j+1):Nat×Nat) ⟨⟨z1,by show j+1≤8;omega⟩,by show 8 - (j+1)<8 - j;omega,?_⟩
   ((conv=>arg 1;reduce);with_reducible repeat' first | exact ty | refine ta ?_ ?_ | refine ti fun _ => ?_ | refine tf fun _ => ?_ | refine tl ?_)
   all_goals first
    | exact vlf
    | (show 7 - (j:Int) - 1=7 - ((j+1:Nat):Int);omega)
    | (show rgK K (btI K (fun _=>false) i (j+1))=rgK K (shf K.D (gK K) (bt (rgK K (btI K (fun _=>false) i j))) (decide (ibit .and .i64 (ishr .i64 (i:Int) (7 - (j:Int))) 1=1)));rw [hd,btI_succ])
 · rename_i u hu d0 d1 bc fn hfn ge hge g1 g2 g3 sp k w1 w2 x hx d r z hz e1 e2 d2
   change Nat×(Nat→Value)×List (Rw Int) at x
   obtain ⟨i,tv,ys⟩:=x
   obtain ⟨k1,k2⟩:i≤256∧TvOK K i tv ys:=hx
   have d:(i:Int)<256:=ng d
   change Nat×Nat at z
   obtain ⟨i',j⟩:=z
   obtain ⟨z1,z2⟩:i'<256∧j≤8:=hz
   have e1:(i:Int)=(i':Int):=e1
   obtain rfl:i=i':=by omega
   show (i:Int)<((256:Nat):Int);omega
 · rename_i u hu d0 d1 bc fn hfn ge hge g1 g2 g3 sp k w1 w2 x hx d r z hz e1 e2 d2
   change Nat×(Nat→Value)×List (Rw Int) at x
   obtain ⟨i,tv,ys⟩:=x
   obtain ⟨k1,k2⟩:i≤256∧TvOK K i tv ys:=hx
   have d:(i:Int)<256:=ng d
   change Nat×Nat at z
   obtain ⟨i',j⟩:=z
   obtain ⟨z1,z2⟩:i'<256∧j≤8:=hz
   have e1:(i:Int)=(i':Int):=e1
   obtain rfl:i=i':=by omega
   show i+(0+7)<263;omega
 · rw [q7,rgK_len,zu]
 · rename_i u hu d0 d1 bc fn hfn ge hge g1 g2 g3 sp k w1 w2 x hx d r z hz e1 e2 d2
   change Nat×(Nat→Value)×List (Rw Int) at x
   obtain ⟨i,tv,ys⟩:=x
   obtain ⟨k1,k2⟩:i≤256∧TvOK K i tv ys:=hx
   have d:(i:Int)<256:=ng d
   change Nat×Nat at z
   obtain ⟨i',j⟩:=z
   obtain ⟨z1,z2⟩:i'<256∧j≤8:=hz
   have e1:(i:Int)=(i':Int):=e1
   obtain rfl:i=i':=by omega
   exact inR64 (n:=(i:Int)+1) (by omega) (by omega)
 · rename_i u hu d0 d1 bc fn hfn ge hge g1 g2 g3 sp k w1 w2 x hx d r z hz e1 e2 d2
   change Nat×(Nat→Value)×List (Rw Int) at x
   obtain ⟨i,tv,ys⟩:=x
   obtain ⟨k1,k2⟩:i≤256∧TvOK K i tv ys:=hx
   have d:(i:Int)<256:=ng d
   change Nat×Nat at z
   obtain ⟨i',j⟩:=z
   obtain ⟨z1,z2⟩:i'<256∧j≤8:=hz
   have e1:(i:Int)=(i':Int):=e1
   obtain rfl:i=i':=by omega
   have d2:¬ (0:Int)≤7 - (j:Int):=nf d2
   obtain rfl:j=8:=by omega
   change Nat at r
   obtain ⟨rw',hrw⟩:∃ rw':Rw Int,rw'=⟨true,r,0,(((K.D:Int)+7).tdiv 8).toNat,rgK K (btI K (fun _=>false) i 8)⟩:=⟨_,rfl⟩
   refine Stands.one ((i+1,(fun k=>bif zi (7+k) (i+7) then .slice (some ⟨r,0,none⟩) (((K.D:Int)+7).tdiv 8).toNat (((K.D:Int)+7).tdiv 8).toNat else tv k),ys ++ [⟨true,r,0,(((K.D:Int)+7).tdiv 8).toNat,rgK K (btI K (fun _=>false) i 8)⟩]):Nat×(Nat→Value)×List (Rw Int)) ⟨⟨by show i+1≤256;omega,?_⟩,by show 256 - (i+1)<256 - i;omega,?_⟩
   · show TvOK K (i+1) _ _
     rw [← hrw]
     have ge1:∀ u,u<i→(ys ++ [rw']).getD u Rw.nil=ys.getD u Rw.nil:=fun u hu=>by
      simp only [zy,yx (show u<ys.length by rw [k2.len];exact hu)]
     have ge2:(ys ++ [rw']).getD i Rw.nil=rw':=by
      rw [zy,xr (by rw [k2.len];exact zw _),k2.len,qo];rfl
     refine ⟨by rw [zx,k2.len];rfl,fun u hu => ?_,fun u hu => ?_,fun u hu => ?_⟩
     · by_cases hi:u=i
       · rw [hi,ge2,hrw]
       · rw [ge1 u (by omega)];exact k2.on u (by omega)
     · by_cases hi:u=i
       · rw [hi,ge2,hrw];unfold tbK;rfl
       · rw [ge1 u (by omega)];exact k2.row u (by omega)
     · by_cases hi:u=i
       · have eb:zi (7+u) (i+7)=true:=by rw [hi,Nat.add_comm];exact Nat.beq_refl _
         show (bif zi (7+u) (i+7) then _ else _)=_
         rw [eb,hi,ge2,hrw]
         show Value.slice _ _ _=Value.slice _ _ _
         rw [rgK_len,q7,zu]
       · have eb:zi (7+u) (i+7)=false:=Bool.eq_false_iff.2 fun h=>by have:=Nat.eq_of_beq_eq_true h;omega
         show (bif zi (7+u) (i+7) then _ else _)=_
         rw [eb,ge1 u (by omega)]
         exact k2.val u (by omega)
   exact vgo
 · rename_i u hu d0 d1 bc fn hfn ge hge g1 g2 g3 sp k w1 w2 x hx d
   change Os at ge
   change List Int at sp
   have hge:Ow (nb K.G) ge:=hge
   have w1:(0:Int).toNat+(nb K.G).length≤k:=w1
   have w2:k≤(0:Int).toNat+(nb K.G).length+sp.length:=w2
   have w1:(nb K.G).length≤k:=by have e:(0:Int).toNat=0:=rfl;omega
   have w2:k≤(nb K.G).length+sp.length:=by have e:(0:Int).toNat=0:=rfl;omega
   have eg:(ge.2.2.1.drop 0).take (nb K.G).length=nb K.G:=hge.eq
   obtain ⟨lo,hlo⟩:∃ lo,lo=(nb K.G ++ sp).set (K.D / 8) (ibit .andNot .u8 ((nb K.G ++ sp).getD (K.D / 8) 0) ((2 ^ (K.D % 8):Nat):Int)):=⟨_,rfl⟩
   have elo:((((zo (((K.D:Int)+7).tdiv 8+1).toNat (0:Int)).drop 0).take 0 ++ (ge.2.2.1.drop 0).take (nb K.G).length ++ sp).set (((K.D:Int).tdiv 8).toNat+0) (ibit .andNot .u8 ((((zo (((K.D:Int)+7).tdiv 8+1).toNat (0:Int)).drop 0).take 0 ++ (ge.2.2.1.drop 0).take (nb K.G).length ++ sp).getD (((K.D:Int).tdiv 8).toNat+0) 0) (ishl .u8 1 ((K.D:Int).tmod 8))))=lo:=by
    rw [hlo,eg,q8,m8,zu,shl1_8 (yv _ (by omega))]
    rfl
   have tlo:lo.take (nP K)=by' (nP K) (gK K):=by rw [hlo];exact low_gK K sp
   have llo:nP K≤lo.length:=by rw [hlo,zh,zx];omega
   change Nat×(Nat→Value)×List (Rw Int) at x
   obtain ⟨i,tv,ys⟩:=x
   obtain ⟨k1,k2⟩:i≤256∧TvOK K i tv ys:=hx
   have d:¬ (i:Int)<256:=nf d
   obtain rfl:i=256:=by omega
   change Nat at bc
   change Nat×Nat×Nat at fn
   refine Ends.one ((bc,fn,ge,(g2,g3,lo,k)),tv,ys) ⟨k2,llo,tlo⟩ ?_
   ((conv=>arg 1;reduce);with_reducible repeat' first | exact ty | refine ta ?_ ?_ | refine ti fun _ => ?_ | refine tf fun _ => ?_ | refine tl ?_)
   all_goals first
    | exact vlf
    | exact q7
    | exact q7.symm
    | exact elo
    | exact elo.symm
    | (rw [q7];rfl)
    | (rw [q7,zu])
    | (rw [← elo];rfl)
end
end
end Go.Vx
namespace Go.Vx
open Go Go.Proofs
noncomputable section
variable [Gl]
structure Cd where
 F:Gf
 K:Kd F
 m8:5≤F.m∧F.m≤8
 t5:K.t≤5
 hd:(lsO (2 ^ F.m - 1) K.t).2.2=K.D
theorem code_of (m t:Nat) (h1:5≤m) (h2:m≤8) (h3:1≤t) (h4:t≤5):∃ c:Cd,c.F.m=m∧c.K.t=t:=by
 have hm:m=5∨m=6∨m=7∨m=8:=by omega
 have ht:t=1∨t=2∨t=3∨t=4∨t=5:=by omega
 rcases hm with rfl | rfl | rfl | rfl
 · rcases ht with rfl | rfl | rfl | rfl | rfl
   · exact ⟨⟨gf5,Kd.of gf5 1 kd5_1,⟨by decide,by decide⟩,by decide,by kernel_rfl⟩,rfl,rfl⟩
   · exact ⟨⟨gf5,Kd.of gf5 2 kd5_2,⟨by decide,by decide⟩,by decide,by kernel_rfl⟩,rfl,rfl⟩
   · exact ⟨⟨gf5,Kd.of gf5 3 kd5_3,⟨by decide,by decide⟩,by decide,by kernel_rfl⟩,rfl,rfl⟩
   · exact ⟨⟨gf5,Kd.of gf5 4 kd5_4,⟨by decide,by decide⟩,by decide,by kernel_rfl⟩,rfl,rfl⟩
   · exact ⟨⟨gf5,Kd.of gf5 5 kd5_5,⟨by decide,by decide⟩,by decide,by kernel_rfl⟩,rfl,rfl⟩
 · rcases ht with rfl | rfl | rfl | rfl | rfl
   · exact ⟨⟨gf6,Kd.of gf6 1 kd6_1,⟨by decide,by decide⟩,by decide,by kernel_rfl⟩,rfl,rfl⟩
   · exact ⟨⟨gf6,Kd.of gf6 2 kd6_2,⟨by decide,by decide⟩,by decide,by kernel_rfl⟩,rfl,rfl⟩
   · exact ⟨⟨gf6,Kd.of gf6 3 kd6_3,⟨by decide,by decide⟩,by decide,by kernel_rfl⟩,rfl,rfl⟩
   · exact ⟨⟨gf6,Kd.of gf6 4 kd6_4,⟨by decide,by decide⟩,by decide,by kernel_rfl⟩,rfl,rfl⟩
   · exact ⟨⟨gf6,Kd.of gf6 5 kd6_5,⟨by decide,by decide⟩,by decide,by kernel_rfl⟩,rfl,rfl⟩
 · rcases ht with rfl | rfl | rfl | rfl | rfl
   · exact ⟨⟨gf7,Kd.of gf7 1 kd7_1,⟨by decide,by decide⟩,by decide,by kernel_rfl⟩,rfl,rfl⟩
   · exact ⟨⟨gf7,Kd.of gf7 2 kd7_2,⟨by decide,by decide⟩,by decide,by kernel_rfl⟩,rfl,rfl⟩
   · exact ⟨⟨gf7,Kd.of gf7 3 kd7_3,⟨by decide,by decide⟩,by decide,by kernel_rfl⟩,rfl,rfl⟩
   · exact ⟨⟨gf7,Kd.of gf7 4 kd7_4,⟨by decide,by decide⟩,by decide,by kernel_rfl⟩,rfl,rfl⟩
   · exact ⟨⟨gf7,Kd.of gf7 5 kd7_5,⟨by decide,by decide⟩,by decide,by kernel_rfl⟩,rfl,rfl⟩
 · rcases ht with rfl | rfl | rfl | rfl | rfl
   · exact ⟨⟨gf8,Kd.of gf8 1 kd8_1,⟨by decide,by decide⟩,by decide,by kernel_rfl⟩,rfl,rfl⟩
   · exact ⟨⟨gf8,Kd.of gf8 2 kd8_2,⟨by decide,by decide⟩,by decide,by kernel_rfl⟩,rfl,rfl⟩
   · exact ⟨⟨gf8,Kd.of gf8 3 kd8_3,⟨by decide,by decide⟩,by decide,by kernel_rfl⟩,rfl,rfl⟩
   · exact ⟨⟨gf8,Kd.of gf8 4 kd8_4,⟨by decide,by decide⟩,by decide,by kernel_rfl⟩,rfl,rfl⟩
   · exact ⟨⟨gf8,Kd.of gf8 5 kd8_5,⟨by decide,by decide⟩,by decide,by kernel_rfl⟩,rfl,rfl⟩
theorem ls7_3:(lsO (2 ^ 7 - 1) 3).2.2=21:=by kernel_rfl
theorem ls5_2:(lsO (2 ^ 5 - 1) 2).2.2=10:=by kernel_rfl
theorem by_set1 {n:Nat} {f f':Nat→Bool} {i:Nat} {y:Nat} (hi:i<n) (hy:y<256) (hb:∀ j,j<8→y.testBit j=f' (8*i+j)) (ho:∀ k,k / 8≠i→f k=f' k):(by' n f).set i (y:Int)=by' n f':=by
 refine byt_ext (byt_set (by_byt n f) ⟨by omega,by omega⟩) (by_byt n f') (by rw [zh,by_len,by_len]) fun k hk => ?_
 rw [zh,by_len] at hk
 rw [bt_set (by rw [by_len];exact hi),zu,by_bt hk,by_bt hk]
 by_cases h:k / 8=i
 · rw [if_pos h,hb _ (yv _ (by omega)),show 8*i+k % 8=k by omega]
 · rw [if_neg h,ho k h]
theorem or_bit {x s j:Nat}:(x ||| 2 ^ s).testBit j=(x.testBit j || decide (s=j)):=by
 rw [Nat.testBit_or,vy]
@[irreducible] def clI (D:Nat) (P:List Int) (i:Nat):List Int:=by' P.length fun k=>(decide (k<D) || decide (i≤k)) && bt P k
@[irreducible] def clL (D:Nat) (P:List Int):List Int:=by' P.length fun k=>decide (k<D) && bt P k
theorem clI_len {D:Nat} {P:List Int} {i:Nat}:(clI D P i).length=P.length:=by unfold clI;exact by_len _ _
theorem clL_len {D:Nat} {P:List Int}:(clL D P).length=P.length:=by unfold clL;exact by_len _ _
theorem clL_byt {D:Nat} {P:List Int}:Byt8 (clL D P):=by unfold clL;exact by_byt _ _
theorem clL_bt {D:Nat} {P:List Int} (k:Nat):bt (clL D P) k=(decide (k<D) && bt P k):=by
 unfold clL
 by_cases h:k<8*P.length
 · rw [by_bt h]
 · rw [by_bt_out (by omega),bt_out (by omega),tn]
theorem clI_start {D:Nat} {P:List Int} (h:Byt8 P):clI D P D=P:=by
 unfold clI
 refine (by_congr fun k _ => ?_).trans (byt_eq h).symm
 by_cases hk:k<D
 · rw [decide_eq_true hk];rfl
 · rw [decide_eq_true (show D≤k by omega),Bool.or_true,zd]
theorem clI_end {D:Nat} {P:List Int} {i:Nat} (h:8*P.length≤i):clI D P i=clL D P:=by
 unfold clI clL
 refine by_congr fun k hk => ?_
 rw [decide_eq_false (show ¬ i≤k by omega),sr]
theorem clI_step {D:Nat} {P:List Int} {i:Nat} (hD:D≤i) (hi:i / 8<P.length):(clI D P i).set (i / 8) (ibit .andNot .u8 ((clI D P i).getD (i / 8) 0) ((2 ^ (i % 8):Nat):Int))=clI D P (i+1):=by
 have hp:2 ^ (i % 8)≤2 ^ 7:=zj (by omega) (by omega)
 unfold clI
 obtain ⟨x,hx,x1,x2⟩:=by_at (b:=fun k=>(decide (k<D) || decide (i≤k)) && bt P k) hi
 rw [hx,an8 x1 (by omega)]
 refine by_set1 hi (wh ub x1) (fun j hj => ?_) fun k hk => ?_
 · rw [qn,x2 j hj,an_bit (yv _ (by omega)) hj]
   by_cases h:j=i % 8
   · rw [decide_eq_true h,decide_eq_false (show ¬ 8*(i / 8)+j<D by omega),decide_eq_false (show ¬ i+1≤8*(i / 8)+j by omega)];simp
   · rw [decide_eq_false h,Bool.not_false,Bool.and_true,show decide (i≤8*(i / 8)+j)=decide (i+1≤8*(i / 8)+j) from decide_eq_decide.2 (by omega)]
 · rw [show decide (i≤k)=decide (i+1≤k) from decide_eq_decide.2 (by omega)]
theorem clL_id {D:Nat} {P:List Int} (h:Byt8 P) (hz:∀ k,D≤k→bt P k=false):clL D P=P:=by
 refine byt_ext clL_byt h clL_len fun k _ => ?_
 rw [clL_bt]
 by_cases hk:k<D
 · rw [decide_eq_true hk,zd]
 · rw [decide_eq_false hk,yf,hz k (by omega)]
@[irreducible] def spI (D:Nat) (P:List Int) (M:Nat) (i:Nat):List Int:=by' P.length fun k=>bt P k || (decide (D≤k) && decide (k<i) && M.testBit (k % 8))
theorem spI_len {D:Nat} {P:List Int} {M i:Nat}:(spI D P M i).length=P.length:=by unfold spI;exact by_len _ _
theorem spI_byt {D:Nat} {P:List Int} {M i:Nat}:Byt8 (spI D P M i):=by unfold spI;exact by_byt _ _
theorem spI_start {D:Nat} {P:List Int} {M:Nat} (h:Byt8 P):spI D P M D=P:=by
 unfold spI
 refine (by_congr fun k _ => ?_).trans (byt_eq h).symm
 by_cases hk:D≤k
 · rw [decide_eq_false (show ¬ k<D by omega)];simp
 · rw [decide_eq_false hk];simp
theorem spI_no {D:Nat} {P:List Int} {M i:Nat} (hm:M.testBit (i % 8)=false):spI D P M (i+1)=spI D P M i:=by
 unfold spI
 refine by_congr fun k _ => ?_
 by_cases h:k=i
 · rw [h,hm];simp
 · rw [show decide (k<i+1)=decide (k<i) from decide_eq_decide.2 (by omega)]
theorem spI_yes {D:Nat} {P:List Int} {M i:Nat} (hD:D≤i) (hi:i / 8<P.length) (hm:M.testBit (i % 8)=true):(spI D P M i).set (i / 8) (ibit .or .u8 ((spI D P M i).getD (i / 8) 0) ((2 ^ (i % 8):Nat):Int))=spI D P M (i+1):=by
 have hp:2 ^ (i % 8)≤2 ^ 7:=zj (by omega) (by omega)
 unfold spI
 obtain ⟨x,hx,x1,x2⟩:=by_at (b:=fun k=>bt P k || (decide (D≤k) && decide (k<i) && M.testBit (k % 8))) hi
 rw [hx,or8 x1 (by omega)]
 refine by_set1 hi (Nat.or_lt_two_pow (n:=8) x1 (by omega)) (fun j hj => ?_) fun k hk => ?_
 · rw [or_bit,x2 j hj]
   by_cases h:j=i % 8
   · rw [decide_eq_true h.symm,Bool.or_true,show 8*(i / 8)+j=i by omega,decide_eq_true hD,decide_eq_true (show i<i+1 by omega),hm];simp
   · rw [show decide (i % 8=j)=false from decide_eq_false fun e=>h e.symm,sr,show decide (8*(i / 8)+j<i)=decide (8*(i / 8)+j<i+1) from decide_eq_decide.2 (by omega)]
 · rw [show decide (k<i)=decide (k<i+1) from decide_eq_decide.2 (by omega)]
theorem spI_bt {D:Nat} {P:List Int} {M i k:Nat} (h:k<D):bt (spI D P M i) k=bt P k:=by
 unfold spI
 by_cases h2:k<8*P.length
 · rw [by_bt h2,decide_eq_false (show ¬ D≤k by omega)];simp
 · rw [by_bt_out (by omega),bt_out (by omega)]
end
end Go.Vx
namespace Go.Vx
open Go Go.Proofs
noncomputable section
variable [Gl]
abbrev xcV (m t n:Int) (k:Nat) (L c:Nat) (D:Int):SV:=.agg [.int .i64 m,.int .i64 t,.int .i64 n,.sl k 0 L c,.int .i64 D]
theorem xpar_ok (m t n:Int) (o:Bool) (b q:Nat) (l:List Int) (L c:Nat) (D:Nat) (hD:D<1000000):Tells (C:=C0) Tryz.prog (.fn 13) [⟨b,q,1,false,some o,.rows 5 l⟩] [xcV m t n 0 L c (D:Int)] (.int .i64 (((D+7) / 8:Nat):Int)):=by
 refine loc_pc (P:=Tryz.prog) (E:=⟨[],[],7,[],[],[],none⟩) (L:=[]) mix Tryz.func13 rfl (by kernel_rfl) (by kernel_rfl) rfl rfl ?_
 ((conv=>arg 1;reduce);with_reducible repeat' first | exact ty | refine ta ?_ ?_ | refine ti fun _ => ?_ | refine tf fun _ => ?_ | refine tl ?_)
 all_goals try exact vlf
 · have e:((D:Int)+7).tdiv 8=(((D+7) / 8:Nat):Int):=by
    rw [show (D:Int)+7=((D+7:Nat):Int) by omega];exact (yj _ 8).symm
   rw [e];exact inR64 (n:=(((D+7) / 8:Nat):Int)) (by omega) (by omega)
def pcXpar:Pc Tryz.prog C0 where
 tg:=.fn 13
 X:=(Int×Int×Int)×(Bool×Nat×Nat×List Int×Nat×Nat)×Nat
 args:=fun ((m,t,n),(o,b,q,l,L,c),D)=>[xcV m t n 0 L c (D:Int)]
 mem:=fun ((m,t,n),(o,b,q,l,L,c),D)=>[⟨b,q,1,false,some o,.rows 5 l⟩]
 pre:=fun ((m,t,n),(o,b,q,l,L,c),D)=>D<1000000
 res:=fun ((m,t,n),(o,b,q,l,L,c),D)=>.int .i64 (((D+7) / 8:Nat):Int)
 mat vs m:=match vs with
  | [.agg [.int _ x,.int _ t,.int _ n,.sl s _ L c,.int _ (D:Nat)]]=>match nth m s with
    | ⟨b,q,_,_,g,.rows 5 l⟩=>some (((x,t,n),(onOf g,b,q,l,L,c),D),[s])
    | _=>none
  | _=>none
 ok:=fun ((m,t,n),(o,b,q,l,L,c),D) h=>xpar_ok m t n o b q l L c D h
theorem rbytes_ok (o:Bool) (b q:Nat) (l:List Int) (i n c:Nat) (h:i+n≤l.length) (hn:n<1000000000) (ho:o=false→n=0∧c=0) (P:List Int) (hP:(l.drop i).take n=P):
 Does (C:=C0) Tryz.prog (.fn 14) [⟨b,q,1,false,some o,.rows 5 l⟩] [.sl 0 i n c]
  [⟨Oq,fun y=>Oqw P y,fun y=>.sl 1 0 P.length y.2.2.2.2,fun y=>[⟨b,q,1,false,some o,.rows 5 l⟩,obC true y]⟩]:=by
 have hL:P.length=n:=by rw [← hP];exact row_len h
 have hby:(Tryz.prog.types[5].bytes:Int)=1:=by kernel_rfl
 have hby':Tryz.prog.types[5].bytes=1:=by kernel_rfl
 refine loc_fn (P:=Tryz.prog) (E:=⟨[],[],8,[],[],[],none⟩) (L:=[]) mix Tryz.func14 rfl (by kernel_rfl) (by kernel_rfl) rfl rfl ?_
 ((conv=>arg 1;reduce);with_reducible repeat' first | exact ty | refine ta ?_ ?_ | refine ti fun _ => ?_ | refine tf fun _ => ?_ | refine tl ?_)
 all_goals try exact vlf
 · rw [hby];omega
 · rw [hby']
   simp only [xz]
   show 0≤(n:Int).toNat∧0+(n:Int).toNat≤(n:Int).toNat∧i+n≤l.length∧(0+n)*1≤140737488355328
   omega
 · exact fun h0=>⟨(ho h0).1,(ho h0).1⟩
 · rename_i b0 g2 g3 sp k h3 h4
   change List Int at sp
   have h3:(0:Int).toNat+n≤k:=h3
   have h4:k≤(0:Int).toNat+n+sp.length:=h4
   have h3:n≤k:=by omega
   have h4:k≤n+sp.length:=by omega
   refine Ends.one ((true,g2,g3,P ++ sp,k):Oq) ⟨vj rfl,by show P.length≤k;omega,by show k≤(P ++ sp).length;rw [zx];omega,nofun⟩ ?_
   ((conv=>arg 1;reduce);with_reducible repeat' first | exact ty | refine ta ?_ ?_ | refine ti fun _ => ?_ | refine tf fun _ => ?_ | refine tl ?_)
   all_goals first
    | exact vlf
    | (show (0:Int).toNat+n=P.length;rw [hL];exact we n)
    | (show P.length=(0:Int).toNat+n;rw [hL];exact (we n).symm)
    | (show [] ++ ((l.drop i).take n) ++ sp=P ++ sp;rw [hP];rfl)
    | (show P ++ sp=[] ++ ((l.drop i).take n) ++ sp;rw [hP];rfl)
def fcRbytes:Fc Tryz.prog C0 where
 tg:=.fn 14
 X:=Sl3
 args:=fun (o,b,q,l,i,n,c)=>[.sl 0 i n c]
 mem:=fun (o,b,q,l,i,n,c)=>[⟨b,q,1,false,some o,.rows 5 l⟩]
 pre:=Sl3.pre
 alts:=fun (o,b,q,l,i,n,c)=>[⟨Oq,fun y=>Oqw ((l.drop i).take n) y,fun y=>.sl 1 0 ((l.drop i).take n).length y.2.2.2.2,fun y=>[⟨b,q,1,false,some o,.rows 5 l⟩,obC true y]⟩]
 mat vs m:=match vs with
  | [.sl s i n c]=>match nth m s with
    | ⟨b,q,_,_,g,.rows 5 l⟩=>some ((onOf g,b,q,l,i,n,c),[s])
    | _=>none
  | _=>none
 ok:=fun (o,b,q,l,i,n,c) h=>rbytes_ok o b q l i n c h.1 h.2.1 h.2.2 _ rfl
def Cl3 (D:Nat) (P:List Int):Inv' C0:=⟨3,Nat×Oq,fun x=>[(6,.int .i64 (x.1:Int)),(5,.sl 3 0 P.length x.2.2.2.2.2)],fun x m=>match m with
 | g :: p :: bx :: _=>[g,p,bx,obC true x.2]
 | m=>m,fun x=>(D≤x.1∧(x.1≤8*P.length∨x.1=D))∧Oqw (clI D P x.1) x.2,fun x=>8*P.length - x.1⟩
set_option maxHeartbeats 4000000 in
theorem xclear_ok (m t n:Int) (o:Bool) (b q:Nat) (l:List Int) (L c:Nat) (D:Nat) (hD:D<1000000) (o2:Bool) (b2 q2:Nat) (l2:List Int) (i2 n2 c2:Nat) (h2:i2+n2≤l2.length) (hn2:n2<1000000000) (ho2:o2=false→n2=0∧c2=0) (P:List Int) (hP:(l2.drop i2).take n2=P) (kP:Byt8 P):
 Does (C:=C0) Tryz.prog (.fn 12) [⟨b,q,1,false,some o,.rows 5 l⟩,⟨b2,q2,1,false,some o2,.rows 5 l2⟩] [xcV m t n 0 L c (D:Int),.sl 1 i2 n2 c2]
  [⟨Oq,fun y=>Oqw (clL D P) y,fun y=>.sl 2 0 P.length y.2.2.2.2,fun y=>[⟨b,q,1,false,some o,.rows 5 l⟩,⟨b2,q2,1,false,some o2,.rows 5 l2⟩,obC true y]⟩]:=by
 have hL:P.length=n2:=by rw [← hP];exact row_len h2
 subst hP
 refine loc_fn (P:=Tryz.prog) (E:=⟨[fcRbytes],[],33,[],[],[],none⟩) (L:=[Cl3 D ((l2.drop i2).take n2)]) mix Tryz.func12 rfl (by kernel_rfl) (by kernel_rfl) rfl rfl ?_
 ((conv=>arg 1;reduce);with_reducible repeat' first | exact ty | refine ta ?_ ?_ | refine ti fun _ => ?_ | refine tf fun _ => ?_ | refine tl ?_)
 all_goals try exact vlf
 · exact ⟨h2,hn2,ho2⟩
 · rename_i b0 y hy
   change Oq at y
   refine Stands.one ((D,y):Nat×Oq) ⟨⟨⟨zw _,.inr rfl⟩,by show Oqw (clI D _ D) y;rw [clI_start kP];exact hy⟩,?_⟩
   exact vgo
 all_goals have q8:∀ j:Nat,(j:Int).tdiv 8=((j / 8:Nat):Int):=fun j=>(yj j 8).symm
 all_goals have m8:∀ j:Nat,(j:Int).tmod 8=((j % 8:Nat):Int):=fun j=>(zb j 8).symm
 all_goals try (
  rename_i b0 y0 hy0 x hx d
  change Nat×Oq at x
  obtain ⟨j,y⟩:=x
  obtain ⟨⟨k1,k2⟩,k3⟩:(D≤j∧(j≤8*((l2.drop i2).take n2).length∨j=D))∧Oqw (clI D ((l2.drop i2).take n2) j) y:=hx
  have d:(j:Int)<8*(((l2.drop i2).take n2).length:Int):=ng d
  have lC:=clI_len (D:=D) (P:=(l2.drop i2).take n2) (i:=j)
  have c1:=k3.cap
  have c2:=k3.len
  have hj8:j / 8<((l2.drop i2).take n2).length:=by omega
  first
  | (show inR .i64 ((j:Int).tdiv 8);rw [q8];exact inR64 (n:=((j / 8:Nat):Int)) (by omega) (by omega))
  | exact on_of k3.nil (by omega)
  | (show 0≤(j:Int).tdiv 8;rw [q8];omega)
  | (show (j:Int).tdiv 8<(((l2.drop i2).take n2).length:Int);rw [q8];omega)
  | (show ((j:Int).tdiv 8).toNat+0<y.2.2.2.1.length;rw [q8];omega)
  | (show 0≤IntKind.u64.wrap ((j:Int).tmod 8);rw [m8,wu (by omega)];omega)
  | exact inR64 (n:=(j:Int)+1) (by omega) (by omega)
  | (have eN:((j:Int).tdiv 8).toNat+0=j / 8:=by rw [q8];omega
     have eS:ishl .u8 1 (IntKind.u64.wrap ((j:Int).tmod 8))=((2 ^ (j % 8):Nat):Int):=by rw [m8,wu (by omega)];exact shl1_8 (yv _ (by omega))
     have k4:=k3.put (i:=j / 8) (by omega) (ibit .andNot .u8 ((clI D ((l2.drop i2).take n2) j).getD (j / 8) 0) ((2 ^ (j % 8):Nat):Int))
     rw [clI_step k1 hj8] at k4
     have eG:y.2.2.2.1.getD (((j:Int).tdiv 8).toNat+0) 0=(clI D ((l2.drop i2).take n2) j).getD (j / 8) 0:=by rw [eN];exact k3.at (by omega)
     refine Stands.one ((j+1,(y.1,y.2.1,y.2.2.1,y.2.2.2.1.set (j / 8) (ibit .andNot .u8 ((clI D ((l2.drop i2).take n2) j).getD (j / 8) 0) ((2 ^ (j % 8):Nat):Int)),y.2.2.2.2)):Nat×Oq) ⟨⟨⟨by show D≤j+1;omega,.inl (by show j+1≤_;omega)⟩,k4⟩,by show _ - (j+1)<_ - j;omega,?_⟩
     ((conv=>arg 1;reduce);with_reducible repeat' first | exact ty | refine ta ?_ ?_ | refine ti fun _ => ?_ | refine tf fun _ => ?_ | refine tl ?_)
     all_goals first
      | exact vlf
      | (show y.2.2.2.1.set (j / 8) _=y.2.2.2.1.set (((j:Int).tdiv 8).toNat+0) (ibit .andNot .u8 (y.2.2.2.1.getD (((j:Int).tdiv 8).toNat+0) 0) (ishl .u8 1 (IntKind.u64.wrap ((j:Int).tmod 8))));rw [eG,eS,eN])
      | (show y.2.2.2.1.set (((j:Int).tdiv 8).toNat+0) (ibit .andNot .u8 (y.2.2.2.1.getD (((j:Int).tdiv 8).toNat+0) 0) (ishl .u8 1 (IntKind.u64.wrap ((j:Int).tmod 8))))=y.2.2.2.1.set (j / 8) _;rw [eG,eS,eN])))
 · rename_i b0 y0 hy0 x hx d
   change Nat×Oq at x
   obtain ⟨j,y⟩:=x
   obtain ⟨⟨k1,k2⟩,k3⟩:(D≤j∧(j≤8*((l2.drop i2).take n2).length∨j=D))∧Oqw (clI D ((l2.drop i2).take n2) j) y:=hx
   have d:¬ (j:Int)<8*(((l2.drop i2).take n2).length:Int):=nf d
   rw [clI_end (by omega)] at k3
   refine Ends.one (y:Oq) k3 ?_
   exact vgo
def fcXclear:Fc Tryz.prog C0 where
 tg:=.fn 12
 X:=(Int×Int×Int)×(Bool×Nat×Nat×List Int×Nat×Nat)×Nat×Sl3
 args:=fun ((m,t,n),(o,b,q,l,L,c),D,(o2,b2,q2,l2,i2,n2,c2))=>[xcV m t n 0 L c (D:Int),.sl 1 i2 n2 c2]
 mem:=fun ((m,t,n),(o,b,q,l,L,c),D,(o2,b2,q2,l2,i2,n2,c2))=>[⟨b,q,1,false,some o,.rows 5 l⟩,⟨b2,q2,1,false,some o2,.rows 5 l2⟩]
 pre:=fun ((m,t,n),(o,b,q,l,L,c),D,s)=>D<1000000∧Sl3.pre s∧Byt8 ((s.2.2.2.1.drop s.2.2.2.2.1).take s.2.2.2.2.2.1)
 alts:=fun ((m,t,n),(o,b,q,l,L,c),D,(o2,b2,q2,l2,i2,n2,c2))=>[⟨Oq,fun y=>Oqw (clL D ((l2.drop i2).take n2)) y,fun y=>.sl 2 0 ((l2.drop i2).take n2).length y.2.2.2.2,fun y=>[⟨b,q,1,false,some o,.rows 5 l⟩,⟨b2,q2,1,false,some o2,.rows 5 l2⟩,obC true y]⟩]
 mat vs m:=match vs with
  | [.agg [.int _ x,.int _ t,.int _ n,.sl s _ L c,.int _ (D:Nat)],.sl s2 i2 n2 c2]=>match nth m s,nth m s2 with
    | ⟨b,q,_,_,g,.rows 5 l⟩,⟨b2,q2,_,_,g2,.rows 5 l2⟩=>some (((x,t,n),(onOf g,b,q,l,L,c),D,(onOf g2,b2,q2,l2,i2,n2,c2)),[s,s2])
    | _,_=>none
  | _=>none
 ok:=fun ((m,t,n),(o,b,q,l,L,c),D,(o2,b2,q2,l2,i2,n2,c2)) h=>xclear_ok m t n o b q l L c D h.1 o2 b2 q2 l2 i2 n2 c2 h.2.1.1 h.2.1.2.1 h.2.1.2.2 _ rfl h.2.2
@[irreducible] def fitL (k:Nat) (P:List Int):List Int:=P.take k ++ zo (k - P.length) 0
theorem fitL_len {k:Nat} {P:List Int}:(fitL k P).length=k:=by unfold fitL;rw [zx,ze,xz];omega
theorem fitL_byt {k:Nat} {P:List Int} (h:Byt8 P):Byt8 (fitL k P):=by
 unfold fitL
 intro x hx
 rcases List.mem_append.1 hx with hx | hx
 · exact h x (xu hx)
 · rw [(List.mem_replicate.1 hx).2];decide
theorem fit_eq {l:List Int} {i n k:Nat} (h:i+n≤l.length):[] ++ (l.drop i).take (min n (k:Int).toNat) ++ (zo (k:Int).toNat (0:Int)).drop (0+min n (k:Int).toNat)=fitL k ((l.drop i).take n):=by
 unfold fitL
 rw [List.take_take,rz,zu,List.drop_replicate,row_len h,Nat.min_comm k n]
 congr 2
 omega
theorem fit_ok (o:Bool) (b q:Nat) (l:List Int) (i n c:Nat) (h:i+n≤l.length) (ho:o=false→n=0∧c=0) (k:Nat) (hk:k<100000):
 Does (C:=C0) Tryz.prog (.fn 11) [⟨b,q,1,false,some o,.rows 5 l⟩] [.sl 0 i n c,.int .i64 (k:Int)]
  [⟨Nat,fun _=>True,fun _=>.sl 1 0 k k,fun y=>[⟨b,q,1,false,some o,.rows 5 l⟩,⟨y,0,1,true,none,.rows 5 (fitL k ((l.drop i).take n))⟩]⟩]:=by
 have hby:(Tryz.prog.types[5].bytes:Int)=1:=by kernel_rfl
 refine loc_fn (P:=Tryz.prog) (E:=⟨[],[],12,[],[],[],none⟩) (L:=[]) mix Tryz.func11 rfl (by kernel_rfl) (by kernel_rfl) rfl rfl ?_
 ((conv=>arg 1;reduce);with_reducible repeat' first | exact ty | refine ta ?_ ?_ | refine ti fun _ => ?_ | refine tf fun _ => ?_ | refine tl ?_)
 all_goals try exact vlf
 · rw [hby];omega
 all_goals try exact ho
 · have e:(zo (k:Int).toNat (0:Int)).length=k:=by rw [xz];omega
   show 0+min n (k:Int).toNat≤(zo (k:Int).toNat (0:Int)).length∧i+min n (k:Int).toNat≤l.length
   omega
 · rename_i b0
   refine Ends.one (b0:Nat) trivial ?_
   ((conv=>arg 1;reduce);with_reducible repeat' first | exact ty | refine ta ?_ ?_ | refine ti fun _ => ?_ | refine tf fun _ => ?_ | refine tl ?_)
   all_goals first
    | exact vlf
    | (show _=fitL k ((l.drop i).take n);exact fit_eq h)
    | (show fitL k ((l.drop i).take n)=_;exact (fit_eq h).symm)
def fcFit:Fc Tryz.prog C0 where
 tg:=.fn 11
 X:=Sl3×Nat
 args:=fun ((o,b,q,l,i,n,c),k)=>[.sl 0 i n c,.int .i64 (k:Int)]
 mem:=fun ((o,b,q,l,i,n,c),k)=>[⟨b,q,1,false,some o,.rows 5 l⟩]
 pre:=fun ((o,b,q,l,i,n,c),k)=>(i+n≤l.length∧(o=false→n=0∧c=0))∧k<100000
 alts:=fun ((o,b,q,l,i,n,c),k)=>[⟨Nat,fun _=>True,fun _=>.sl 1 0 k k,fun y=>[⟨b,q,1,false,some o,.rows 5 l⟩,⟨y,0,1,true,none,.rows 5 (fitL k ((l.drop i).take n))⟩]⟩]
 mat vs m:=match vs with
  | [.sl s i n c,.int _ (k:Nat)]=>match nth m s with
    | ⟨b,q,_,_,g,.rows 5 l⟩=>some (((onOf g,b,q,l,i,n,c),k),[s])
    | _=>none
  | [.sl s i n c,.int _ k]=>match nth m s with
    | ⟨b,q,_,_,g,.rows 5 l⟩=>some (((onOf g,b,q,l,i,n,c),k.toNat),[s])
    | _=>none
  | _=>none
 ok:=fun ((o,b,q,l,i,n,c),k) h=>fit_ok o b q l i n c h.1.1 h.1.2 k h.2
section
variable (F:Gf)
theorem rnew_ok (t n:Nat) (h0:1≤t∧t≤40∧(lsO (nF F) t).2.2<nF F) (h1:1≤n) (h2:n≤2000):
 Does (C:=C0) Tryz.prog (.fn 30) [] [.int .i64 (F.m:Int),.int .i64 (t:Int),.int .i64 (n:Int)]
  [⟨Lq,fun y=>Oqw y.1 y.2∧8*n+(lsO (nF F) t).2.2≤nF F,fun y=>.tup [xcV (F.m:Int) (t:Int) (n:Int) 0 y.1.length y.2.2.2.2.2 ((lsO (nF F) t).2.2:Int),.int .i64 0],fun y=>[obC true y.2]⟩,
   ⟨Unit,fun _=>nF F<8*n+(lsO (nF F) t).2.2,fun _=>.tup [.agg [.int .i64 0,.int .i64 0,.int .i64 0,.nils,.int .i64 0],.int .i64 105],fun _=>[]⟩]:=by
 obtain ⟨hs,h7,hh⟩:=nF_sz F
 have es:=shl_sz F
 have e1:(szF F:Int) - 1=(nF F:Int):=by omega
 have eM:ishl .i64 1 (IntKind.u64.wrap (F.m:Int)) - 1=(nF F:Int):=by rw [wm,es,e1]
 refine loc_fn (P:=Tryz.prog) (E:=⟨[fcRleast F,fcRgen F],[],54,[],[],[],none⟩) (L:=[]) mix Tryz.func30 rfl (by kernel_rfl) (by kernel_rfl) rfl rfl ?_
 ((conv=>arg 1;reduce);with_reducible repeat' first | exact ty | refine ta ?_ ?_ | refine ti fun _ => ?_ | refine tf fun _ => ?_ | refine tl ?_)
 all_goals try exact vlf
 · exact h0
 all_goals try (rename_i d;exact absurd (ng d) (fun h=>h rfl))
 all_goals try (
  rename_i d
  exfalso
  simp only [yd,decide_eq_true_eq,SB.val] at d
  omega)
 all_goals try (rw [wm];omega)
 · rename_i d
   rw [eM] at d
   have d:(nF F:Int)<8*(n:Int)+((lsO (nF F) t).2.2:Int):=ng d
   refine Ends.next (Ends.one () (by show nF F<8*n+(lsO (nF F) t).2.2;omega) ?_)
   exact vgo
 · exact h0
 · rename_i d y hy
   rw [eM] at d
   have d:¬ (nF F:Int)<8*(n:Int)+((lsO (nF F) t).2.2:Int):=nf d
   change Lq at y
   refine Ends.one (y:Lq) ⟨hy,by omega⟩ ?_
   exact vgo
end
end
end Go.Vx
namespace Go.Vx
open Go Go.Proofs
noncomputable section
variable [Gl]
theorem dnew_ok (b q:Nat):Does (C:=C0) Tryz.prog (.fn 28) [⟨b,q,263,false,none,.one []⟩] [.ptr 0 0 0]
 [⟨Nat,fun _=>True,fun y=>.ptr 1 0 0,fun y=>[⟨b,q,263,false,none,.one []⟩,⟨y,0,1,true,none,.one [.ptr 0 0 0]⟩]⟩]:=by
 refine loc_fn (P:=Tryz.prog) (E:=⟨[],[],6,[],[],[],none⟩) (L:=[]) mix Tryz.func28 rfl (by kernel_rfl) (by kernel_rfl) rfl rfl ?_
 ((conv=>arg 1;reduce);with_reducible repeat' first | exact ty | refine ta ?_ ?_ | refine ti fun _ => ?_ | refine tf fun _ => ?_ | refine tl ?_)
 all_goals try exact vlf
 rename_i y
 refine Ends.one (y:Nat) trivial ?_
 exact vgo
def fcDNew:Fc Tryz.prog C0 where
 tg:=.fn 28
 X:=Nat×Nat
 args _:=[.ptr 0 0 0]
 mem:=fun (b,q)=>[⟨b,q,263,false,none,.one []⟩]
 pre _:=True
 alts:=fun (b,q)=>[⟨Nat,fun _=>True,fun y=>.ptr 1 0 0,fun y=>[⟨b,q,263,false,none,.one []⟩,⟨y,0,1,true,none,.one [.ptr 0 0 0]⟩]⟩]
 mat vs m:=match vs with
  | [.ptr c _ _]=>match nth m c with
    | ⟨b,q,_,_,_,_⟩=>some ((b,q),[c])
  | _=>none
 ok:=fun (b,q) _=>dnew_ok b q
theorem dcode_ok (bd qd b q:Nat):Tells (C:=C0) Tryz.prog (.fn 22) [⟨bd,qd,1,false,none,.one [.ptr 1 0 0]⟩,⟨b,q,263,false,none,.one []⟩] [.ptr 0 0 0] (.ptr 1 0 0):=by
 refine loc_pc (P:=Tryz.prog) (E:=⟨[],[],7,[],[],[],none⟩) (L:=[]) mix Tryz.func22 rfl (by kernel_rfl) (by kernel_rfl) rfl rfl ?_
 exact vgo
def pcDCode:Pc Tryz.prog C0 where
 tg:=.fn 22
 X:=Nat×Nat×Nat×Nat
 args _:=[.ptr 0 0 0]
 mem:=fun (bd,qd,b,q)=>[⟨bd,qd,1,false,none,.one [.ptr 1 0 0]⟩,⟨b,q,263,false,none,.one []⟩]
 pre _:=True
 res _:=.ptr 1 0 0
 mat vs m:=match vs with
  | [.ptr d _ _]=>match nth m d with
    | ⟨bd,qd,_,_,_,.one (.ptr c _ _ :: _)⟩=>match nth m c with
      | ⟨b,q,_,_,_,_⟩=>some ((bd,qd,b,q),[d,c])
    | _=>none
  | _=>none
 ok:=fun (bd,qd,b,q) _=>dcode_ok bd qd b q
section
variable (F:Gf)
abbrev dwC (F:Gf) (bd qd bw qw:Nat) (ws:List SV) (bC qC t d g r bF qF be qe bl ql:Nat):List (Ck C0):=
 [⟨bd,qd,1,false,none,.one [.ptr 2 0 0]⟩,⟨bw,qw,7,true,none,.one ws⟩,⟨bC,qC,263,false,none,.one [.ptr 3 0 0,.int .i64 (t:Int),.int .i64 (d:Int),.int .i64 (g:Int),.int .i64 (r:Int)]⟩,
  ⟨bF,qF,4,false,none,.one [.int .i64 (F.m:Int),.int .i64 (szF F:Int),.sl 4 0 (nF F) (nF F),.sl 5 0 (szF F) (szF F)]⟩,xCk F be qe,lCk F bl ql]
theorem svL_len {A:List Int} {T:Nat}:(svL F A T).length=T:=by unfold svL;rw [List.length_map,List.length_range]
theorem measure_ok (bd qd bw qw bC qC t d g r bF qF be qe bl ql:Nat) (ht:t<1000000) (hd:d<100000) (hg:g<100000) (hr:g≤8*r) (hrr:r<100000) (o:Bool) (b q:Nat) (l:List Int) (i n c:Nat) (h:i+n≤l.length) (hN:n<1000000000) (ho:o=false→n=0∧c=0) (o':Bool) (b' q':Nat) (l':List Int) (i' n' c':Nat) (h':i'+n'≤l'.length) (hN':n'<1000000000) (ho':o'=false→n'=0∧c'=0) (hn:n=d) (hn':n'=r) (D R:List Int) (hD:(l.drop i).take n=D) (hR:(l'.drop i').take n'=R) (kD:Byt8 D) (kR:Byt8 R):
 Does (C:=C0) Tryz.prog (.fn 34) (dwC F bd qd bw qw [.sl 6 i n c,.sl 7 i' n' c',.nils,.nils,.int .i64 0,.nils,.bool .f] bC qC t d g r bF qF be qe bl ql ++ [⟨b,q,1,false,some o,.rows 5 l⟩,⟨b',q',1,false,some o',.rows 5 l'⟩]) [.ptr 0 0 0,.ptr 1 0 0]
  [⟨Nat,fun _=>True,fun y=>.nili,fun y=>dwC F bd qd bw qw [.sl 6 i n c,.sl 7 i' n' c',.sl 8 0 (2*t) (2*t),.nils,.int .i64 0,.nils,.bool (SB.tm (clnB (svL F (psL g D R (8*d+g)) (2*t))))] bC qC t d g r bF qF be qe bl ql ++ [⟨b,q,1,false,some o,.rows 5 l⟩,⟨b',q',1,false,some o',.rows 5 l'⟩,⟨y,0,1,true,none,.rows 3 (svL F (psL g D R (8*d+g)) (2*t))⟩]⟩]:=by
 refine loc_fn (P:=Tryz.prog) (E:=⟨[fcOf F],[pcClean],37,[(1,[],[.p 0,.p 1,.p 2,.p 3,.p 5,.p 6,.p 7,.p 9,.p 10,.p 11,.q 4,.q 8,.q 12,.e 13,.p 14,.p 15,.p 16,.p 17,.p 18,.e 19,.p 20])],[],[],none⟩) (L:=[]) mix Tryz.func34 rfl (by kernel_rfl) (by kernel_rfl) rfl rfl ?_
 ((conv=>arg 1;reduce);with_reducible repeat' first | exact ty | refine ta ?_ ?_ | refine ti fun _ => ?_ | refine tf fun _ => ?_ | refine tl ?_)
 all_goals try exact vlf
 · exact ⟨⟨ht,hd,hg,hr,hrr⟩,⟨⟨h,hN,ho⟩,h',hN',ho'⟩,⟨hn,hn'⟩,by rw [hD];exact kD,by rw [hR];exact kR⟩
 · exact ⟨by show 0+2*t≤_;rw [svL_len];omega,by show 2*t<1000000000;omega,nofun⟩
 · rename_i y hy
   have e:((svL F (psL g D R (8*d+g)) (2*t)).drop 0).take (2*t)=svL F (psL g D R (8*d+g)) (2*t):=by rw [zm,zc (by rw [svL_len];exact zw _)]
   rw [hD,hR]
   refine Ends.one (y:Nat) trivial ?_
   ((conv=>arg 1;reduce);with_reducible repeat' first | exact ty | refine ta ?_ ?_ | refine ti fun _ => ?_ | refine tf fun _ => ?_ | refine tl ?_)
   all_goals first | exact vlf | rw [e]
def fcMeasure:Fc Tryz.prog C0 where
 tg:=.fn 34
 X:=(Nat×Nat×Nat×Nat)×Co5×(Nat×Nat×Nat×Nat×Nat×Nat)×Sl3×Sl3
 args _:=[.ptr 0 0 0,.ptr 1 0 0]
 mem:=fun ((bd,qd,bw,qw),(bC,qC,t,d,g,r),(bF,qF,be,qe,bl,ql),(o,b,q,l,i,n,c),(o',b',q',l',i',n',c'))=>dwC F bd qd bw qw [.sl 6 i n c,.sl 7 i' n' c',.nils,.nils,.int .i64 0,.nils,.bool .f] bC qC t d g r bF qF be qe bl ql ++ [⟨b,q,1,false,some o,.rows 5 l⟩,⟨b',q',1,false,some o',.rows 5 l'⟩]
 pre:=fun (_,(_,_,t,d,g,r),_,(o,b,q,l,i,n,c),(o',b',q',l',i',n',c'))=>(t<1000000∧d<100000∧g<100000∧g≤8*r∧r<100000)∧(Sl3.pre (o,b,q,l,i,n,c)∧Sl3.pre (o',b',q',l',i',n',c'))∧(n=d∧n'=r)∧Byt8 ((l.drop i).take n)∧Byt8 ((l'.drop i').take n')
 alts:=fun ((bd,qd,bw,qw),(bC,qC,t,d,g,r),(bF,qF,be,qe,bl,ql),(o,b,q,l,i,n,c),(o',b',q',l',i',n',c'))=>[⟨Nat,fun _=>True,fun y=>.nili,fun y=>dwC F bd qd bw qw [.sl 6 i n c,.sl 7 i' n' c',.sl 8 0 (2*t) (2*t),.nils,.int .i64 0,.nils,.bool (SB.tm (clnB (svL F (psL g ((l.drop i).take n) ((l'.drop i').take n') (8*d+g)) (2*t))))] bC qC t d g r bF qF be qe bl ql ++ [⟨b,q,1,false,some o,.rows 5 l⟩,⟨b',q',1,false,some o',.rows 5 l'⟩,⟨y,0,1,true,none,.rows 3 (svL F (psL g ((l.drop i).take n) ((l'.drop i').take n') (8*d+g)) (2*t))⟩]⟩]
 mat vs m:=match vs with
  | [.ptr k _ _,.ptr w _ _]=>match nth m k,nth m w with
    | ⟨bd,qd,_,_,_,.one (.ptr p _ _ :: _)⟩,⟨bw,qw,_,_,_,.one (.sl s i n c :: .sl s' i' n' c' :: _)⟩=>match nth m p with
      | ⟨bC,qC,_,_,_,.one (.ptr f _ _ :: .int _ (t:Nat) :: .int _ (d:Nat) :: .int _ (g:Nat) :: .int _ (r:Nat) :: _)⟩=>match nth m f with
        | ⟨bF,qF,_,_,_,.one (_ :: _ :: .sl x _ _ _ :: .sl h _ _ _ :: _)⟩=>match nth m x,nth m h,nth m s,nth m s' with
          | ⟨be,qe,_,_,_,_⟩,⟨bl,ql,_,_,_,_⟩,⟨b,q,_,_,o,.rows 5 l⟩,⟨b',q',_,_,o',.rows 5 l'⟩=>some (((bd,qd,bw,qw),(bC,qC,t,d,g,r),(bF,qF,be,qe,bl,ql),(onOf o,b,q,l,i,n,c),(onOf o',b',q',l',i',n',c')),[k,w,p,f,x,h,s,s'])
          | _,_,_,_=>none
        | _=>none
      | _=>none
    | _,_=>none
  | _=>none
 ok:=fun ((bd,qd,bw,qw),(bC,qC,t,d,g,r),(bF,qF,be,qe,bl,ql),(o,b,q,l,i,n,c),(o',b',q',l',i',n',c')) h=>measure_ok F bd qd bw qw bC qC t d g r bF qF be qe bl ql h.1.1 h.1.2.1 h.1.2.2.1 h.1.2.2.2.1 h.1.2.2.2.2 o b q l i n c h.2.1.1.1 h.2.1.1.2.1 h.2.1.1.2.2 o' b' q' l' i' n' c' h.2.1.2.1 h.2.1.2.2.1 h.2.1.2.2.2 h.2.2.1.1 h.2.2.1.2 _ _ rfl rfl h.2.2.2.1 h.2.2.2.2
end
end
end Go.Vx
namespace Go.Vx
open Go Go.Proofs
noncomputable section
variable [Gl]
section
variable (F:Gf)
theorem wkL_le {S:List Int}:(wkL F S).length≤S.length+1:=by
 have h1:=trL_le F (bC F S S.length)
 have h2:=(bm_fit' (F:=F) (S:=S) (n:=S.length)).2.2.2.1
 unfold wkL;omega
theorem find_ok (bd qd bw qw bC qC t d g r bF qF be qe bl ql:Nat) (ht:t≤40) (o:Bool) (b q:Nat) (l:List Int) (i n c:Nat) (o':Bool) (b' q':Nat) (l':List Int) (i' n' c':Nat) (bs qs:Nat) (S:List Int) (hS:S.length=2*t):
 Does (C:=C0) Tryz.prog (.fn 35) (dwC F bd qd bw qw [.sl 6 i n c,.sl 7 i' n' c',.sl 8 0 (2*t) (2*t),.nils,.int .i64 0,.nils,.bool .f] bC qC t d g r bF qF be qe bl ql ++ [⟨b,q,1,false,some o,.rows 5 l⟩,⟨b',q',1,false,some o',.rows 5 l'⟩,⟨bs,qs,1,false,none,.rows 3 S⟩]) [.ptr 0 0 0,.ptr 1 0 0]
  [⟨Os,fun y=>Ow (wkL F S) y∧(t<wkN F S∨(wkL F S).length≠wkN F S+1),fun y=>eV 1,fun y=>dwC F bd qd bw qw [.sl 6 i n c,.sl 7 i' n' c',.sl 8 0 (2*t) (2*t),.sl 9 0 (wkL F S).length y.2.2.2,.int .i64 (wkN F S:Int),.nils,.bool .f] bC qC t d g r bF qF be qe bl ql ++ [⟨b,q,1,false,some o,.rows 5 l⟩,⟨b',q',1,false,some o',.rows 5 l'⟩,⟨bs,qs,1,false,none,.rows 3 S⟩,osC true y]⟩,
   ⟨Os,fun y=>Ow (wkL F S) y∧¬ (t<wkN F S∨(wkL F S).length≠wkN F S+1),fun y=>.nili,fun y=>dwC F bd qd bw qw [.sl 6 i n c,.sl 7 i' n' c',.sl 8 0 (2*t) (2*t),.sl 9 0 (wkL F S).length y.2.2.2,.int .i64 (wkN F S:Int),.nils,.bool .f] bC qC t d g r bF qF be qe bl ql ++ [⟨b,q,1,false,some o,.rows 5 l⟩,⟨b',q',1,false,some o',.rows 5 l'⟩,⟨bs,qs,1,false,none,.rows 3 S⟩,osC true y]⟩]:=by
 refine loc_fn (P:=Tryz.prog) (E:=⟨[fcLocate F],[pcCoField,pcCoT],48,[(1,[],[.p 0,.p 1,.p 2,.p 3,.p 4,.p 7,.p 8,.p 9,.q 5,.q 6,.q 10,.e 11,.p 12,.p 13,.p 14,.p 15,.p 16,.e 17,.p 18,.p 19,.e 20]),(2,[],[.p 0,.p 1,.p 2,.p 4,.p 5,.p 6,.q 3,.q 7,.q 8,.p 9,.p 10,.p 11,.p 12,.p 13,.p 17,.p 18,.p 19,.q 14,.p 15,.p 16,.q 20,.p 21,.p 22])],[],[],none⟩) (L:=[]) mix Tryz.func35 rfl (by kernel_rfl) (by kernel_rfl) rfl rfl ?_
 ((conv=>arg 1;reduce);with_reducible repeat' first | exact ty | refine ta ?_ ?_ | refine ti fun _ => ?_ | refine tf fun _ => ?_ | refine tl ?_)
 all_goals try exact vlf
 all_goals have eS:(S.drop 0).take (min (2*t) 80)=S:=by rw [zm,zc (by omega)]
 · exact ⟨⟨by show 0+2*t≤S.length;omega,by show 2*t<1000000000;omega,nofun⟩,zw _⟩
 · rename_i y hy d
   have h1:=wkL_le F (S:=S)
   rw [eS]
   exact inR64 (n:=((wkL F S).length:Int) - 1) (by omega) (by omega)
 · rename_i y hy d
   rw [eS] at d
   have hy:Ow (wkL F ((S.drop 0).take (min (2*t) 80))) y:=hy
   rw [eS] at hy
   simp only [yd,decide_eq_true_eq,SB.val] at d
   rw [eS]
   refine Ends.one (y:Os) ⟨hy,by omega⟩ ?_
   exact vgo
 · rename_i y hy d
   rw [eS] at d
   have hy:Ow (wkL F ((S.drop 0).take (min (2*t) 80))) y:=hy
   rw [eS] at hy
   simp only [Bool.or_eq_false_iff,decide_eq_false_iff_not,SB.val] at d
   rw [eS]
   refine Ends.next (Ends.one (y:Os) ⟨hy,by omega⟩ ?_)
   exact vgo
def fcFind:Fc Tryz.prog C0 where
 tg:=.fn 35
 X:=(Nat×Nat×Nat×Nat)×Co5×(Nat×Nat×Nat×Nat×Nat×Nat)×Sl3×Sl3×(Nat×Nat×List Int)
 args _:=[.ptr 0 0 0,.ptr 1 0 0]
 mem:=fun ((bd,qd,bw,qw),(bC,qC,t,d,g,r),(bF,qF,be,qe,bl,ql),(o,b,q,l,i,n,c),(o',b',q',l',i',n',c'),(bs,qs,S))=>dwC F bd qd bw qw [.sl 6 i n c,.sl 7 i' n' c',.sl 8 0 (2*t) (2*t),.nils,.int .i64 0,.nils,.bool .f] bC qC t d g r bF qF be qe bl ql ++ [⟨b,q,1,false,some o,.rows 5 l⟩,⟨b',q',1,false,some o',.rows 5 l'⟩,⟨bs,qs,1,false,none,.rows 3 S⟩]
 pre:=fun (_,(_,_,t,d,g,r),_,_,_,(bs,qs,S))=>t≤40∧S.length=2*t
 alts:=fun ((bd,qd,bw,qw),(bC,qC,t,d,g,r),(bF,qF,be,qe,bl,ql),(o,b,q,l,i,n,c),(o',b',q',l',i',n',c'),(bs,qs,S))=>[⟨Os,fun y=>Ow (wkL F S) y∧(t<wkN F S∨(wkL F S).length≠wkN F S+1),fun y=>eV 1,fun y=>dwC F bd qd bw qw [.sl 6 i n c,.sl 7 i' n' c',.sl 8 0 (2*t) (2*t),.sl 9 0 (wkL F S).length y.2.2.2,.int .i64 (wkN F S:Int),.nils,.bool .f] bC qC t d g r bF qF be qe bl ql ++ [⟨b,q,1,false,some o,.rows 5 l⟩,⟨b',q',1,false,some o',.rows 5 l'⟩,⟨bs,qs,1,false,none,.rows 3 S⟩,osC true y]⟩,
      ⟨Os,fun y=>Ow (wkL F S) y∧¬ (t<wkN F S∨(wkL F S).length≠wkN F S+1),fun y=>.nili,fun y=>dwC F bd qd bw qw [.sl 6 i n c,.sl 7 i' n' c',.sl 8 0 (2*t) (2*t),.sl 9 0 (wkL F S).length y.2.2.2,.int .i64 (wkN F S:Int),.nils,.bool .f] bC qC t d g r bF qF be qe bl ql ++ [⟨b,q,1,false,some o,.rows 5 l⟩,⟨b',q',1,false,some o',.rows 5 l'⟩,⟨bs,qs,1,false,none,.rows 3 S⟩,osC true y]⟩]
 mat vs m:=match vs with
  | [.ptr k _ _,.ptr w _ _]=>match nth m k,nth m w with
    | ⟨bd,qd,_,_,_,.one (.ptr p _ _ :: _)⟩,⟨bw,qw,_,_,_,.one (.sl s i n c :: .sl s' i' n' c' :: .sl z _ _ _ :: _)⟩=>match nth m p with
      | ⟨bC,qC,_,_,_,.one (.ptr f _ _ :: .int _ (t:Nat) :: .int _ (d:Nat) :: .int _ (g:Nat) :: .int _ (r:Nat) :: _)⟩=>match nth m f with
        | ⟨bF,qF,_,_,_,.one (_ :: _ :: .sl x _ _ _ :: .sl h _ _ _ :: _)⟩=>match nth m x,nth m h,nth m s,nth m s',nth m z with
          | ⟨be,qe,_,_,_,_⟩,⟨bl,ql,_,_,_,_⟩,⟨b,q,_,_,o,.rows 5 l⟩,⟨b',q',_,_,o',.rows 5 l'⟩,⟨bs,qs,_,_,_,.rows 3 S⟩=>some (((bd,qd,bw,qw),(bC,qC,t,d,g,r),(bF,qF,be,qe,bl,ql),(onOf o,b,q,l,i,n,c),(onOf o',b',q',l',i',n',c'),(bs,qs,S)),[k,w,p,f,x,h,s,s',z])
          | _,_,_,_,_=>none
        | _=>none
      | _=>none
    | _,_=>none
  | _=>none
 ok:=fun ((bd,qd,bw,qw),(bC,qC,t,d,g,r),(bF,qF,be,qe,bl,ql),(o,b,q,l,i,n,c),(o',b',q',l',i',n',c'),(bs,qs,S)) h=>find_ok F bd qd bw qw bC qC t d g r bF qF be qe bl ql h.1 o b q l i n c o' b' q' l' i' n' c' bs qs S h.2
end
end
end Go.Vx
namespace Go.Vx
open Go Go.Proofs
noncomputable section
variable [Gl]
section
variable {F:Gf} (K:Kd F)
abbrev NwY:=(Nat×(Nat×Nat×Nat)×Os×(Nat×Nat×List Int×Nat))×(Nat→Value)×List (Rw Int)
abbrev nwL (n:Nat) (y:NwY):List (Ck C0):=[⟨y.1.1,0,263,true,none,.one (.ptr 2 0 0 :: .int .i64 (K.t:Int) :: .int .i64 (n:Int) :: .int .i64 (K.D:Int) :: .int .i64 (nP K:Int) :: .sl 5 0 (nb K.G).length y.1.2.2.1.2.2.2 :: .sl 6 0 (nP K) y.1.2.2.2.2.2.2 :: tvC y.2.1)⟩,⟨0,0,1,false,some false,.rows 22 y.2.2⟩,
        ⟨y.1.2.1.1,0,4,true,none,.one [.int .i64 (F.m:Int),.int .i64 (szF F:Int),.sl 3 0 (nF F) (nF F),.sl 4 0 (szF F) (szF F)]⟩,⟨y.1.2.1.2.1,0,1,true,none,.rows 3 (xT F)⟩,⟨y.1.2.1.2.2,0,1,true,none,.rows 3 (lT F)⟩,osB true y.1.2.2.1,
        ⟨y.1.2.2.2.1,y.1.2.2.2.2.1,1,true,none,.rows 5 y.1.2.2.2.2.2.1⟩]
abbrev NwOK (y:NwY):Prop:=TvOK K 256 y.2.1 y.2.2∧nP K≤y.1.2.2.2.2.2.1.length∧y.1.2.2.2.2.2.1.take (nP K)=by' (nP K) (gK K)
def fcNew:Fc Tryz.prog C0 where
 tg:=.fn 27
 X:=Nat
 args n:=[.int .i64 (F.m:Int),.int .i64 (K.t:Int),.int .i64 (n:Int)]
 mem _:=[]
 pre n:=1≤n∧n≤2048∧8*n+K.D≤nF F
 alts n:=[⟨NwY,NwOK K,fun _=>.tup [.ptr 0 0 0,.nili],nwL K n⟩]
 mat vs m:=match vs with
  | [_,_,.int _ (n:Int)]=>some (n.toNat,[])
  | _=>none
 ok n h:=cnew_ok K n h.1 h.2.1 h.2.2
end
section
variable (F:Gf)
theorem seek_ok (bd qd bw qw bC qC t d g r bF qF be qe bl ql:Nat) (hd:d<100000) (hg:g<100000) (o:Bool) (b q:Nat) (l:List Int) (i n c:Nat) (o':Bool) (b' q':Nat) (l':List Int) (i' n' c':Nat) (bs qs:Nat) (S:List Int) (oL:Bool) (bL qL:Nat) (L:List Int) (z k:Nat) (hz:z≤k) (hk:k≤L.length) (hz2:z≤2048) (hoL:oL=false→z=0∧k=0) (len:Int) (W:List Int) (hW:L.take z=W):
 Does (C:=C0) Tryz.prog (.fn 36) (dwC F bd qd bw qw [.sl 6 i n c,.sl 7 i' n' c',.sl 8 0 (2*t) (2*t),.sl 9 0 z k,.int .i64 len,.nils,.bool .f] bC qC t d g r bF qF be qe bl ql ++ [⟨b,q,1,false,some o,.rows 5 l⟩,⟨b',q',1,false,some o',.rows 5 l'⟩,⟨bs,qs,1,false,none,.rows 3 S⟩,⟨bL,qL,1,false,some oL,.rows 3 L⟩]) [.ptr 0 0 0,.ptr 1 0 0]
  [⟨Oq,fun y=>Oqw (srL F W (8*(d:Int)+(g:Int))) y∧((srL F W (8*(d:Int)+(g:Int))).length:Int)≠len,fun y=>eV 1,fun y=>dwC F bd qd bw qw [.sl 6 i n c,.sl 7 i' n' c',.sl 8 0 (2*t) (2*t),.sl 9 0 z k,.int .i64 len,.sl 10 0 (srL F W (8*(d:Int)+(g:Int))).length y.2.2.2.2,.bool .f] bC qC t d g r bF qF be qe bl ql ++ [⟨b,q,1,false,some o,.rows 5 l⟩,⟨b',q',1,false,some o',.rows 5 l'⟩,⟨bs,qs,1,false,none,.rows 3 S⟩,⟨bL,qL,1,false,some oL,.rows 3 L⟩,oqC true y]⟩,
   ⟨Oq,fun y=>Oqw (srL F W (8*(d:Int)+(g:Int))) y∧((srL F W (8*(d:Int)+(g:Int))).length:Int)=len,fun y=>.nili,fun y=>dwC F bd qd bw qw [.sl 6 i n c,.sl 7 i' n' c',.sl 8 0 (2*t) (2*t),.sl 9 0 z k,.int .i64 len,.sl 10 0 (srL F W (8*(d:Int)+(g:Int))).length y.2.2.2.2,.bool .f] bC qC t d g r bF qF be qe bl ql ++ [⟨b,q,1,false,some o,.rows 5 l⟩,⟨b',q',1,false,some o',.rows 5 l'⟩,⟨bs,qs,1,false,none,.rows 3 S⟩,⟨bL,qL,1,false,some oL,.rows 3 L⟩,oqC true y]⟩]:=by
 refine loc_fn (P:=Tryz.prog) (E:=⟨[fcSearch F],[pcCoField,pcCoBits],34,[(1,[],[.p 0,.p 1,.p 2,.p 3,.p 6,.p 7,.p 8,.p 10,.p 11,.p 12,.q 4,.q 5,.q 9,.q 13,.q 14,.e 15,.p 16,.p 17,.e 18])],[],[],none⟩) (L:=[]) mix Tryz.func36 rfl (by kernel_rfl) (by kernel_rfl) rfl rfl ?_
 ((conv=>arg 1;reduce);with_reducible repeat' first | exact ty | refine ta ?_ ?_ | refine ti fun _ => ?_ | refine tf fun _ => ?_ | refine tl ?_)
 all_goals try exact vlf
 all_goals have eW:(L.drop 0).take (min z 2048)=W:=by rw [zm,Nat.min_eq_left hz2];exact hW
 · exact ⟨wb d,by show (d:Int)<_;omega,wb g,by show (g:Int)<_;omega⟩
 · exact ⟨⟨by show 0+z≤L.length;omega,by show z<1000000000;omega,hoL⟩,hz⟩
 · rename_i y hy e
   have hy:Oqw (srL F ((L.drop 0).take (min z 2048)) (8*(d:Int)+(g:Int))) y:=hy
   rw [eW] at hy e
   rw [eW]
   refine Ends.one (y:Oq) ⟨hy,ng e⟩ ?_
   exact vgo
 · rename_i y hy e
   have hy:Oqw (srL F ((L.drop 0).take (min z 2048)) (8*(d:Int)+(g:Int))) y:=hy
   rw [eW] at hy e
   rw [eW]
   refine Ends.next (Ends.one (y:Oq) ⟨hy,Classical.not_not.1 (nf e)⟩ ?_)
   exact vgo
def fcSeek:Fc Tryz.prog C0 where
 tg:=.fn 36
 X:=(Nat×Nat×Nat×Nat)×Co5×(Nat×Nat×Nat×Nat×Nat×Nat)×Sl3×Sl3×(Nat×Nat×List Int)×(Bool×Nat×Nat×List Int×Nat×Nat)×Int
 args _:=[.ptr 0 0 0,.ptr 1 0 0]
 mem:=fun ((bd,qd,bw,qw),(bC,qC,t,d,g,r),(bF,qF,be,qe,bl,ql),(o,b,q,l,i,n,c),(o',b',q',l',i',n',c'),(bs,qs,S),(oL,bL,qL,L,z,k),len)=>dwC F bd qd bw qw [.sl 6 i n c,.sl 7 i' n' c',.sl 8 0 (2*t) (2*t),.sl 9 0 z k,.int .i64 len,.nils,.bool .f] bC qC t d g r bF qF be qe bl ql ++ [⟨b,q,1,false,some o,.rows 5 l⟩,⟨b',q',1,false,some o',.rows 5 l'⟩,⟨bs,qs,1,false,none,.rows 3 S⟩,⟨bL,qL,1,false,some oL,.rows 3 L⟩]
 pre:=fun (_,(_,_,t,d,g,r),_,_,_,_,(oL,bL,qL,L,z,k),len)=>(d<100000∧g<100000)∧z≤k∧k≤L.length∧z≤2048∧(oL=false→z=0∧k=0)
 alts:=fun ((bd,qd,bw,qw),(bC,qC,t,d,g,r),(bF,qF,be,qe,bl,ql),(o,b,q,l,i,n,c),(o',b',q',l',i',n',c'),(bs,qs,S),(oL,bL,qL,L,z,k),len)=>[⟨Oq,fun y=>Oqw (srL F (L.take z) (8*(d:Int)+(g:Int))) y∧((srL F (L.take z) (8*(d:Int)+(g:Int))).length:Int)≠len,fun y=>eV 1,fun y=>dwC F bd qd bw qw [.sl 6 i n c,.sl 7 i' n' c',.sl 8 0 (2*t) (2*t),.sl 9 0 z k,.int .i64 len,.sl 10 0 (srL F (L.take z) (8*(d:Int)+(g:Int))).length y.2.2.2.2,.bool .f] bC qC t d g r bF qF be qe bl ql ++ [⟨b,q,1,false,some o,.rows 5 l⟩,⟨b',q',1,false,some o',.rows 5 l'⟩,⟨bs,qs,1,false,none,.rows 3 S⟩,⟨bL,qL,1,false,some oL,.rows 3 L⟩,oqC true y]⟩,
      ⟨Oq,fun y=>Oqw (srL F (L.take z) (8*(d:Int)+(g:Int))) y∧((srL F (L.take z) (8*(d:Int)+(g:Int))).length:Int)=len,fun y=>.nili,fun y=>dwC F bd qd bw qw [.sl 6 i n c,.sl 7 i' n' c',.sl 8 0 (2*t) (2*t),.sl 9 0 z k,.int .i64 len,.sl 10 0 (srL F (L.take z) (8*(d:Int)+(g:Int))).length y.2.2.2.2,.bool .f] bC qC t d g r bF qF be qe bl ql ++ [⟨b,q,1,false,some o,.rows 5 l⟩,⟨b',q',1,false,some o',.rows 5 l'⟩,⟨bs,qs,1,false,none,.rows 3 S⟩,⟨bL,qL,1,false,some oL,.rows 3 L⟩,oqC true y]⟩]
 mat vs m:=match vs with
  | [.ptr kk _ _,.ptr w _ _]=>match nth m kk,nth m w with
    | ⟨bd,qd,_,_,_,.one (.ptr p _ _ :: _)⟩,⟨bw,qw,_,_,_,.one (.sl s i n c :: .sl s' i' n' c' :: .sl y _ _ _ :: .sl v _ z k :: .int _ len :: _)⟩=>match nth m p with
      | ⟨bC,qC,_,_,_,.one (.ptr f _ _ :: .int _ (t:Nat) :: .int _ (d:Nat) :: .int _ (g:Nat) :: .int _ (r:Nat) :: _)⟩=>match nth m f with
        | ⟨bF,qF,_,_,_,.one (_ :: _ :: .sl x _ _ _ :: .sl h _ _ _ :: _)⟩=>match nth m x,nth m h,nth m s,nth m s',nth m y,nth m v with
          | ⟨be,qe,_,_,_,_⟩,⟨bl,ql,_,_,_,_⟩,⟨b,q,_,_,o,.rows 5 l⟩,⟨b',q',_,_,o',.rows 5 l'⟩,⟨bs,qs,_,_,_,.rows 3 S⟩,⟨bL,qL,_,_,oL,.rows 3 L⟩=>some (((bd,qd,bw,qw),(bC,qC,t,d,g,r),(bF,qF,be,qe,bl,ql),(onOf o,b,q,l,i,n,c),(onOf o',b',q',l',i',n',c'),(bs,qs,S),(onOf oL,bL,qL,L,z,k),len),[kk,w,p,f,x,h,s,s',y,v])
          | _,_,_,_,_,_=>none
        | _=>none
      | _=>none
    | _,_=>none
  | _=>none
 ok:=fun ((bd,qd,bw,qw),(bC,qC,t,d,g,r),(bF,qF,be,qe,bl,ql),(o,b,q,l,i,n,c),(o',b',q',l',i',n',c'),(bs,qs,S),(oL,bL,qL,L,z,k),len) h=>seek_ok F bd qd bw qw bC qC t d g r bF qF be qe bl ql h.1.1 h.1.2 o b q l i n c o' b' q' l' i' n' c' bs qs S oL bL qL L z k h.2.1 h.2.2.1 h.2.2.2.1 h.2.2.2.2 len _ rfl
end
end
end Go.Vx
namespace Go.Vx
open Go Go.Proofs
noncomputable section
variable [Gl]
@[irreducible] def tnD (g:Nat) (D:List Int) (zs:List Int):List Int:=zs.foldl (fun D z=>fpD g D z.toNat) D
@[irreducible] def tnP (g:Nat) (R:List Int) (zs:List Int):List Int:=zs.foldl (fun R z=>fpP g R z.toNat) R
theorem tnD_zero {g:Nat} {D:List Int}:tnD g D []=D:=by unfold tnD;rfl
theorem tnP_zero {g:Nat} {D:List Int}:tnP g D []=D:=by unfold tnP;rfl
theorem tnD_succ {g:Nat} {D zs:List Int} {j:Nat} (h:j<zs.length):tnD g D (zs.take (j+1))=fpD g (tnD g D (zs.take j)) (zs.getD j 0).toNat:=by
 unfold tnD;rw [take_snoc h,uo];rfl
theorem tnP_succ {g:Nat} {D zs:List Int} {j:Nat} (h:j<zs.length):tnP g D (zs.take (j+1))=fpP g (tnP g D (zs.take j)) (zs.getD j 0).toNat:=by
 unfold tnP;rw [take_snoc h,uo];rfl
theorem tnD_len {g:Nat} {D zs:List Int}:(tnD g D zs).length=D.length:=by
 unfold tnD
 induction zs generalizing D with
 | nil=>rfl
 | cons z zs ih=>rw [ut,ih,fpD_len]
theorem tnP_len {g:Nat} {D zs:List Int}:(tnP g D zs).length=D.length:=by
 unfold tnP
 induction zs generalizing D with
 | nil=>rfl
 | cons z zs ih=>rw [ut,ih,fpP_len]
section
variable (F:Gf)
def Tn0:Inv' C0:=⟨2,Unit,fun _=>[(12,.int .i64 0)],fun _ m=>m,fun _=>True,fun _=>1000000000⟩
def Tn1 (d r g z:Nat) (D R Z:List Int) (zz:z=Z.length):Inv' C0:=⟨2,Nat×Os×Os,fun x=>[(12,.int .i64 (x.1:Int))],fun x m=>match m with
 | a0 :: ⟨bw,qw,_,_,_,.one (_ :: _ :: w2 :: w3 :: w4 :: w5 :: w6 :: _)⟩ :: a2 :: a3 :: a4 :: a5 :: a6 :: a7 :: a8 :: a9 :: a10 :: _=>
   [a0,⟨bw,qw,7,true,none,.one [.sl 11 0 d x.2.1.2.2.2,.sl 12 0 r x.2.2.2.2.2,w2,w3,w4,w5,w6]⟩,a2,a3,a4,a5,a6,a7,a8,a9,a10,osB true x.2.1,osB true x.2.2]
 | m=>m,fun x=>(1≤x.1∧x.1≤z)∧Ow (tnD g D (Z.take x.1)) x.2.1∧Ow (tnP g R (Z.take x.1)) x.2.2,fun x=>z - x.1⟩
theorem turn_ok (bd qd bw qw bC qC t d g r bF qF be qe bl ql:Nat) (hd:d<100000) (hg:g≤8*r) (hr:r<100000) (o:Bool) (b q:Nat) (l:List Int) (i c:Nat) (h:i+d≤l.length) (hc:d≤c) (ho:o=false→d=0∧c=0) (o':Bool) (b' q':Nat) (l':List Int) (i' c':Nat) (h':i'+r≤l'.length) (hc':r≤c') (ho':o'=false→r=0∧c'=0) (bs qs:Nat) (S:List Int) (oL:Bool) (bL qL:Nat) (L:List Int) (w3 k3:Nat) (len:Int) (oZ:Bool) (bZ qZ:Nat) (zl:List Int) (z k:Nat) (hz:z≤k) (hk:k≤zl.length) (hz2:z<1000000) (hoZ:oZ=false→z=0∧k=0) (Z:List Int) (hZ:zl.take z=Z) (hzz:∀ x∈Z,0≤x∧x<8*(d:Int)+(g:Int)) (D R:List Int) (hD:(l.drop i).take d=D) (hR:(l'.drop i').take r=R):
 Does (C:=C0) Tryz.prog (.fn 37) (dwC F bd qd bw qw [.sl 6 i d c,.sl 7 i' r c',.sl 8 0 (2*t) (2*t),.sl 9 0 w3 k3,.int .i64 len,.sl 10 0 z k,.bool .f] bC qC t d g r bF qF be qe bl ql ++ [⟨b,q,1,false,some o,.rows 5 l⟩,⟨b',q',1,false,some o',.rows 5 l'⟩,⟨bs,qs,1,false,none,.rows 3 S⟩,⟨bL,qL,1,false,some oL,.rows 3 L⟩,⟨bZ,qZ,1,false,some oZ,.rows 3 zl⟩]) [.ptr 0 0 0,.ptr 1 0 0]
  [⟨Unit,fun _=>z=0,fun _=>.nili,fun y=>dwC F bd qd bw qw [.sl 6 i d c,.sl 7 i' r c',.sl 8 0 (2*t) (2*t),.sl 9 0 w3 k3,.int .i64 len,.sl 10 0 z k,.bool .f] bC qC t d g r bF qF be qe bl ql ++ [⟨b,q,1,false,some o,.rows 5 l⟩,⟨b',q',1,false,some o',.rows 5 l'⟩,⟨bs,qs,1,false,none,.rows 3 S⟩,⟨bL,qL,1,false,some oL,.rows 3 L⟩,⟨bZ,qZ,1,false,some oZ,.rows 3 zl⟩]⟩,
   ⟨Os×Os,fun y=>z≠0∧Ow (tnD g D Z) y.1∧Ow (tnP g R Z) y.2,fun _=>.nili,fun y=>dwC F bd qd bw qw [.sl 11 0 d y.1.2.2.2,.sl 12 0 r y.2.2.2.2,.sl 8 0 (2*t) (2*t),.sl 9 0 w3 k3,.int .i64 len,.sl 10 0 z k,.bool .f] bC qC t d g r bF qF be qe bl ql ++ [⟨b,q,1,false,some o,.rows 5 l⟩,⟨b',q',1,false,some o',.rows 5 l'⟩,⟨bs,qs,1,false,none,.rows 3 S⟩,⟨bL,qL,1,false,some oL,.rows 3 L⟩,⟨bZ,qZ,1,false,some oZ,.rows 3 zl⟩,osB true y.1,osB true y.2]⟩]:=by
 have zz:z=Z.length:=by rw [← hZ,ze];omega
 have zv:∀ j,j<z→zl.getD j 0=Z.getD j 0:=fun j hj=>by rw [← hZ];simp only [zy];rw [yn hj]
 refine loc_fn (P:=Tryz.prog) (E:=⟨[fcFlip],[],44,[(4,[],[.p 0,.p 1,.p 2,.p 3,.p 4,.p 6,.p 7,.p 8,.p 10,.p 11,.p 12,.p 14,.q 5,.q 9,.q 13,.e 15,.p 16,.p 17,.p 18,.p 19,.p 20,.p 21,.e 22,.p 23,.p 24,.e 25,.p 26])],[],[],none⟩) (L:=[Tn0,Tn1 d r g z D R Z zz]) mix Tryz.func37 rfl (by kernel_rfl) (by kernel_rfl) rfl rfl ?_
 ((conv=>arg 1;reduce);with_reducible repeat' first | exact ty | refine ta ?_ ?_ | refine ti fun _ => ?_ | refine tf fun _ => ?_ | refine tl ?_)
 all_goals try exact vlf
 · exact Stands.one () ⟨trivial,by exact vgo⟩
 all_goals try (
  rename_i x hx e
  have e:(0:Int)<(z:Int):=ng e
  have zv0:zl.getD ((0:Int).toNat+0) 0=Z.getD 0 0:=zv 0 (by omega)
  have zb0:=hzz _ (getD_mem (l:=Z) (d:=0) (i:=0) (by omega))
  first
  | exact e
  | exact on_of hoZ (by omega)
  | (show 0<zl.length;omega)
  | (refine ⟨⟨h,hc,ho⟩,⟨h',hc',ho'⟩,hd,hr,?_,?_,?_⟩
     · show (g:Int).toNat≤8*r;omega
     · show 0≤zl.getD ((0:Int).toNat+0) 0;rw [zv0];omega
     · show zl.getD ((0:Int).toNat+0) 0<8*(d:Int)+(((g:Int).toNat:Nat):Int);rw [zv0];omega))
 · rename_i x hx e y hy
   have e:(0:Int)<(z:Int):=ng e
   have zv0:zl.getD ((0:Int).toNat+0) 0=Z.getD 0 0:=zv 0 (by omega)
   obtain ⟨y1,y2⟩:=y
   obtain ⟨hy1,hy2⟩:Ow (fpD (g:Int).toNat ((l.drop i).take d) (zl.getD ((0:Int).toNat+0) 0).toNat) y1∧Ow (fpP (g:Int).toNat ((l'.drop i').take r) (zl.getD ((0:Int).toNat+0) 0).toNat) y2:=hy
   rw [hD,zv0,zu] at hy1
   rw [hR,zv0,zu] at hy2
   refine Stands.next (Stands.one ((1,y1,y2):Nat×Os×Os) ⟨⟨⟨zw 1,by show 1≤z;omega⟩,?_,?_⟩,by show z - 1<1000000000;omega,?_⟩)
   · show Ow (tnD g D (Z.take (0+1))) y1
     rw [tnD_succ (by omega),sf,tnD_zero];exact hy1
   · show Ow (tnP g R (Z.take (0+1))) y2
     rw [tnP_succ (by omega),sf,tnP_zero];exact hy2
   exact vgo
 · rename_i x hx e
   have e:¬ (0:Int)<(z:Int):=nf e
   refine Ends.one () (show z=0 by omega) ?_
   exact vgo
 all_goals try (
  rename_i x hx e
  obtain ⟨j,y1,y2⟩:=x
  obtain ⟨⟨k1,k2⟩,k3,k4⟩:(1≤j∧j≤z)∧Ow (tnD g D (Z.take j)) y1∧Ow (tnP g R (Z.take j)) y2:=hx
  have e:(j:Int)<(z:Int):=ng e
  have zvj:zl.getD ((j:Int).toNat+0) 0=Z.getD j 0:=zv j (by omega)
  have zbj:=hzz _ (getD_mem (l:=Z) (d:=0) (i:=j) (by omega))
  have lD:(tnD g D (Z.take j)).length=d:=by rw [tnD_len,← hD];exact row_len h
  have lR:(tnP g R (Z.take j)).length=r:=by rw [tnP_len,← hR];exact row_len h'
  first
  | exact e
  | exact on_of hoZ (by omega)
  | (show (j:Int).toNat+0<zl.length;omega)
  | (refine ⟨⟨?_,by rw [← lD];exact k3.cap,fun e=>by rw [← lD];exact k3.nil e⟩,⟨?_,by rw [← lR];exact k4.cap,fun e=>by rw [← lR];exact k4.nil e⟩,hd,hr,?_,?_,?_⟩
     · have a1:=k3.cap;have a2:=k3.len;show 0+d≤y1.2.2.1.length;omega
     · have a1:=k4.cap;have a2:=k4.len;show 0+r≤y2.2.2.1.length;omega
     · show (g:Int).toNat≤8*r;omega
     · show 0≤zl.getD ((j:Int).toNat+0) 0;rw [zvj];omega
     · show zl.getD ((j:Int).toNat+0) 0<8*(d:Int)+(((g:Int).toNat:Nat):Int);rw [zvj];omega))
 all_goals try (
  rename_i x hx e y hy
  obtain ⟨j,x1,x2⟩:=x
  obtain ⟨⟨k1,k2⟩,k3,k4⟩:(1≤j∧j≤z)∧Ow (tnD g D (Z.take j)) x1∧Ow (tnP g R (Z.take j)) x2:=hx
  have e:(j:Int)<(z:Int):=ng e
  have zvj:zl.getD ((j:Int).toNat+0) 0=Z.getD j 0:=zv j (by omega)
  have lD:(tnD g D (Z.take j)).length=d:=by rw [tnD_len,← hD];exact row_len h
  have lR:(tnP g R (Z.take j)).length=r:=by rw [tnP_len,← hR];exact row_len h'
  first
  | exact inR64 (n:=(j:Int)+1) (by omega) (by omega)
  | (obtain ⟨y1,y2⟩:=y
     obtain ⟨hy1,hy2⟩:Ow (fpD (g:Int).toNat ((x1.2.2.1.drop 0).take d) (zl.getD ((j:Int).toNat+0) 0).toNat) y1∧Ow (fpP (g:Int).toNat ((x2.2.2.1.drop 0).take r) (zl.getD ((j:Int).toNat+0) 0).toNat) y2:=hy
     have ed:(x1.2.2.1.drop 0).take d=tnD g D (Z.take j):=by have:=k3.eq;rw [lD] at this;exact this
     have er:(x2.2.2.1.drop 0).take r=tnP g R (Z.take j):=by have:=k4.eq;rw [lR] at this;exact this
     rw [ed,zvj,zu] at hy1
     rw [er,zvj,zu] at hy2
     refine Stands.next (Stands.one ((j+1,y1,y2):Nat×Os×Os) ⟨⟨⟨by show 1≤j+1;omega,by show j+1≤z;omega⟩,?_,?_⟩,by show z - (j+1)<z - j;omega,?_⟩)
     · show Ow (tnD g D (Z.take (j+1))) y1
       rw [tnD_succ (by omega)];exact hy1
     · show Ow (tnP g R (Z.take (j+1))) y2
       rw [tnP_succ (by omega)];exact hy2
     exact vgo))
 · rename_i x hx e
   obtain ⟨j,x1,x2⟩:=x
   obtain ⟨⟨k1,k2⟩,k3,k4⟩:(1≤j∧j≤z)∧Ow (tnD g D (Z.take j)) x1∧Ow (tnP g R (Z.take j)) x2:=hx
   have e:¬ (j:Int)<(z:Int):=nf e
   obtain rfl:j=z:=by omega
   have ez:Z.take j=Z:=by rw [zc (by omega)]
   rw [ez] at k3 k4
   refine Ends.next (Ends.one ((x1,x2):Os×Os) ⟨by omega,k3,k4⟩ ?_)
   exact vgo
def fcTurn:Fc Tryz.prog C0 where
 tg:=.fn 37
 X:=(Nat×Nat×Nat×Nat)×Co5×(Nat×Nat×Nat×Nat×Nat×Nat)×(Bool×Nat×Nat×List Int×Nat×Nat)×(Bool×Nat×Nat×List Int×Nat×Nat)×(Nat×Nat×List Int)×(Bool×Nat×Nat×List Int×Nat×Nat)×Int×(Bool×Nat×Nat×List Int×Nat×Nat)
 args _:=[.ptr 0 0 0,.ptr 1 0 0]
 mem:=fun ((bd,qd,bw,qw),(bC,qC,t,d,g,r),(bF,qF,be,qe,bl,ql),(o,b,q,l,i,c),(o',b',q',l',i',c'),(bs,qs,S),(oL,bL,qL,L,w3,k3),len,(oZ,bZ,qZ,zl,z,k))=>dwC F bd qd bw qw [.sl 6 i d c,.sl 7 i' r c',.sl 8 0 (2*t) (2*t),.sl 9 0 w3 k3,.int .i64 len,.sl 10 0 z k,.bool .f] bC qC t d g r bF qF be qe bl ql ++ [⟨b,q,1,false,some o,.rows 5 l⟩,⟨b',q',1,false,some o',.rows 5 l'⟩,⟨bs,qs,1,false,none,.rows 3 S⟩,⟨bL,qL,1,false,some oL,.rows 3 L⟩,⟨bZ,qZ,1,false,some oZ,.rows 3 zl⟩]
 pre:=fun (_,(_,_,t,d,g,r),_,(o,b,q,l,i,c),(o',b',q',l',i',c'),_,_,_,(oZ,bZ,qZ,zl,z,k))=>(d<100000∧g≤8*r∧r<100000)∧(i+d≤l.length∧d≤c∧(o=false→d=0∧c=0))∧(i'+r≤l'.length∧r≤c'∧(o'=false→r=0∧c'=0))∧(z≤k∧k≤zl.length∧z<1000000∧(oZ=false→z=0∧k=0))∧∀ x∈zl.take z,0≤x∧x<8*(d:Int)+(g:Int)
 alts:=fun ((bd,qd,bw,qw),(bC,qC,t,d,g,r),(bF,qF,be,qe,bl,ql),(o,b,q,l,i,c),(o',b',q',l',i',c'),(bs,qs,S),(oL,bL,qL,L,w3,k3),len,(oZ,bZ,qZ,zl,z,k))=>[⟨Unit,fun _=>z=0,fun _=>.nili,fun y=>dwC F bd qd bw qw [.sl 6 i d c,.sl 7 i' r c',.sl 8 0 (2*t) (2*t),.sl 9 0 w3 k3,.int .i64 len,.sl 10 0 z k,.bool .f] bC qC t d g r bF qF be qe bl ql ++ [⟨b,q,1,false,some o,.rows 5 l⟩,⟨b',q',1,false,some o',.rows 5 l'⟩,⟨bs,qs,1,false,none,.rows 3 S⟩,⟨bL,qL,1,false,some oL,.rows 3 L⟩,⟨bZ,qZ,1,false,some oZ,.rows 3 zl⟩]⟩,
      ⟨Os×Os,fun y=>z≠0∧Ow (tnD g ((l.drop i).take d) (zl.take z)) y.1∧Ow (tnP g ((l'.drop i').take r) (zl.take z)) y.2,fun _=>.nili,fun y=>dwC F bd qd bw qw [.sl 11 0 d y.1.2.2.2,.sl 12 0 r y.2.2.2.2,.sl 8 0 (2*t) (2*t),.sl 9 0 w3 k3,.int .i64 len,.sl 10 0 z k,.bool .f] bC qC t d g r bF qF be qe bl ql ++ [⟨b,q,1,false,some o,.rows 5 l⟩,⟨b',q',1,false,some o',.rows 5 l'⟩,⟨bs,qs,1,false,none,.rows 3 S⟩,⟨bL,qL,1,false,some oL,.rows 3 L⟩,⟨bZ,qZ,1,false,some oZ,.rows 3 zl⟩,osB true y.1,osB true y.2]⟩]
 mat vs m:=match vs with
  | [.ptr kk _ _,.ptr w _ _]=>match nth m kk,nth m w with
    | ⟨bd,qd,_,_,_,.one (.ptr p _ _ :: _)⟩,⟨bw,qw,_,_,_,.one (.sl s i _ c :: .sl s' i' _ c' :: .sl y _ _ _ :: .sl v _ w3 k3 :: .int _ len :: .sl u _ z k :: _)⟩=>match nth m p with
      | ⟨bC,qC,_,_,_,.one (.ptr f _ _ :: .int _ (t:Nat) :: .int _ (d:Nat) :: .int _ (g:Nat) :: .int _ (r:Nat) :: _)⟩=>match nth m f with
        | ⟨bF,qF,_,_,_,.one (_ :: _ :: .sl x _ _ _ :: .sl h _ _ _ :: _)⟩=>match nth m x,nth m h,nth m s,nth m s',nth m y,nth m v,nth m u with
          | ⟨be,qe,_,_,_,_⟩,⟨bl,ql,_,_,_,_⟩,⟨b,q,_,_,o,.rows 5 l⟩,⟨b',q',_,_,o',.rows 5 l'⟩,⟨bs,qs,_,_,_,.rows 3 S⟩,⟨bL,qL,_,_,oL,.rows 3 L⟩,⟨bZ,qZ,_,_,oZ,.rows 3 zl⟩=>some (((bd,qd,bw,qw),(bC,qC,t,d,g,r),(bF,qF,be,qe,bl,ql),(onOf o,b,q,l,i,c),(onOf o',b',q',l',i',c'),(bs,qs,S),(onOf oL,bL,qL,L,w3,k3),len,(onOf oZ,bZ,qZ,zl,z,k)),[kk,w,p,f,x,h,s,s',y,v,u])
          | _,_,_,_,_,_,_=>none
        | _=>none
      | _=>none
    | _,_=>none
  | _=>none
 ok:=fun ((bd,qd,bw,qw),(bC,qC,t,d,g,r),(bF,qF,be,qe,bl,ql),(o,b,q,l,i,c),(o',b',q',l',i',c'),(bs,qs,S),(oL,bL,qL,L,w3,k3),len,(oZ,bZ,qZ,zl,z,k)) h=>turn_ok F bd qd bw qw bC qC t d g r bF qF be qe bl ql h.1.1 h.1.2.1 h.1.2.2 o b q l i c h.2.1.1 h.2.1.2.1 h.2.1.2.2 o' b' q' l' i' c' h.2.2.1.1 h.2.2.1.2.1 h.2.2.1.2.2 bs qs S oL bL qL L w3 k3 len oZ bZ qZ zl z k h.2.2.2.1.1 h.2.2.2.1.2.1 h.2.2.2.1.2.2.1 h.2.2.2.1.2.2.2 _ rfl h.2.2.2.2 _ _ rfl rfl
end
end
end Go.Vx
