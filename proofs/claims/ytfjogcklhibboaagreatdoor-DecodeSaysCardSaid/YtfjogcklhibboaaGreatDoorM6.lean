/-
  Round 10: syndromes of what was read: syndrome.Of.
  Round 10: polynomials over two elements az bytes: binpoly.Bit.
  Round 10: bytes az numbers whose bits are coefficients: plain facts.
  Round 10: polynomials over two elements az bytes: binpoly's trimmed, Degree.
  Round 10: binpoly's Exponents.
  The register of a division az bytes: a bit, a byte that comes to it: plain facts.
  Round 10: a shifted polynomial is added to bytes: plain facts.
  Round 10: binpoly's into.
  Round 10: is a number among these; slices.Sort of numbers.
  Round 10: binpoly's Mul.
  Round 10: the document's polynomials: Trim.
  Round 10: the document's polynomials: Times.
  Round 10: the document's sums and values of polynomials.
  Round 10: cosets, minimal polynomials, generators, az numbers that can be worked out: plain facts.
  Round 10: minimal.Coset.
  Conditions: none.
-/
import Derived.Test.YtfjogcklhibboaaGreatDoorM4
import Derived.Test.YtfjogcklhibboaaGreatDoorM5
import Derived.Shelf.SortM.SortNone
import Derived.Sort.EveryDepth
open Bool renaming and_eq_false_iff → qu, and_eq_true → zq, false_and → yf, or_eq_true → yd, true_and → zd, xor_false → vv
open Int renaming eq_ofNat_of_zero_le → yh, natCast_nonneg → wb, ofNat_tdiv → yj, ofNat_tmod → zb, toNat_natCast → zu
open List renaming drop_zero → zm, filter_append → sk, foldl_append → uo, getD → xg, getD_eq_getElem?_getD → zy, getElem?_eq_getElem → zt, getElem?_eq_none → yk, getElem?_replicate → sw, getElem?_set_self → uj, getElem?_take_of_lt → yn, getElem_mem → xe, length_append → zx, length_cons → xy, length_drop → wk, length_map → zn, length_replicate → xz, length_set → zh, length_take → ze, map_append → vq, map_map → td, mem_append_left → uq, mem_of_mem_take → xu, mem_singleton → wq, nodup_nil → vk, pairwise_singleton → rj, range → xq, range_succ → uc, replicate → zo, take_left' → vj, take_length → xb, take_of_length_le → zc, take_take → ot
open Nat renaming add_zero → za, and_one_is_mod → ru, blt → ye, div_le_self → si, eq_of_testBit_eq → vz, le_of_not_lt → vc, le_refl → zw, lt_of_le_of_lt → wh, lt_of_lt_of_le → zk, min_eq_left → xa, mod_lt → yv, one_lt_two_pow → ug, pow_le_pow_right → zj, pow_succ → wg, pow_zero → se, shiftLeft_eq → uw, sub_self → qo, sub_zero → rq, testBit_div_two_pow → pf, testBit_eq_decide_div_mod_eq → xd, testBit_lt_two_pow → xw, testBit_mod_two_pow → ss, testBit_shiftLeft → vr, testBit_xor → ww, two_pow_pos → yg, xor_lt_two_pow → wo, xor_zero → sy, zero_add → we, zero_le → zg, zero_shiftLeft → nu, zero_testBit → xj
open Option renaming getD_some → ym
set_option linter.unusedVariables false
set_option linter.unusedSimpArgs false
set_option linter.unusedSectionVars false
set_option maxRecDepth 100000
namespace Go.Vx
open Go Go.Proofs
noncomputable section
variable [Gl]
section
def wdB (g:Nat) (D R:List Int) (j:Nat):Bool:=if j<g then bt R j else bt D (j - g)
@[irreducible] def psL (g:Nat) (D R:List Int) (i:Nat):List Int:=((xq i).filter fun a:Nat=>wdB g D R a).map fun a:Nat=>(a:Int)
section
variable {g i:Nat} {D R:List Int}
theorem psL_zero:psL g D R 0=[]:=by unfold psL;rfl
theorem psL_yes (h:wdB g D R i=true):psL g D R (i+1)=psL g D R i ++ [(i:Int)]:=by
 unfold psL
 rw [uc,sk,vq]
 simp [h]
theorem psL_no (h:wdB g D R i=false):psL g D R (i+1)=psL g D R i:=by
 unfold psL
 rw [uc,sk,vq]
 simp [h]
theorem psL_len:(psL g D R i).length≤i:=by
 unfold psL
 rw [zn]
 exact Nat.le_trans (List.length_filter_le _ _) (by simp)
theorem psL_in:∀ a,a<(psL g D R i).length→0≤(psL g D R i).getD a 0∧(psL g D R i).getD a 0<(i:Int):=by
 intro a ha
 rw [zy,zt ha,ym]
 have hm:=xe ha
 unfold psL at hm
 obtain ⟨k,hk,e⟩:=List.mem_map.1 hm
 have hk:=List.mem_range.1 (List.mem_filter.1 hk).1
 have e2:(psL g D R i)[a]=(k:Int):=by rw [e];unfold psL;rfl
 rw [e2]
 omega
end
end
theorem bit8 {x:Int} (h:0≤x∧x<256) {s:Nat} (hs:s<8):decide (0<ibit .and .u8 (ishr .u8 x (s:Int)) 1)=x.toNat.testBit s:=by
 obtain ⟨a,rfl⟩:=yh h.1
 have h3:a / 2 ^ s≤a:=si _ _
 have e:=and8 (a:=a / 2 ^ s) (b:=1) (by omega) (by omega)
 rw [shr8 .u8 a s (show s≤8 by omega)]
 rw [show ibit .and .u8 ((a / 2 ^ s:Nat):Int) 1=((a / 2 ^ s &&& 1:Nat):Int) from e,ru,zu,xd]
 refine decide_eq_decide.2 ?_
 omega
theorem bitv {l:List Int} {i n:Nat} {W:List Int} {z:Int} {a:Nat} (hW:(l.drop i).take n=W) (kW:Byt8 W) (hz:z=(a:Int)) (ha:a / 8<n) (hl:i+n≤l.length):
 decide (0<ibit .and .u8 (ishr .u8 (l.getD ((z.tdiv 8).toNat+i) 0) (z.tmod 8)) 1)=bt W a:=by
 subst hz
 rw [show (a:Int).tdiv 8=((a / 8:Nat):Int) from (yj a 8).symm,show (a:Int).tmod 8=((a % 8:Nat):Int) from (zb a 8).symm,zu,row_at (n:=n) (a / 8) ha,hW]
 have hL:W.length=n:=by rw [← hW];exact row_len hl
 have hx:0≤W.getD (a / 8) 0∧W.getD (a / 8) 0<256:=by
  rw [zy,zt (by omega),ym]
  exact kW _ (xe _)
 exact bit8 hx (yv _ (by omega))
section
variable (F:Gf)
abbrev coC (F:Gf) (bC qC t d g r bF qF be qe bl ql:Nat):List (Ck C0):=[⟨bC,qC,263,false,none,.one [.ptr 1 0 0,.int .i64 (t:Int),.int .i64 (d:Int),.int .i64 (g:Int),.int .i64 (r:Int)]⟩,⟨bF,qF,4,false,none,.one [.int .i64 (F.m:Int),.int .i64 (szF F:Int),.sl 2 0 (nF F) (nF F),.sl 3 0 (szF F) (szF F)]⟩,xCk F be qe,lCk F bl ql]
def Of5n (g:Nat) (D R:List Int) (N:Nat):Inv' C0:=⟨5,Nat,fun i=>[(27,.int .i64 (i:Int)),(8,.nils)],fun i m=>m,fun i=>i≤N∧psL g D R i=[],fun i=>N - i⟩
def Of5s (g:Nat) (D R:List Int) (N:Nat):Inv' C0:=⟨5,Nat×Oq,fun x=>[(27,.int .i64 (x.1:Int)),(8,.sl 6 0 (psL g D R x.1).length x.2.2.2.2.2)],fun x m=>match m with
 | a0 :: a1 :: a2 :: a3 :: a4 :: a5 :: _=>[a0,a1,a2,a3,a4,a5,⟨x.2.2.1,x.2.2.2.1,1,true,none,.rows 3 x.2.2.2.2.1⟩]
 | m=>m,fun x=>x.1≤N∧Oqw (psL g D R x.1) (true,x.2.2),fun x=>N - x.1⟩
set_option maxHeartbeats 4000000 in
theorem of_ok (bC qC t d g r bF qF be qe bl ql:Nat) (ht:t<1000000) (hd:d<100000) (hg:g<100000) (hr:g≤8*r) (o:Bool) (b q:Nat) (l:List Int) (i n c:Nat) (h:i+n≤l.length) (ho:o=false→n=0∧c=0) (o':Bool) (b' q':Nat) (l':List Int) (i' n' c':Nat) (h':i'+n'≤l'.length) (ho':o'=false→n'=0∧c'=0) (hn:n=d) (hn':n'=r) (hrr:r<100000) (D R:List Int) (hD:(l.drop i).take n=D) (hR:(l'.drop i').take n'=R) (kD:Byt8 D) (kR:Byt8 R):
 Does (C:=C0) Tryz.prog (.fn 57) (coC F bC qC t d g r bF qF be qe bl ql ++ [⟨b,q,1,false,some o,.rows 5 l⟩,⟨b',q',1,false,some o',.rows 5 l'⟩]) [.ptr 0 0 0,.sl 4 i n c,.sl 5 i' n' c']
  [⟨Nat,fun _=>True,fun y=>.tup [.sl 6 0 (2*t) (2*t),.nili],fun y=>coC F bC qC t d g r bF qF be qe bl ql ++ [⟨b,q,1,false,some o,.rows 5 l⟩,⟨b',q',1,false,some o',.rows 5 l'⟩,⟨y,0,1,true,none,.rows 3 (svL F (psL g D R (8*d+g)) (2*t))⟩]⟩]:=by
 have by3:Tryz.prog.types[3].bytes=8:=by kernel_rfl
 refine loc_fn (P:=Tryz.prog) (E:=⟨[fcValues F],[pcCoData,pcCoParity,pcCoDegree,pcCoBits],59,[],[],[],none⟩) (L:=[Of5n g D R (8*d+g),Of5s g D R (8*d+g)]) mix Tryz.func57 rfl (by kernel_rfl) (by kernel_rfl) rfl rfl ?_
 ((conv=>arg 1;reduce);with_reducible repeat' first | exact ty | refine ta ?_ ?_ | refine ti fun _ => ?_ | refine tf fun _ => ?_ | refine tl ?_)
 all_goals try exact vlf
 · rename_i d0
   exfalso
   simp only [yd,decide_eq_true_eq,SB.val] at d0
   omega
 · exact ⟨wb d,by omega,wb g,by omega⟩
 · refine Stands.one (0:Nat) ⟨⟨zg _,psL_zero⟩,?_⟩
   exact vgo
 all_goals try (
  rename_i hh x hx d1 d2
  change Nat at x
  obtain ⟨j,ej⟩:∃ j:Nat,j=x:=⟨x,rfl⟩
  subst ej
  obtain ⟨k1,k2⟩:j≤8*d+g∧psL g D R j=[]:=hx
  have d1:(j:Int)<8*(d:Int)+(g:Int):=ng d1
  have d2:(g:Int)≤(j:Int):=ng d2
  have ez:(j:Int) - (g:Int)=((j - g:Nat):Int):=by omega
  have eq1:((j:Int) - (g:Int)).tdiv 8=(((j - g) / 8:Nat):Int):=by rw [ez];exact (yj (j - g) 8).symm
  have eq2:((j:Int) - (g:Int)).tmod 8=(((j - g) % 8:Nat):Int):=by rw [ez];exact (zb (j - g) 8).symm
  have ew:wdB g D R j=bt D (j - g):=by unfold wdB;rw [if_neg (by omega)]
  have eb:=bitv (z:=(j:Int) - (g:Int)) hD kD ez (show (j - g) / 8<n by omega) h
  first
  | exact on_of ho (by omega)
  | (show inR .i64 (((j:Int) - (g:Int)).tdiv 8);rw [eq1];exact inR64 (n:=(((j - g) / 8:Nat):Int)) (by omega) (by omega))
  | exact inR64 (n:=((j:Int) - (g:Int))) (by omega) (by omega)
  | (show 0≤((j:Int) - (g:Int)).tdiv 8;rw [eq1];omega)
  | (show ((j:Int) - (g:Int)).tdiv 8<(n:Int);rw [eq1];omega)
  | (show (((j:Int) - (g:Int)).tdiv 8).toNat+i<l.length;rw [eq1];omega)
  | (show 0≤((j:Int) - (g:Int)).tmod 8;rw [eq2];omega))
 all_goals try (
  rename_i hh x hx d1 d2 d3
  change Nat at x
  obtain ⟨j,ej⟩:∃ j:Nat,j=x:=⟨x,rfl⟩
  subst ej
  obtain ⟨k1,k2⟩:j≤8*d+g∧psL g D R j=[]:=hx
  have d1:(j:Int)<8*(d:Int)+(g:Int):=ng d1
  have d2:(g:Int)≤(j:Int):=ng d2
  have ez:(j:Int) - (g:Int)=((j - g:Nat):Int):=by omega
  have eq1:((j:Int) - (g:Int)).tdiv 8=(((j - g) / 8:Nat):Int):=by rw [ez];exact (yj (j - g) 8).symm
  have eq2:((j:Int) - (g:Int)).tmod 8=(((j - g) % 8:Nat):Int):=by rw [ez];exact (zb (j - g) 8).symm
  have ew:wdB g D R j=bt D (j - g):=by unfold wdB;rw [if_neg (by omega)]
  have eb:=bitv (z:=(j:Int) - (g:Int)) hD kD ez (show (j - g) / 8<n by omega) h
  have d3:wdB g D R j=false:=by rw [ew,← eb];exact d3
  have rr:=psL_no d3
  first
  | exact inR64 (n:=(j:Int)+1) (by omega) (by omega)
  | (refine Stands.one (j+1:Nat) ⟨⟨by show j+1≤8*d+g;omega,by rw [rr];exact k2⟩,by show 8*d+g - (j+1)<8*d+g - j;omega,?_⟩
     ((conv=>arg 1;reduce);with_reducible repeat' first | exact ty | refine ta ?_ ?_ | refine ti fun _ => ?_ | refine tf fun _ => ?_ | refine tl ?_)
     all_goals first | exact vlf | (show (psL g D R j).length=(psL g D R (j+1)).length;rw [rr]) | (show (psL g D R (j+1)).length=(psL g D R j).length;rw [rr])))
 all_goals try (
  rename_i hh x hx d1 d2 d3 g5
  change Nat at x
  obtain ⟨j,ej⟩:∃ j:Nat,j=x:=⟨x,rfl⟩
  subst ej
  obtain ⟨k1,k2⟩:j≤8*d+g∧psL g D R j=[]:=hx
  have r1:=psL_len (g:=g) (D:=D) (R:=R) (i:=j)
  first
  | exact ⟨zw 1,by rw [by3];omega⟩
  | exact ⟨k2.cap,by have h9:yc≤yl.length:=k2.len;show 0+yc≤yl.length;omega,zw 1,by rw [by3];show ((psL g D R j).length+1)*8≤_;omega⟩)
 all_goals try (
  rename_i hh x hx d1 d2 d3 g5 g6 s2 hs2
  change Nat at x
  obtain ⟨j,ej⟩:∃ j:Nat,j=x:=⟨x,rfl⟩
  subst ej
  obtain ⟨k1,k2⟩:j≤8*d+g∧psL g D R j=[]:=hx
  have d1:(j:Int)<8*(d:Int)+(g:Int):=ng d1
  have d2:(g:Int)≤(j:Int):=ng d2
  have ez:(j:Int) - (g:Int)=((j - g:Nat):Int):=by omega
  have eq1:((j:Int) - (g:Int)).tdiv 8=(((j - g) / 8:Nat):Int):=by rw [ez];exact (yj (j - g) 8).symm
  have eq2:((j:Int) - (g:Int)).tmod 8=(((j - g) % 8:Nat):Int):=by rw [ez];exact (zb (j - g) 8).symm
  have ew:wdB g D R j=bt D (j - g):=by unfold wdB;rw [if_neg (by omega)]
  have eb:=bitv (z:=(j:Int) - (g:Int)) hD kD ez (show (j - g) / 8<n by omega) h
  have d3:wdB g D R j=true:=by rw [ew,← eb];exact d3
  have rr:=psL_yes d3
  change List Int at s2
  first
  | exact inR64 (n:=(j:Int)+1) (by omega) (by omega)
  | (refine Stands.next (Stands.one ((j+1,(true,g6,0,(j:Int) :: s2,1+s2.length)):Nat×Oq) ⟨⟨by show j+1≤8*d+g;omega,by show Oqw (psL g D R (j+1)) _;rw [rr,k2];exact ⟨rfl,by show 1≤1+s2.length;omega,by show 1+s2.length≤((j:Int) :: s2).length;rw [xy];omega,fun h=>by cases h⟩⟩,by show 8*d+g - (j+1)<8*d+g - j;omega,?_⟩)
     ((conv=>arg 1;reduce);with_reducible repeat' first | exact ty | refine ta ?_ ?_ | refine ti fun _ => ?_ | refine tf fun _ => ?_ | refine tl ?_)
     all_goals first | exact vlf | (show (psL g D R (j+1)).length=1;rw [rr,k2];rfl) | (show (psL g D R (j+1)).length=(psL g D R j).length+1;rw [rr,zx];rfl) | (show 1=(psL g D R (j+1)).length;rw [rr,k2];rfl) | (show (psL g D R j).length+1=(psL g D R (j+1)).length;rw [rr,zx];rfl) | rfl))
 all_goals try (
  rename_i hh x hx d1 d2
  change Nat at x
  obtain ⟨j,ej⟩:∃ j:Nat,j=x:=⟨x,rfl⟩
  subst ej
  obtain ⟨k1,k2⟩:j≤8*d+g∧psL g D R j=[]:=hx
  have d1:(j:Int)<8*(d:Int)+(g:Int):=ng d1
  have d2:¬ (g:Int)≤(j:Int):=nf d2
  have eq1:(j:Int).tdiv 8=((j / 8:Nat):Int):=(yj j 8).symm
  have eq2:(j:Int).tmod 8=((j % 8:Nat):Int):=(zb j 8).symm
  have ew:wdB g D R j=bt R j:=by unfold wdB;rw [if_pos (by omega)]
  have eb:=bitv (z:=(j:Int)) hR kR rfl (show j / 8<n' by omega) h'
  first
  | exact on_of ho' (by omega)
  | (show inR .i64 ((j:Int).tdiv 8);rw [eq1];exact inR64 (n:=((j / 8:Nat):Int)) (by omega) (by omega))
  | exact inR64 (n:=(j:Int)) (by omega) (by omega)
  | (show 0≤(j:Int).tdiv 8;rw [eq1];omega)
  | (show (j:Int).tdiv 8<(n':Int);rw [eq1];omega)
  | (show ((j:Int).tdiv 8).toNat+i'<l'.length;rw [eq1];omega)
  | (show 0≤(j:Int).tmod 8;rw [eq2];omega))
 all_goals try (
  rename_i hh x hx d1 d2 d3
  change Nat at x
  obtain ⟨j,ej⟩:∃ j:Nat,j=x:=⟨x,rfl⟩
  subst ej
  obtain ⟨k1,k2⟩:j≤8*d+g∧psL g D R j=[]:=hx
  have d1:(j:Int)<8*(d:Int)+(g:Int):=ng d1
  have d2:¬ (g:Int)≤(j:Int):=nf d2
  have eq1:(j:Int).tdiv 8=((j / 8:Nat):Int):=(yj j 8).symm
  have eq2:(j:Int).tmod 8=((j % 8:Nat):Int):=(zb j 8).symm
  have ew:wdB g D R j=bt R j:=by unfold wdB;rw [if_pos (by omega)]
  have eb:=bitv (z:=(j:Int)) hR kR rfl (show j / 8<n' by omega) h'
  have d3:wdB g D R j=false:=by rw [ew,← eb];exact d3
  have rr:=psL_no d3
  first
  | exact inR64 (n:=(j:Int)+1) (by omega) (by omega)
  | (refine Stands.one (j+1:Nat) ⟨⟨by show j+1≤8*d+g;omega,by rw [rr];exact k2⟩,by show 8*d+g - (j+1)<8*d+g - j;omega,?_⟩
     ((conv=>arg 1;reduce);with_reducible repeat' first | exact ty | refine ta ?_ ?_ | refine ti fun _ => ?_ | refine tf fun _ => ?_ | refine tl ?_)
     all_goals first | exact vlf | (show (psL g D R j).length=(psL g D R (j+1)).length;rw [rr]) | (show (psL g D R (j+1)).length=(psL g D R j).length;rw [rr])))
 all_goals try (
  rename_i hh x hx d1 d2 d3 g5
  change Nat at x
  obtain ⟨j,ej⟩:∃ j:Nat,j=x:=⟨x,rfl⟩
  subst ej
  obtain ⟨k1,k2⟩:j≤8*d+g∧psL g D R j=[]:=hx
  have r1:=psL_len (g:=g) (D:=D) (R:=R) (i:=j)
  first
  | exact ⟨zw 1,by rw [by3];omega⟩
  | exact ⟨k2.cap,by have h9:yc≤yl.length:=k2.len;show 0+yc≤yl.length;omega,zw 1,by rw [by3];show ((psL g D R j).length+1)*8≤_;omega⟩)
 all_goals try (
  rename_i hh x hx d1 d2 d3 g5 g6 s2 hs2
  change Nat at x
  obtain ⟨j,ej⟩:∃ j:Nat,j=x:=⟨x,rfl⟩
  subst ej
  obtain ⟨k1,k2⟩:j≤8*d+g∧psL g D R j=[]:=hx
  have d1:(j:Int)<8*(d:Int)+(g:Int):=ng d1
  have d2:¬ (g:Int)≤(j:Int):=nf d2
  have eq1:(j:Int).tdiv 8=((j / 8:Nat):Int):=(yj j 8).symm
  have eq2:(j:Int).tmod 8=((j % 8:Nat):Int):=(zb j 8).symm
  have ew:wdB g D R j=bt R j:=by unfold wdB;rw [if_pos (by omega)]
  have eb:=bitv (z:=(j:Int)) hR kR rfl (show j / 8<n' by omega) h'
  have d3:wdB g D R j=true:=by rw [ew,← eb];exact d3
  have rr:=psL_yes d3
  change List Int at s2
  first
  | exact inR64 (n:=(j:Int)+1) (by omega) (by omega)
  | (refine Stands.next (Stands.one ((j+1,(true,g6,0,(j:Int) :: s2,1+s2.length)):Nat×Oq) ⟨⟨by show j+1≤8*d+g;omega,by show Oqw (psL g D R (j+1)) _;rw [rr,k2];exact ⟨rfl,by show 1≤1+s2.length;omega,by show 1+s2.length≤((j:Int) :: s2).length;rw [xy];omega,fun h=>by cases h⟩⟩,by show 8*d+g - (j+1)<8*d+g - j;omega,?_⟩)
     ((conv=>arg 1;reduce);with_reducible repeat' first | exact ty | refine ta ?_ ?_ | refine ti fun _ => ?_ | refine tf fun _ => ?_ | refine tl ?_)
     all_goals first | exact vlf | (show (psL g D R (j+1)).length=1;rw [rr,k2];rfl) | (show (psL g D R (j+1)).length=(psL g D R j).length+1;rw [rr,zx];rfl) | (show 1=(psL g D R (j+1)).length;rw [rr,k2];rfl) | (show (psL g D R j).length+1=(psL g D R (j+1)).length;rw [rr,zx];rfl) | rfl))
 all_goals try (
  rename_i hh x hx d1 d2
  change Nat×Oq at x
  obtain ⟨j,yo,yb,yq,yl,yc⟩:=x
  obtain ⟨k1,k2⟩:j≤8*d+g∧Oqw (psL g D R j) (true,yb,yq,yl,yc):=hx
  have d1:(j:Int)<8*(d:Int)+(g:Int):=ng d1
  have d2:(g:Int)≤(j:Int):=ng d2
  have ez:(j:Int) - (g:Int)=((j - g:Nat):Int):=by omega
  have eq1:((j:Int) - (g:Int)).tdiv 8=(((j - g) / 8:Nat):Int):=by rw [ez];exact (yj (j - g) 8).symm
  have eq2:((j:Int) - (g:Int)).tmod 8=(((j - g) % 8:Nat):Int):=by rw [ez];exact (zb (j - g) 8).symm
  have ew:wdB g D R j=bt D (j - g):=by unfold wdB;rw [if_neg (by omega)]
  have eb:=bitv (z:=(j:Int) - (g:Int)) hD kD ez (show (j - g) / 8<n by omega) h
  first
  | exact on_of ho (by omega)
  | (show inR .i64 (((j:Int) - (g:Int)).tdiv 8);rw [eq1];exact inR64 (n:=(((j - g) / 8:Nat):Int)) (by omega) (by omega))
  | exact inR64 (n:=((j:Int) - (g:Int))) (by omega) (by omega)
  | (show 0≤((j:Int) - (g:Int)).tdiv 8;rw [eq1];omega)
  | (show ((j:Int) - (g:Int)).tdiv 8<(n:Int);rw [eq1];omega)
  | (show (((j:Int) - (g:Int)).tdiv 8).toNat+i<l.length;rw [eq1];omega)
  | (show 0≤((j:Int) - (g:Int)).tmod 8;rw [eq2];omega))
 all_goals try (
  rename_i hh x hx d1 d2 d3
  change Nat×Oq at x
  obtain ⟨j,yo,yb,yq,yl,yc⟩:=x
  obtain ⟨k1,k2⟩:j≤8*d+g∧Oqw (psL g D R j) (true,yb,yq,yl,yc):=hx
  have d1:(j:Int)<8*(d:Int)+(g:Int):=ng d1
  have d2:(g:Int)≤(j:Int):=ng d2
  have ez:(j:Int) - (g:Int)=((j - g:Nat):Int):=by omega
  have eq1:((j:Int) - (g:Int)).tdiv 8=(((j - g) / 8:Nat):Int):=by rw [ez];exact (yj (j - g) 8).symm
  have eq2:((j:Int) - (g:Int)).tmod 8=(((j - g) % 8:Nat):Int):=by rw [ez];exact (zb (j - g) 8).symm
  have ew:wdB g D R j=bt D (j - g):=by unfold wdB;rw [if_neg (by omega)]
  have eb:=bitv (z:=(j:Int) - (g:Int)) hD kD ez (show (j - g) / 8<n by omega) h
  have d3:wdB g D R j=false:=by rw [ew,← eb];exact d3
  have rr:=psL_no d3
  first
  | exact inR64 (n:=(j:Int)+1) (by omega) (by omega)
  | (refine Stands.next (Stands.one ((j+1,(true,yb,yq,yl,yc)):Nat×Oq) ⟨⟨by show j+1≤8*d+g;omega,(show Oqw (psL g D R (j+1)) (true,yb,yq,yl,yc) by rw [rr];exact k2)⟩,by show 8*d+g - (j+1)<8*d+g - j;omega,?_⟩)
     ((conv=>arg 1;reduce);with_reducible repeat' first | exact ty | refine ta ?_ ?_ | refine ti fun _ => ?_ | refine tf fun _ => ?_ | refine tl ?_)
     all_goals first | exact vlf | (show (psL g D R j).length=(psL g D R (j+1)).length;rw [rr]) | (show (psL g D R (j+1)).length=(psL g D R j).length;rw [rr])))
 all_goals try (
  rename_i hh x hx d1 d2 d3 g5
  change Nat×Oq at x
  obtain ⟨j,yo,yb,yq,yl,yc⟩:=x
  obtain ⟨k1,k2⟩:j≤8*d+g∧Oqw (psL g D R j) (true,yb,yq,yl,yc):=hx
  have r1:=psL_len (g:=g) (D:=D) (R:=R) (i:=j)
  first
  | exact ⟨zw 1,by rw [by3];omega⟩
  | exact ⟨k2.cap,by have h9:yc≤yl.length:=k2.len;show 0+yc≤yl.length;omega,zw 1,by rw [by3];show ((psL g D R j).length+1)*8≤_;omega⟩)
 all_goals try (
  rename_i hh x hx d1 d2 d3 g5 g6 g7 s2 c2 h1 h2
  change Nat×Oq at x
  obtain ⟨j,yo,yb,yq,yl,yc⟩:=x
  obtain ⟨k1,k2⟩:j≤8*d+g∧Oqw (psL g D R j) (true,yb,yq,yl,yc):=hx
  have d1:(j:Int)<8*(d:Int)+(g:Int):=ng d1
  have d2:(g:Int)≤(j:Int):=ng d2
  have ez:(j:Int) - (g:Int)=((j - g:Nat):Int):=by omega
  have eq1:((j:Int) - (g:Int)).tdiv 8=(((j - g) / 8:Nat):Int):=by rw [ez];exact (yj (j - g) 8).symm
  have eq2:((j:Int) - (g:Int)).tmod 8=(((j - g) % 8:Nat):Int):=by rw [ez];exact (zb (j - g) 8).symm
  have ew:wdB g D R j=bt D (j - g):=by unfold wdB;rw [if_neg (by omega)]
  have eb:=bitv (z:=(j:Int) - (g:Int)) hD kD ez (show (j - g) / 8<n by omega) h
  have d3:wdB g D R j=true:=by rw [ew,← eb];exact d3
  have rr:=psL_yes d3
  change List Int at s2
  first
  | exact inR64 (n:=(j:Int)+1) (by omega) (by omega)
  | (refine Stands.next (Stands.one ((j+1,(true,g6,g7,yl.take (psL g D R j).length ++ [(j:Int)] ++ s2,c2)):Nat×Oq) ⟨⟨by show j+1≤8*d+g;omega,⟨by rw [rr,zx];show (yl.take (psL g D R j).length ++ [(j:Int)] ++ s2).take ((psL g D R j).length+1)=_;rw [k2.eq,vj (by simp)],by rw [rr,zx];exact h1,by rw [zx,zx,k2.eq];exact h2,fun h=>by cases h⟩⟩,by show 8*d+g - (j+1)<8*d+g - j;omega,?_⟩)
     ((conv=>arg 1;reduce);with_reducible repeat' first | exact ty | refine ta ?_ ?_ | refine ti fun _ => ?_ | refine tf fun _ => ?_ | refine tl ?_)
     all_goals first | exact vlf | (show (psL g D R (j+1)).length=1;rw [rr,k2];rfl) | (show (psL g D R (j+1)).length=(psL g D R j).length+1;rw [rr,zx];rfl) | (show 1=(psL g D R (j+1)).length;rw [rr,k2];rfl) | (show (psL g D R j).length+1=(psL g D R (j+1)).length;rw [rr,zx];rfl) | rfl))
 all_goals try (
  rename_i hh x hx d1 d2
  change Nat×Oq at x
  obtain ⟨j,yo,yb,yq,yl,yc⟩:=x
  obtain ⟨k1,k2⟩:j≤8*d+g∧Oqw (psL g D R j) (true,yb,yq,yl,yc):=hx
  have d1:(j:Int)<8*(d:Int)+(g:Int):=ng d1
  have d2:¬ (g:Int)≤(j:Int):=nf d2
  have eq1:(j:Int).tdiv 8=((j / 8:Nat):Int):=(yj j 8).symm
  have eq2:(j:Int).tmod 8=((j % 8:Nat):Int):=(zb j 8).symm
  have ew:wdB g D R j=bt R j:=by unfold wdB;rw [if_pos (by omega)]
  have eb:=bitv (z:=(j:Int)) hR kR rfl (show j / 8<n' by omega) h'
  first
  | exact on_of ho' (by omega)
  | (show inR .i64 ((j:Int).tdiv 8);rw [eq1];exact inR64 (n:=((j / 8:Nat):Int)) (by omega) (by omega))
  | exact inR64 (n:=(j:Int)) (by omega) (by omega)
  | (show 0≤(j:Int).tdiv 8;rw [eq1];omega)
  | (show (j:Int).tdiv 8<(n':Int);rw [eq1];omega)
  | (show ((j:Int).tdiv 8).toNat+i'<l'.length;rw [eq1];omega)
  | (show 0≤(j:Int).tmod 8;rw [eq2];omega))
 all_goals try (
  rename_i hh x hx d1 d2 d3
  change Nat×Oq at x
  obtain ⟨j,yo,yb,yq,yl,yc⟩:=x
  obtain ⟨k1,k2⟩:j≤8*d+g∧Oqw (psL g D R j) (true,yb,yq,yl,yc):=hx
  have d1:(j:Int)<8*(d:Int)+(g:Int):=ng d1
  have d2:¬ (g:Int)≤(j:Int):=nf d2
  have eq1:(j:Int).tdiv 8=((j / 8:Nat):Int):=(yj j 8).symm
  have eq2:(j:Int).tmod 8=((j % 8:Nat):Int):=(zb j 8).symm
  have ew:wdB g D R j=bt R j:=by unfold wdB;rw [if_pos (by omega)]
  have eb:=bitv (z:=(j:Int)) hR kR rfl (show j / 8<n' by omega) h'
  have d3:wdB g D R j=false:=by rw [ew,← eb];exact d3
  have rr:=psL_no d3
  first
  | exact inR64 (n:=(j:Int)+1) (by omega) (by omega)
  | (refine Stands.next (Stands.one ((j+1,(true,yb,yq,yl,yc)):Nat×Oq) ⟨⟨by show j+1≤8*d+g;omega,(show Oqw (psL g D R (j+1)) (true,yb,yq,yl,yc) by rw [rr];exact k2)⟩,by show 8*d+g - (j+1)<8*d+g - j;omega,?_⟩)
     ((conv=>arg 1;reduce);with_reducible repeat' first | exact ty | refine ta ?_ ?_ | refine ti fun _ => ?_ | refine tf fun _ => ?_ | refine tl ?_)
     all_goals first | exact vlf | (show (psL g D R j).length=(psL g D R (j+1)).length;rw [rr]) | (show (psL g D R (j+1)).length=(psL g D R j).length;rw [rr])))
 all_goals try (
  rename_i hh x hx d1 d2 d3 g5
  change Nat×Oq at x
  obtain ⟨j,yo,yb,yq,yl,yc⟩:=x
  obtain ⟨k1,k2⟩:j≤8*d+g∧Oqw (psL g D R j) (true,yb,yq,yl,yc):=hx
  have r1:=psL_len (g:=g) (D:=D) (R:=R) (i:=j)
  first
  | exact ⟨zw 1,by rw [by3];omega⟩
  | exact ⟨k2.cap,by have h9:yc≤yl.length:=k2.len;show 0+yc≤yl.length;omega,zw 1,by rw [by3];show ((psL g D R j).length+1)*8≤_;omega⟩)
 all_goals try (
  rename_i hh x hx d1 d2 d3 g5 g6 g7 s2 c2 h1 h2
  change Nat×Oq at x
  obtain ⟨j,yo,yb,yq,yl,yc⟩:=x
  obtain ⟨k1,k2⟩:j≤8*d+g∧Oqw (psL g D R j) (true,yb,yq,yl,yc):=hx
  have d1:(j:Int)<8*(d:Int)+(g:Int):=ng d1
  have d2:¬ (g:Int)≤(j:Int):=nf d2
  have eq1:(j:Int).tdiv 8=((j / 8:Nat):Int):=(yj j 8).symm
  have eq2:(j:Int).tmod 8=((j % 8:Nat):Int):=(zb j 8).symm
  have ew:wdB g D R j=bt R j:=by unfold wdB;rw [if_pos (by omega)]
  have eb:=bitv (z:=(j:Int)) hR kR rfl (show j / 8<n' by omega) h'
  have d3:wdB g D R j=true:=by rw [ew,← eb];exact d3
  have rr:=psL_yes d3
  change List Int at s2
  first
  | exact inR64 (n:=(j:Int)+1) (by omega) (by omega)
  | (refine Stands.next (Stands.one ((j+1,(true,g6,g7,yl.take (psL g D R j).length ++ [(j:Int)] ++ s2,c2)):Nat×Oq) ⟨⟨by show j+1≤8*d+g;omega,⟨by rw [rr,zx];show (yl.take (psL g D R j).length ++ [(j:Int)] ++ s2).take ((psL g D R j).length+1)=_;rw [k2.eq,vj (by simp)],by rw [rr,zx];exact h1,by rw [zx,zx,k2.eq];exact h2,fun h=>by cases h⟩⟩,by show 8*d+g - (j+1)<8*d+g - j;omega,?_⟩)
     ((conv=>arg 1;reduce);with_reducible repeat' first | exact ty | refine ta ?_ ?_ | refine ti fun _ => ?_ | refine tf fun _ => ?_ | refine tl ?_)
     all_goals first | exact vlf | (show (psL g D R (j+1)).length=1;rw [rr,k2];rfl) | (show (psL g D R (j+1)).length=(psL g D R j).length+1;rw [rr,zx];rfl) | (show 1=(psL g D R (j+1)).length;rw [rr,k2];rfl) | (show (psL g D R j).length+1=(psL g D R (j+1)).length;rw [rr,zx];rfl) | rfl))
 · exact ⟨ht,⟨zw _,by decide,fun _=>⟨rfl,rfl⟩⟩,fun a ha=>absurd ha (Nat.not_lt_zero a)⟩
 · rename_i hh x hx d1 y hy
   change Nat at x
   obtain ⟨k1,k2⟩:x≤8*d+g∧psL g D R x=[]:=hx
   have d1:¬ (x:Int)<8*(d:Int)+(g:Int):=nf d1
   have ex:x=8*d+g:=by omega
   subst ex
   refine Ends.one y trivial ?_
   ((conv=>arg 1;reduce);with_reducible repeat' first | exact ty | refine ta ?_ ?_ | refine ti fun _ => ?_ | refine tf fun _ => ?_ | refine tl ?_)
   all_goals first | exact vlf | (rw [k2];rfl)
 · rename_i hh x hx d1
   change Nat×Oq at x
   obtain ⟨j,yo,yb,yq,yl,yc⟩:=x
   obtain ⟨k1,k2⟩:j≤8*d+g∧Oqw (psL g D R j) (true,yb,yq,yl,yc):=hx
   have q1:yl.take (psL g D R j).length=psL g D R j:=k2.eq
   have q2:(psL g D R j).length≤yc:=k2.cap
   have q3:yc≤yl.length:=k2.len
   have r1:=psL_len (g:=g) (D:=D) (R:=R) (i:=j)
   refine ⟨ht,⟨by show 0+(psL g D R j).length≤yl.length;omega,by show (psL g D R j).length<1000000000;omega,fun h0=>by cases h0⟩,fun a ha => ?_⟩
   show 0≤((yl.drop 0).take (psL g D R j).length).getD a 0∧((yl.drop 0).take (psL g D R j).length).getD a 0<1000000000
   rw [zm,q1]
   have:=psL_in (g:=g) (D:=D) (R:=R) (i:=j) a ha
   omega
 · rename_i hh x hx d1 y hy
   change Nat×Oq at x
   obtain ⟨j,yo,yb,yq,yl,yc⟩:=x
   obtain ⟨k1,k2⟩:j≤8*d+g∧Oqw (psL g D R j) (true,yb,yq,yl,yc):=hx
   have q1:yl.take (psL g D R j).length=psL g D R j:=k2.eq
   have d1:¬ (j:Int)<8*(d:Int)+(g:Int):=nf d1
   have ex:j=8*d+g:=by omega
   subst ex
   refine Ends.one y trivial ?_
   ((conv=>arg 1;reduce);with_reducible repeat' first | exact ty | refine ta ?_ ?_ | refine ti fun _ => ?_ | refine tf fun _ => ?_ | refine tl ?_)
   all_goals first | exact vlf | (show svL F (psL g D R (8*d+g)) (2*t)=svL F ((yl.drop 0).take (psL g D R (8*d+g)).length) (2*t);rw [zm,q1])
abbrev Co5:=Nat×Nat×Nat×Nat×Nat×Nat
def fcOf:Fc Tryz.prog C0 where
 tg:=.fn 57
 X:=Co5×(Nat×Nat×Nat×Nat×Nat×Nat)×Sl3×Sl3
 args:=fun (_,_,(o,b,q,l,i,n,c),(o',b',q',l',i',n',c'))=>[.ptr 0 0 0,.sl 4 i n c,.sl 5 i' n' c']
 mem:=fun ((bC,qC,t,d,g,r),(bF,qF,be,qe,bl,ql),(o,b,q,l,i,n,c),(o',b',q',l',i',n',c'))=>coC F bC qC t d g r bF qF be qe bl ql ++ [⟨b,q,1,false,some o,.rows 5 l⟩,⟨b',q',1,false,some o',.rows 5 l'⟩]
 pre:=fun ((_,_,t,d,g,r),_,(o,b,q,l,i,n,c),(o',b',q',l',i',n',c'))=>(t<1000000∧d<100000∧g<100000∧g≤8*r∧r<100000)∧(Sl3.pre (o,b,q,l,i,n,c)∧Sl3.pre (o',b',q',l',i',n',c'))∧(n=d∧n'=r)∧Byt8 ((l.drop i).take n)∧Byt8 ((l'.drop i').take n')
 alts:=fun ((bC,qC,t,d,g,r),(bF,qF,be,qe,bl,ql),(o,b,q,l,i,n,c),(o',b',q',l',i',n',c'))=>[⟨Nat,fun _=>True,fun y=>.tup [.sl 6 0 (2*t) (2*t),.nili],fun y=>coC F bC qC t d g r bF qF be qe bl ql ++ [⟨b,q,1,false,some o,.rows 5 l⟩,⟨b',q',1,false,some o',.rows 5 l'⟩,⟨y,0,1,true,none,.rows 3 (svL F (psL g ((l.drop i).take n) ((l'.drop i').take n') (8*d+g)) (2*t))⟩]⟩]
 mat vs m:=match vs with
  | [.ptr p _ _,.sl s i n c,.sl s' i' n' c']=>match nth m p with
    | ⟨bC,qC,_,_,_,.one (.ptr f _ _ :: .int _ (t:Nat) :: .int _ (d:Nat) :: .int _ (g:Nat) :: .int _ (r:Nat) :: _)⟩=>match nth m f with
      | ⟨bF,qF,_,_,_,.one (_ :: _ :: .sl x _ _ _ :: .sl h _ _ _ :: _)⟩=>match nth m x,nth m h,nth m s,nth m s' with
        | ⟨be,qe,_,_,_,_⟩,⟨bl,ql,_,_,_,_⟩,⟨b,q,_,_,o,.rows 5 l⟩,⟨b',q',_,_,o',.rows 5 l'⟩=>some (((bC,qC,t,d,g,r),(bF,qF,be,qe,bl,ql),(onOf o,b,q,l,i,n,c),(onOf o',b',q',l',i',n',c')),[p,f,x,h,s,s'])
        | _,_,_,_=>none
      | _=>none
    | _=>none
  | _=>none
 ok:=fun ((bC,qC,t,d,g,r),(bF,qF,be,qe,bl,ql),(o,b,q,l,i,n,c),(o',b',q',l',i',n',c')) h=>of_ok F bC qC t d g r bF qF be qe bl ql h.1.1 h.1.2.1 h.1.2.2.1 h.1.2.2.2.1 o b q l i n c h.2.1.1.1 h.2.1.1.2.2 o' b' q' l' i' n' c' h.2.1.2.1 h.2.1.2.2.2 h.2.2.1.1 h.2.2.1.2 h.1.2.2.2.2 _ _ rfl rfl h.2.2.2.1 h.2.2.2.2
end
end
end Go.Vx
namespace Go.Vx
open Go Go.Proofs
noncomputable section
variable [Gl]
theorem bitI {x:Int} (h:0≤x∧x<256) {s:Nat} (hs:s<8):ibit .and .u8 (ishr .u8 x (s:Int)) 1=((x.toNat.testBit s).toNat:Int):=by
 obtain ⟨a,rfl⟩:=yh h.1
 have h3:a / 2 ^ s≤a:=si _ _
 have e:=and8 (a:=a / 2 ^ s) (b:=1) (by omega) (by omega)
 rw [shr8 .u8 a s (show s≤8 by omega)]
 rw [show ibit .and .u8 ((a / 2 ^ s:Nat):Int) 1=((a / 2 ^ s &&& 1:Nat):Int) from e,ru,zu,xd]
 by_cases h9:a / 2 ^ s % 2=1
 · rw [decide_eq_true h9,h9];rfl
 · rw [decide_eq_false h9,show a / 2 ^ s % 2=0 by omega];rfl
theorem pbit_ok (o:Bool) (b q:Nat) (l:List Int) (i n c:Nat) (h:i+n≤l.length) (hn:n<100000000) (ho:o=false→n=0∧c=0) (z:Nat) (hz:z<1000000000) (P:List Int) (hP:(l.drop i).take n=P) (kP:Byt8 P):
 Tells (C:=C0) Tryz.prog (.fn 125) [⟨b,q,1,false,some o,.rows 5 l⟩] [.sl 0 i n c,.int .i64 (z:Int)] (.int .i64 ((bt P z).toNat:Int)):=by
 have e1:(z:Int).tdiv 8=((z / 8:Nat):Int):=(yj z 8).symm
 have e2:(z:Int).tmod 8=((z % 8:Nat):Int):=(zb z 8).symm
 refine loc_pc (P:=Tryz.prog) (E:=⟨[],[],24,[],[],[],none⟩) (L:=[]) mix Tryz.func125 rfl (by kernel_rfl) (by kernel_rfl) rfl rfl ?_
 ((conv=>arg 1;reduce);with_reducible repeat' first | exact ty | refine ta ?_ ?_ | refine ti fun _ => ?_ | refine tf fun _ => ?_ | refine tl ?_)
 all_goals try exact vlf
 all_goals (
  rename_i d
  simp only [yd,Bool.or_eq_false_iff,decide_eq_true_eq,decide_eq_false_iff_not,SB.val,e1] at d)
 · unfold bt
   rw [zy,yk (by rw [← hP,row_len h];omega)]
   simp
 all_goals first
  | exact on_of ho (by omega)
  | (show (z:Int).tdiv 8<(n:Int);rw [e1];omega)
  | (show ((z:Int).tdiv 8).toNat+i<l.length;rw [e1];omega)
  | (have hx:0≤P.getD (z / 8) 0∧P.getD (z / 8) 0<256:=by
      rw [zy,zt (by rw [← hP,row_len h];omega),ym]
      exact kP _ (xe _)
     have ev:ibit .and .u8 (ishr .u8 (l.getD (((z:Int).tdiv 8).toNat+i) 0) ((z:Int).tmod 8)) 1=((bt P z).toNat:Int):=by
      rw [e1,e2,zu,row_at (n:=n) (z / 8) (by omega),hP]
      exact bitI hx (yv _ (by omega))
     first
     | exact ev
     | (show inR .i64 (ibit .and .u8 (ishr .u8 (l.getD (((z:Int).tdiv 8).toNat+i) 0) ((z:Int).tmod 8)) 1)
        rw [ev]
        exact inR64 (n:=((bt P z).toNat:Int)) (by omega) (by have:=Bool.toNat_le (bt P z);omega)))
def pcPbit:Pc Tryz.prog C0 where
 tg:=.fn 125
 X:=Sl3×Int
 args:=fun ((o,b,q,l,i,n,c),z)=>[.sl 0 i n c,.int .i64 z]
 mem:=fun ((o,b,q,l,i,n,c),z)=>[⟨b,q,1,false,some o,.rows 5 l⟩]
 pre:=fun (s,z)=>(Sl3.pre s∧s.2.2.2.2.2.1<100000000)∧(0≤z∧z<1000000000)∧Byt8 ((s.2.2.2.1.drop s.2.2.2.2.1).take s.2.2.2.2.2.1)
 res:=fun ((o,b,q,l,i,n,c),z)=>.int .i64 ((bt ((l.drop i).take n) z.toNat).toNat:Int)
 mat vs m:=match vs with
  | [.sl s i n c,.int _ z]=>match nth m s with
    | ⟨b,q,_,_,g,.rows 5 l⟩=>some (((onOf g,b,q,l,i,n,c),z),[s])
    | _=>none
  | _=>none
 ok:=fun ((o,b,q,l,i,n,c),z) h=>by
  obtain ⟨z,rfl⟩:=yh h.2.1.1
  exact pbit_ok o b q l i n c h.1.1.1 h.1.2 h.1.1.2.2 z (Int.ofNat_lt.1 h.2.1.2) _ rfl h.2.2
end
end Go.Vx
namespace Go.Vx
def bl (N:Nat):Nat:=if N=0 then 0 else N.log2+1
theorem bl_le {N n:Nat}:bl N≤n↔N<2 ^ n:=by
 unfold bl
 by_cases h:N=0
 · rw [if_pos h,h]
   exact ⟨fun _=>yg n,fun _=>zg n⟩
 · rw [if_neg h]
   exact Nat.log2_lt h
theorem bl_lt (N:Nat):N<2 ^ bl N:=bl_le.1 (zw _)
theorem bl_zero:bl 0=0:=rfl
theorem bl_pos {N:Nat} (h:N≠0):0<bl N:=by unfold bl;rw [if_neg h];omega
theorem bl_top {N:Nat} (h:N≠0):N.testBit (bl N - 1)=true:=by
 unfold bl
 rw [if_neg h,Nat.add_sub_cancel,xd]
 have h1:=Nat.log2_self_le h
 have h2:N<2 ^ (N.log2+1):=Nat.lt_log2_self
 have:N / 2 ^ N.log2=1:=by
  rw [Nat.div_eq_iff (yg _)]
  rw [wg] at h2
  omega
 rw [this];rfl
theorem bl_out {N j:Nat} (h:bl N≤j):N.testBit j=false:=xw (bl_le.1 h)
theorem bl_ge {N j:Nat} (h:N.testBit j=true):j<bl N:=Nat.lt_of_not_le fun h2=>by rw [bl_out h2] at h;cases h
theorem bl_of {N j:Nat} (h:N.testBit j=true) (h2:N<2 ^ (j+1)):bl N=j+1:=Nat.le_antisymm (bl_le.2 h2) (bl_ge h)
@[irreducible] def byN (P:List Int):Nat:=bn (8*P.length) (bt P)
theorem bt_out {P:List Int} {k:Nat} (h:8*P.length≤k):bt P k=false:=by
 unfold bt
 rw [zy,yk (by omega)]
 exact xj _
theorem byN_bit (P:List Int) (j:Nat):(byN P).testBit j=bt P j:=by
 unfold byN
 rw [bn_bit]
 by_cases h:j<8*P.length
 · rw [decide_eq_true h,zd]
 · rw [decide_eq_false h,yf,bt_out (by omega)]
theorem byN_lt (P:List Int):byN P<2 ^ (8*P.length):=by unfold byN;exact bn_lt _ _
theorem byN_bl (P:List Int):bl (byN P)≤8*P.length:=bl_le.2 (byN_lt P)
theorem byN_by {n N:Nat} (h:N<2 ^ (8*n)):byN (by' n N.testBit)=N:=by
 refine vz fun j => ?_
 rw [byN_bit]
 by_cases hj:j<8*n
 · exact by_bt hj
 · rw [by_bt_out (by omega)]
   exact (xw (zk h (zj (by omega) (by omega)))).symm
def nl (N:Nat):Nat:=(bl N+7) / 8
@[irreducible] def nb (N:Nat):List Int:=by' (nl N) N.testBit
theorem nb_eq (N:Nat):nb N=by' (nl N) N.testBit:=by unfold nb;rfl
theorem nb_len (N:Nat):(nb N).length=nl N:=by rw [nb_eq,by_len]
theorem nb_byt (N:Nat):Byt8 (nb N):=by rw [nb_eq];exact by_byt _ _
theorem byN_nb (N:Nat):byN (nb N)=N:=by
 rw [nb_eq]
 exact byN_by (bl_le.1 (by unfold nl;omega))
theorem nl_of {P:List Int} (hP:Byt8 P) {n:Nat} (hn:n≤P.length) (hz:∀ i,n≤i→P.getD i 0=0) (hl:n=0∨P.getD (n - 1) 0≠0):nl (byN P)=n:=by
 have h1:bl (byN P)≤8*n:=by
  refine vc fun hlt => ?_
  have hN:byN P≠0:=fun e=>by rw [e] at hlt;exact absurd hlt (by rw [bl_zero];omega)
  have:=bl_top hN
  rw [byN_bit] at this
  unfold bt at this
  rw [hz _ (by omega)] at this
  rw [show (0:Int).toNat=0 from rfl,xj] at this
  cases this
 unfold nl
 rcases hl with rfl | hl
 · omega
 · by_cases h0:n=0
   · omega
   have hx:0≤P.getD (n - 1) 0∧P.getD (n - 1) 0<256:=by
    rw [zy,zt (by omega),ym]
    exact hP _ (xe _)
   have h2:8*(n - 1)<bl (byN P):=by
    have hv:(P.getD (n - 1) 0).toNat≠0:=by omega
    have ht:=bl_top hv
    have hb:bl (P.getD (n - 1) 0).toNat≤8:=bl_le.2 (by omega)
    have hp:=bl_pos hv
    have:(byN P).testBit (8*(n - 1)+(bl (P.getD (n - 1) 0).toNat - 1))=true:=by
     rw [byN_bit]
     unfold bt
     rw [show (8*(n - 1)+(bl (P.getD (n - 1) 0).toNat - 1)) / 8=n - 1 by omega,show (8*(n - 1)+(bl (P.getD (n - 1) 0).toNat - 1)) % 8=bl (P.getD (n - 1) 0).toNat - 1 by omega]
     exact ht
    have:=bl_ge this
    omega
   omega
theorem nb_take {P:List Int} (hP:Byt8 P) {n:Nat} (hn:n≤P.length) (hz:∀ i,n≤i→P.getD i 0=0) (hl:n=0∨P.getD (n - 1) 0≠0):P.take n=nb (byN P):=by
 have h1:=nl_of hP hn hz hl
 refine byt_ext (fun x hx=>hP x (xu hx)) (nb_byt _) (by rw [nb_len,h1,ze];omega) fun k hk => ?_
 rw [ze,xa hn] at hk
 rw [nb_eq,by_bt (by rw [h1];exact hk),byN_bit]
 unfold bt
 simp only [zy]
 rw [yn (by omega)]
theorem bl_at {P:List Int} (hP:Byt8 P) {i:Nat} (hi:i<P.length) (hz:∀ j,i<j→P.getD j 0=0) (hl:P.getD i 0≠0):bl (byN P)=8*i+bl (P.getD i 0).toNat:=by
 have hx:0≤P.getD i 0∧P.getD i 0<256:=by
  rw [zy,zt hi,ym]
  exact hP _ (xe _)
 have hv:(P.getD i 0).toNat≠0:=by omega
 have ht:=bl_top hv
 have hb:bl (P.getD i 0).toNat≤8:=bl_le.2 (by omega)
 have hp:=bl_pos hv
 rw [show 8*i+bl (P.getD i 0).toNat=8*i+(bl (P.getD i 0).toNat - 1)+1 by omega]
 refine bl_of ?_ ?_
 · rw [byN_bit]
   unfold bt
   rw [show (8*i+(bl (P.getD i 0).toNat - 1)) / 8=i by omega,show (8*i+(bl (P.getD i 0).toNat - 1)) % 8=bl (P.getD i 0).toNat - 1 by omega]
   exact ht
 · refine bl_le.1 (vc fun hlt => ?_)
   have hN:byN P≠0:=fun e=>by rw [e] at hlt;exact absurd hlt (by rw [bl_zero];omega)
   have h3:=bl_top hN
   rw [byN_bit] at h3
   unfold bt at h3
   by_cases h4:(bl (byN P) - 1) / 8=i
   · rw [h4,bl_out (by omega)] at h3;cases h3
   · rw [hz _ (by omega),show (0:Int).toNat=0 from rfl,xj] at h3
     cases h3
theorem byN_zero {P:List Int} (hP:Byt8 P) (hz:∀ i,P.getD i 0=0):byN P=0:=by
 refine vz fun j => ?_
 rw [byN_bit,xj]
 unfold bt
 rw [hz]
 exact xj _
def exR (N t:Nat):Nat→List Int
 | 0=>[]
 | j+1=>exR N t j ++ (if N.testBit (t - 1 - j) then [((t - 1 - j:Nat):Int)] else [])
@[irreducible] def exL (N:Nat):List Int:=exR N (bl N) (bl N)
theorem exR_len (N t:Nat):∀ j,(exR N t j).length≤j
 | 0=>zw 0
 | j+1=>by
   have:=exR_len N t j
   show (exR N t j ++ _).length≤_
   rw [zx]
   split <;> simp <;> omega
theorem exR_lt {N t:Nat}:∀ {j:Nat},j≤t→∀ x∈exR N t j,0≤x∧x<(t:Int)
 | 0,_,x,h=>by cases h
 | j+1,h,x,hx=>by
   rcases List.mem_append.1 hx with hx | hx
   · exact exR_lt (by omega) x hx
   · split at hx
     · rw [wq] at hx
       omega
     · cases hx
theorem exL_lt {N:Nat}:∀ x∈exL N,0≤x∧x<(bl N:Int):=by unfold exL;exact exR_lt (zw _)
theorem exL_len (N:Nat):(exL N).length≤bl N:=by unfold exL;exact exR_len _ _ _
def clF (Q:Nat) (l:List Int):Nat:=l.foldl (fun a n=>a ^^^ (Q <<< n.toNat)) 0
@[irreducible] def clm (P Q:Nat):Nat:=clF Q (exL P)
theorem clF_snoc (Q:Nat) (l:List Int) (n:Int):clF Q (l ++ [n])=clF Q l ^^^ (Q <<< n.toNat):=by unfold clF;rw [uo];rfl
theorem clF_lt {Q:Nat} {K:Nat}:∀ (l:List Int),(∀ n∈l,bl Q+n.toNat≤K)→clF Q l<2 ^ K:=by
 intro l
 refine snoc_ind (P:=fun l=>(∀ n∈l,bl Q+n.toNat≤K)→clF Q l<2 ^ K) (fun _=>yg K) (fun l n ih h => ?_) l
 rw [clF_snoc]
 refine wo (ih fun x hx=>h x (uq _ hx)) ?_
 have:=h n (by simp)
 rw [uw]
 exact zk (Nat.mul_lt_mul_of_pos_right (bl_lt Q) (yg _)) (by rw [← Nat.pow_add];exact zj (by omega) this)
section
variable {K:Type} [Fd K]
open Go.Vx.Fd
def vn (N:Nat) (x:K):K:=vl N.testBit (bl N) x
theorem vl_more {N n:Nat} (h:bl N≤n) (x:K):vl N.testBit n x=vn N x:=by
 unfold vn vl
 exact sm_more h fun i h1 _=>by rw [bl_out h1];exact zmul _
theorem vn_xor (A B:Nat) (x:K):vn (A ^^^ B) x=vn A x+vn B x:=by
 have h:bl (A ^^^ B)≤max (bl A) (bl B):=bl_le.2 (wo (bl_le.1 (Nat.le_max_left ..)) (bl_le.1 (Nat.le_max_right ..)))
 rw [← vl_more h,← vl_more (Nat.le_max_left (bl A) (bl B)),← vl_more (N:=B) (Nat.le_max_right (bl A) (bl B)),← vl_xor]
 exact vl_congr fun k _=>ww ..
theorem vn_shl (Q n:Nat) (x:K):vn (Q <<< n) x=pw x n*vn Q x:=by
 have h:bl (Q <<< n)≤n+bl Q:=bl_le.2 (by
  rw [uw,Nat.pow_add,Nat.mul_comm]
  exact Nat.mul_lt_mul_of_pos_left (bl_lt Q) (yg _))
 rw [← vl_more h,vl_app,vl_zero (n:=n) fun k hk=>by rw [vr];simp;omega,zadd]
 congr 1
 unfold vn
 exact vl_congr fun k _=>by rw [vr];simp
theorem vn_zero (x:K):vn 0 x=zr:=rfl
theorem vn_clF (Q:Nat) (x:K):∀ l:List Int,vn (clF Q l) x=su l (fun n=>pw x n.toNat)*vn Q x:=by
 intro l
 refine snoc_ind (P:=fun l=>vn (clF Q l) x=su l (fun n=>pw x n.toNat)*vn Q x) ?_ (fun l n ih => ?_) l
 · show vn 0 x=zr*_
   rw [vn_zero,zmul]
 · rw [clF_snoc,vn_xor,ih,vn_shl,su_app,distr]
   congr 1
   show _=(pw x n.toNat+zr)*_
   rw [add0]
theorem su_exR (N t:Nat) (x:K):∀ j,j≤t→su (exR N t j) (fun n=>pw x n.toNat)=sm j fun i=>bk (N.testBit (t - j+i))*pw x (t - j+i)
 | 0,_=>rfl
 | j+1,h=>by
   show su (exR N t j ++ _) _=_
   rw [su_app,su_exR N t x j (by omega),sm_head,addC]
   congr 1
   · rw [show t - (j+1)+0=t - 1 - j by omega]
     cases N.testBit (t - 1 - j) with
     | true=>
       show pw x ((t - 1 - j:Nat):Int).toNat+zr=un*_
       rw [add0,umul,zu]
     | false=>
       show zr=zr*_
       rw [zmul]
   · exact sm_congr fun i _=>by rw [show t - j+i=t - (j+1)+(i+1) by omega]
theorem vn_clm (P Q:Nat) (x:K):vn (clm P Q) x=vn P x*vn Q x:=by
 unfold clm exL
 rw [vn_clF,su_exR _ _ _ _ (zw _)]
 congr 1
 unfold vn vl
 exact sm_congr fun i _=>by rw [qo,we]
end
end Go.Vx
namespace Go.Vx
open Go Go.Proofs
noncomputable section
variable [Gl]
theorem strI_tab (s:ByteArray) (f:Nat→Int) (h:(xq 256).all (fun n=>decide (strI s (n:Int)=f n))=true) {x:Int} (hx:0≤x∧x<256):strI s x=f x.toNat:=by
 obtain ⟨n,rfl⟩:=yh hx.1
 rw [zu]
 exact ng (List.all_eq_true.1 h n (List.mem_range.2 (by omega)))
theorem tab_lt {s:ByteArray} (h:Nat.ble 256 s.size=true) {x:Int} (hx:0≤x∧x<256):x<(s.size:Int):=by
 have:=Nat.le_of_ble_eq_true h
 omega
theorem len8_ok (x:Int) (h:0≤x∧x<256):Tells (C:=C0) Tryz.prog (.fn 124) [] [.int .u8 x] (.int .i64 (bl x.toNat:Int)):=by
 refine loc_pc (P:=Tryz.prog) (E:=⟨[],[],6,[],[],[],none⟩) (L:=[]) mix Tryz.func124 rfl (by kernel_rfl) (by kernel_rfl) rfl rfl ?_
 ((conv=>arg 1;reduce);with_reducible repeat' first | exact ty | refine ta ?_ ?_ | refine ti fun _ => ?_ | refine tf fun _ => ?_ | refine tl ?_)
 · exact h.1
 · exact tab_lt (by kernel_rfl) h
 · rw [strI_tab _ (fun n=>(bl n:Int)) (by kernel_rfl) h]
   have:bl x.toNat≤8:=bl_le.2 (by omega)
   exact inR64 (n:=(bl x.toNat:Int)) (by omega) (by omega)
 · exact strI_tab _ (fun n=>(bl n:Int)) (by kernel_rfl) h
def pcLen8:Pc Tryz.prog C0 where
 tg:=.fn 124
 X:=Int
 args x:=[.int .u8 x]
 mem _:=[]
 pre x:=0≤x∧x<256
 res x:=.int .i64 (bl x.toNat:Int)
 mat vs _:=match vs with
  | [.int _ x]=>some (x,[])
  | _=>none
 ok x h:=len8_ok x h
abbrev osB (wr:Bool) (y:Os):Ck C0:=⟨y.2.1,0,1,wr,some y.1,.rows 5 y.2.2.1⟩
def Tm2 (P:List Int):Inv' C0:=⟨2,Nat,fun n=>[(3,.int .i64 (n:Int))],fun _ m=>m,fun n=>n≤P.length∧∀ i,n≤i→P.getD i 0=0,fun n=>n⟩
theorem trm_ok (o:Bool) (b q:Nat) (l:List Int) (i n c:Nat) (h:i+n≤l.length) (hc:n≤c) (hn:n<100000000) (ho:o=false→n=0∧c=0) (P:List Int) (hP:(l.drop i).take n=P) (kP:Byt8 P):
 Does (C:=C0) Tryz.prog (.fn 103) [⟨b,q,1,false,some o,.rows 5 l⟩] [.sl 0 i n c]
  [⟨Os,fun y=>Ow (nb (byN P)) y,fun y=>.sl 1 0 (nb (byN P)).length y.2.2.2,fun y=>[⟨b,q,1,false,some o,.rows 5 l⟩,osB true y]⟩]:=by
 have hL:P.length=n:=by rw [← hP];exact row_len h
 have pv:∀ j,j<n→l.getD (j+i) 0=P.getD j 0:=by rw [← hP];exact row_at
 refine loc_fn (P:=Tryz.prog) (E:=⟨[],[],22,[],[],[],none⟩) (L:=[Tm2 P]) mix Tryz.func103 rfl (by kernel_rfl) (by kernel_rfl) rfl rfl ?_
 ((conv=>arg 1;reduce);with_reducible repeat' first | exact ty | refine ta ?_ ?_ | refine ti fun _ => ?_ | refine tf fun _ => ?_ | refine tl ?_)
 all_goals try exact vlf
 · refine Stands.one (n:Nat) ⟨⟨by omega,fun j hj=>by rw [zy,yk (by omega)];rfl⟩,?_⟩
   exact vgo
 all_goals try (
  rename_i j hj d
  change Nat at j
  obtain ⟨k1,k2⟩:j≤P.length∧∀ a,j≤a→P.getD a 0=0:=hj
  have d:(0:Int)<(j:Int):=ng d
  first
  | exact on_of ho (by omega)
  | exact inR64 (n:=(j:Int) - 1) (by omega) (by omega)
  | (show (0:Int)≤(j:Int) - 1;omega)
  | (show (j:Int) - 1<(n:Int);omega)
  | (show ((j:Int) - 1).toNat+i<l.length;omega))
 all_goals try (
  rename_i j hj d
  change Nat at j
  obtain ⟨k1,k2⟩:j≤P.length∧∀ a,j≤a→P.getD a 0=0:=hj
  have d:(decide ((0:Int)<(j:Int)) && decide (l.getD (((j:Int) - 1).toNat+i) 0=0))=true:=d
  simp only [zq,decide_eq_true_eq] at d
  rw [show ((j:Int) - 1).toNat=j - 1 by omega,pv (j - 1) (by omega)] at d
  first
  | exact inR64 (n:=(j:Int) - 1) (by omega) (by omega)
  | (refine Stands.one (j - 1:Nat) ⟨⟨by show j - 1≤P.length;omega,fun a ha => ?_⟩,by show j - 1<j;omega,?_⟩
     · by_cases h9:a=j - 1
       · rw [h9];exact d.2
       · exact k2 a (by omega)
     ((conv=>arg 1;reduce);with_reducible repeat' first | exact ty | refine ta ?_ ?_ | refine ti fun _ => ?_ | refine tf fun _ => ?_ | refine tl ?_)
     all_goals first | exact vlf | (show (j:Int) - 1=((j - 1:Nat):Int);omega)))
 all_goals try (
  rename_i j hj d
  change Nat at j
  obtain ⟨k1,k2⟩:j≤P.length∧∀ a,j≤a→P.getD a 0=0:=hj
  first
  | (show (j:Int)≤(c:Int);omega)
  | (rw [show Tryz.prog.types[5].bytes=1 by kernel_rfl];show i+j≤l.length∧j*1≤140737488355328;omega)
  | (intro h0;have:=ho h0;show j=0∧j=0;omega))
 · rename_i j hj d bb sp hsp
   change Nat at j
   change List Int at sp
   obtain ⟨k1,k2⟩:j≤P.length∧∀ a,j≤a→P.getD a 0=0:=hj
   have d:(decide ((0:Int)<(j:Int)) && decide (l.getD (((j:Int) - 1).toNat+i) 0=0))=false:=d
   have d:j=0∨P.getD (j - 1) 0≠0:=by
    by_cases h0:j=0
    · exact .inl h0
    · right
      intro e
      rw [show ((j:Int) - 1).toNat=j - 1 by omega,pv (j - 1) (by omega),e] at d
      simp at d
      omega
   have hsp:j=0→sp.length=0:=hsp
   have hl:=nl_of kP k1 k2 d
   have ht:=nb_take kP k1 k2 d
   have hL2:(nb (byN P)).length=j:=by rw [nb_len,hl]
   have e0:(l.drop i).take j=P.take j:=by rw [← hP,ot,xa (by omega)]
   refine Ends.one (ye 0 j,bb,(l.drop i).take j ++ sp,j+sp.length) ⟨?_,?_,?_,?_⟩ ?_
   · show ((l.drop i).take j ++ sp).take (nb (byN P)).length=_
     rw [e0,ht,vj rfl]
   · show (nb (byN P)).length≤j+sp.length;omega
   · show j+sp.length≤((l.drop i).take j ++ sp).length
     rw [zx,row_len (by omega)];exact zw _
   · intro h0
     have:¬ 0<j:=fun h=>by
      have h0:ye 0 j=false:=h0
      rw [show ye 0 j=true by rw [Nat.blt_eq];exact h] at h0
      cases h0
     have h2:=hsp (by omega)
     exact ⟨by omega,by show j+sp.length=0;omega⟩
   ((conv=>arg 1;reduce);with_reducible repeat' first | exact ty | refine ta ?_ ?_ | refine ti fun _ => ?_ | refine tf fun _ => ?_ | refine tl ?_)
   all_goals first | exact vlf | exact hL2 | exact hL2.symm
abbrev Sb:=Bool×Nat×Nat×List Int×Nat×Nat×Nat
abbrev Sb.pre:Sb→Prop:=fun (o,b,q,l,i,n,c)=>i+n≤l.length∧n≤c∧n<100000000∧(o=false→n=0∧c=0)∧Byt8 ((l.drop i).take n)
abbrev Sb.lst:Sb→List Int:=fun (o,b,q,l,i,n,c)=>(l.drop i).take n
def fcTrm:Fc Tryz.prog C0 where
 tg:=.fn 103
 X:=Sb
 args:=fun (o,b,q,l,i,n,c)=>[.sl 0 i n c]
 mem:=fun (o,b,q,l,i,n,c)=>[⟨b,q,1,false,some o,.rows 5 l⟩]
 pre:=Sb.pre
 alts:=fun (o,b,q,l,i,n,c)=>[⟨Os,fun y=>Ow (nb (byN ((l.drop i).take n))) y,fun y=>.sl 1 0 (nb (byN ((l.drop i).take n))).length y.2.2.2,fun y=>[⟨b,q,1,false,some o,.rows 5 l⟩,osB true y]⟩]
 mat vs m:=match vs with
  | [.sl s i n c]=>match nth m s with
    | ⟨b,q,_,_,g,.rows 5 l⟩=>some ((onOf g,b,q,l,i,n,c),[s])
    | _=>none
  | _=>none
 ok:=fun (o,b,q,l,i,n,c) h=>trm_ok o b q l i n c h.1 h.2.1 h.2.2.1 h.2.2.2.1 _ rfl h.2.2.2.2
def Dg2 (P:List Int):Inv' C0:=⟨2,Nat,fun n=>[(3,.int .i64 ((n:Int) - 1))],fun _ m=>m,fun n=>n≤P.length∧∀ i,n≤i→P.getD i 0=0,fun n=>n⟩
set_option maxHeartbeats 4000000 in
theorem deg_ok (o:Bool) (b q:Nat) (l:List Int) (i n c:Nat) (h:i+n≤l.length) (hn:n<100000000) (ho:o=false→n=0∧c=0) (P:List Int) (hP:(l.drop i).take n=P) (kP:Byt8 P):
 Tells (C:=C0) Tryz.prog (.fn 104) [⟨b,q,1,false,some o,.rows 5 l⟩] [.sl 0 i n c] (.int .i64 ((bl (byN P):Int) - 1)):=by
 have hL:P.length=n:=by rw [← hP];exact row_len h
 have pv:∀ j,j<n→l.getD (j+i) 0=P.getD j 0:=by rw [← hP];exact row_at
 have hbl:=byN_bl P
 refine loc_pc (P:=Tryz.prog) (E:=⟨[],[pcLen8],25,[],[],[],none⟩) (L:=[Dg2 P]) mix Tryz.func104 rfl (by kernel_rfl) (by kernel_rfl) rfl rfl ?_
 ((conv=>arg 1;reduce);with_reducible repeat' first | exact ty | refine ta ?_ ?_ | refine ti fun _ => ?_ | refine tf fun _ => ?_ | refine tl ?_)
 all_goals try exact vlf
 · refine Stands.one (n:Nat) ⟨⟨by omega,fun j hj=>by rw [zy,yk (by omega)];rfl⟩,?_⟩
   exact vgo
 all_goals try (
  rename_i j hj d
  change Nat at j
  obtain ⟨k1,k2⟩:j≤P.length∧∀ a,j≤a→P.getD a 0=0:=hj
  have d:(0:Int)≤(j:Int) - 1:=ng d
  first
  | exact on_of ho (by omega)
  | exact d
  | (show (j:Int) - 1<(n:Int);omega)
  | (show ((j:Int) - 1).toNat+i<l.length;omega))
 all_goals try (
  rename_i j hj d e
  change Nat at j
  obtain ⟨k1,k2⟩:j≤P.length∧∀ a,j≤a→P.getD a 0=0:=hj
  have d:(0:Int)≤(j:Int) - 1:=ng d
  have e1:((j:Int) - 1).toNat=j - 1:=by omega
  first
  | exact on_of ho (by omega)
  | exact d
  | (show (j:Int) - 1<(n:Int);omega)
  | (show ((j:Int) - 1).toNat+i<l.length;omega)
  | exact inR64 (n:=8*((j:Int) - 1)) (by omega) (by omega)
  | exact inR64 (n:=(j:Int) - 1 - 1) (by omega) (by omega)
  | (have e:(0:Int)<l.getD (((j:Int) - 1).toNat+i) 0:=ng e
     rw [e1,pv (j - 1) (by omega)] at e
     have hb:=bl_at kP (i:=j - 1) (by omega) (fun a ha=>k2 a (by omega)) (by omega)
     have hx:0≤P.getD (j - 1) 0∧P.getD (j - 1) 0<256:=by
      rw [zy,zt (by omega),ym]
      exact kP _ (xe _)
     first
     | (show 0≤l.getD (((j:Int) - 1).toNat+i) 0∧l.getD (((j:Int) - 1).toNat+i) 0<256;rw [e1,pv (j - 1) (by omega)];exact hx)
     | (show inR .i64 (8*((j:Int) - 1)+(bl (l.getD (((j:Int) - 1).toNat+i) 0).toNat:Int));rw [e1,pv (j - 1) (by omega)];exact inR64 (by omega) (by omega))
     | (show inR .i64 (8*((j:Int) - 1)+(bl (l.getD (((j:Int) - 1).toNat+i) 0).toNat:Int) - 1);rw [e1,pv (j - 1) (by omega)];exact inR64 (by omega) (by omega))
     | (show 8*((j:Int) - 1)+(bl (l.getD (((j:Int) - 1).toNat+i) 0).toNat:Int) - 1=_;rw [e1,pv (j - 1) (by omega)];omega))
  | (have e:¬ (0:Int)<l.getD (((j:Int) - 1).toNat+i) 0:=nf e
     rw [e1,pv (j - 1) (by omega)] at e
     have hx:0≤P.getD (j - 1) 0:=by
      rw [zy,zt (by omega),ym]
      exact (kP _ (xe _)).1
     refine Stands.one (j - 1:Nat) ⟨⟨by show j - 1≤P.length;omega,fun a ha => ?_⟩,by show j - 1<j;omega,?_⟩
     · by_cases h9:a=j - 1
       · rw [h9];omega
       · exact k2 a (by omega)
     ((conv=>arg 1;reduce);with_reducible repeat' first | exact ty | refine ta ?_ ?_ | refine ti fun _ => ?_ | refine tf fun _ => ?_ | refine tl ?_)
     all_goals first | exact vlf | (show (j:Int) - 1 - 1=((j - 1:Nat):Int) - 1;omega)))
 · rename_i j hj d
   change Nat at j
   obtain ⟨k1,k2⟩:j≤P.length∧∀ a,j≤a→P.getD a 0=0:=hj
   have d:¬ (0:Int)≤(j:Int) - 1:=nf d
   rw [byN_zero kP fun a=>k2 a (by omega)]
   rfl
def pcDeg:Pc Tryz.prog C0 where
 tg:=.fn 104
 X:=Sb
 args:=fun (o,b,q,l,i,n,c)=>[.sl 0 i n c]
 mem:=fun (o,b,q,l,i,n,c)=>[⟨b,q,1,false,some o,.rows 5 l⟩]
 pre:=Sb.pre
 res:=fun (o,b,q,l,i,n,c)=>.int .i64 ((bl (byN ((l.drop i).take n)):Int) - 1)
 mat vs m:=match vs with
  | [.sl s i n c]=>match nth m s with
    | ⟨b,q,_,_,g,.rows 5 l⟩=>some ((onOf g,b,q,l,i,n,c),[s])
    | _=>none
  | _=>none
 ok:=fun (o,b,q,l,i,n,c) h=>deg_ok o b q l i n c h.1 h.2.2.1 h.2.2.2.1 _ rfl h.2.2.2.2
end
end Go.Vx
namespace Go.Vx
open Go Go.Proofs
noncomputable section
variable [Gl]
theorem Oqw.snoc {L:List Int} {y:Oq} (h:Oqw L y) (x:Int) (o:Bool) (b q:Nat) (l sp:List Int) (k:Nat) (hl:l=y.2.2.2.1.take L.length ++ [x] ++ sp) (h1:L.length+1≤k) (h2:k≤L.length+1+sp.length) (ho:o=true):
 Oqw (L ++ [x]) (o,b,q,l,k):=by
 subst hl ho
 refine ⟨?_,?_,?_,fun h=>nomatch h⟩
 · show (y.2.2.2.1.take L.length ++ [x] ++ sp).take (L ++ [x]).length=_
   rw [h.eq,vj rfl]
 · show (L ++ [x]).length≤k
   rw [zx];exact h1
 · show k≤(y.2.2.2.1.take L.length ++ [x] ++ sp).length
   rw [h.eq]
   simp only [zx,xy,List.length_nil]
   omega
theorem Oqw.none:Oqw [] (false,0,0,[],0):=⟨rfl,zw 0,zw 0,fun _=>⟨rfl,rfl⟩⟩
def Ex3 (N:Nat):Inv' C0:=⟨3,Nat×Oq,fun x=>[(4,.int .i64 ((bl N:Int) - 1 - (x.1:Int))),(3,.sl 1 0 (exR N (bl N) x.1).length x.2.2.2.2.2)],fun x m=>match m with
 | p :: _=>[p,oqC true x.2]
 | m=>m,fun x=>x.1≤bl N∧Oqw (exR N (bl N) x.1) x.2,fun x=>bl N - x.1⟩
set_option maxHeartbeats 4000000 in
theorem exps_ok (o:Bool) (b q:Nat) (l:List Int) (i n c:Nat) (hp:Sb.pre (o,b,q,l,i,n,c)) (P:List Int) (hP:(l.drop i).take n=P) (N:Nat) (hN:byN P=N):
 Does (C:=C0) Tryz.prog (.fn 105) [⟨b,q,1,false,some o,.rows 5 l⟩] [.sl 0 i n c]
  [⟨Oq,fun y=>Oqw (exL N) y,fun y=>.sl 1 0 (exL N).length y.2.2.2.2,fun y=>[⟨b,q,1,false,some o,.rows 5 l⟩,oqC true y]⟩]:=by
 obtain ⟨h,hc,hn,ho,kP⟩:=id hp
 have hbl:=byN_bl P
 have hL:P.length=n:=by rw [← hP];exact row_len h
 rw [hN] at hbl
 have hby:Tryz.prog.types[3].bytes=8:=by kernel_rfl
 have lR:=fun j=>exR_len N (bl N) j
 refine loc_fn (P:=Tryz.prog) (E:=⟨[],[pcDeg,pcPbit],20,[],[],[],none⟩) (L:=[Ex3 N]) mix Tryz.func105 rfl (by kernel_rfl) (by kernel_rfl) rfl rfl ?_
 ((conv=>arg 1;reduce);with_reducible repeat' first | exact ty | refine ta ?_ ?_ | refine ti fun _ => ?_ | refine tf fun _ => ?_ | refine tl ?_)
 all_goals try exact vlf
 · exact hp
 · refine Stands.one ((0,(false,0,0,[],0)):Nat×Oq) ⟨⟨zg _,Oqw.none⟩,?_⟩
   ((conv=>arg 1;reduce);with_reducible repeat' first | exact ty | refine ta ?_ ?_ | refine ti fun _ => ?_ | refine tf fun _ => ?_ | refine tl ?_)
   all_goals first | exact vlf | (show (bl (byN ((l.drop i).take n)):Int) - 1=(bl N:Int) - 1 - ((0:Nat):Int);rw [hP,hN];omega)
 all_goals try (
  rename_i x hx d
  change Nat×Oq at x
  obtain ⟨j,y⟩:=x
  obtain ⟨k1,k2⟩:j≤bl N∧Oqw (exR N (bl N) j) y:=hx
  have d:0≤(bl N:Int) - 1 - (j:Int):=ng d
  exact ⟨⟨⟨h,by show n<1000000000;omega,ho⟩,by show n<100000000;omega⟩,⟨d,by show (bl N:Int) - 1 - (j:Int)<1000000000;omega⟩,kP⟩)
 all_goals try (
  rename_i x hx d e g1
  change Nat×Oq at x
  obtain ⟨j,y⟩:=x
  obtain ⟨k1,k2⟩:j≤bl N∧Oqw (exR N (bl N) j) y:=hx
  have:=lR j
  first
  | (rw [hby];exact ⟨k2.cap,by show 0+y.2.2.2.2≤_;rw [we];exact k2.len,zw _,by show ((exR N (bl N) j).length+1)*8≤_;omega⟩)
  | exact k2.nil)
 all_goals try (
  rename_i x hx d e g1 g2 g3 sp k h1 h2
  change Nat×Oq at x
  change List Int at sp
  obtain ⟨j,y⟩:=x
  obtain ⟨k1,k2⟩:j≤bl N∧Oqw (exR N (bl N) j) y:=hx
  have d:0≤(bl N:Int) - 1 - (j:Int):=ng d
  have e:decide ((0:Int)<((bt ((l.drop i).take n) ((bl N:Int) - 1 - (j:Int)).toNat).toNat:Int))=true:=e
  have e1:((bl N:Int) - 1 - (j:Int)).toNat=bl N - 1 - j:=by omega
  have e2:N.testBit (bl N - 1 - j)=true:=by
   rw [e1,hP] at e
   rw [← hN,byN_bit,hN]
   have:=ng e
   cases hb:bt P (bl N - 1 - j) with
   | true=>rfl
   | false=>rw [hb] at this;exact absurd this (by decide)
  have e3:exR N (bl N) (j+1)=exR N (bl N) j ++ [(bl N:Int) - 1 - (j:Int)]:=by
   show exR N (bl N) j ++ _=_
   rw [e2,if_pos rfl]
   congr 2
   omega
  have h1:(exR N (bl N) j).length+1≤k:=h1
  have h2:k≤(exR N (bl N) j).length+1+sp.length:=h2
  first
  | exact inR64 (n:=(bl N:Int) - 1 - (j:Int) - 1) (by omega) (by omega)
  | (refine Stands.one ((j+1,(true,g2,g3,y.2.2.2.1.take (exR N (bl N) j).length ++ [(bl N:Int) - 1 - (j:Int)] ++ sp,k)):Nat×Oq) ⟨⟨by show j+1≤bl N;omega,?_⟩,by show bl N - (j+1)<bl N - j;omega,?_⟩
     · show Oqw (exR N (bl N) (j+1)) _
       rw [e3]
       exact k2.snoc _ _ _ _ _ sp _ rfl h1 h2 rfl
     ((conv=>arg 1;reduce);with_reducible repeat' first | exact ty | refine ta ?_ ?_ | refine ti fun _ => ?_ | refine tf fun _ => ?_ | refine tl ?_)
     all_goals first
      | exact vlf
      | (show (bl N:Int) - 1 - (j:Int) - 1=(bl N:Int) - 1 - ((j+1:Nat):Int);omega)
      | (show (exR N (bl N) j).length+1=(exR N (bl N) (j+1)).length;rw [e3,zx];rfl)
      | (show (exR N (bl N) (j+1)).length=(exR N (bl N) j).length+1;rw [e3,zx];rfl)))
 all_goals try (
  rename_i x hx d e
  change Nat×Oq at x
  obtain ⟨j,y⟩:=x
  obtain ⟨k1,k2⟩:j≤bl N∧Oqw (exR N (bl N) j) y:=hx
  have d:0≤(bl N:Int) - 1 - (j:Int):=ng d
  have e:decide ((0:Int)<((bt ((l.drop i).take n) ((bl N:Int) - 1 - (j:Int)).toNat).toNat:Int))=false:=e
  have e1:((bl N:Int) - 1 - (j:Int)).toNat=bl N - 1 - j:=by omega
  have e2:N.testBit (bl N - 1 - j)=false:=by
   rw [e1,hP] at e
   rw [← hN,byN_bit,hN]
   have:=nf e
   cases hb:bt P (bl N - 1 - j) with
   | false=>rfl
   | true=>rw [hb] at this;exact absurd (by decide) this
  have e3:exR N (bl N) (j+1)=exR N (bl N) j:=by
   show exR N (bl N) j ++ _=_
   rw [e2,if_neg Bool.false_ne_true,List.append_nil]
  first
  | exact inR64 (n:=(bl N:Int) - 1 - (j:Int) - 1) (by omega) (by omega)
  | (refine Stands.one ((j+1,y):Nat×Oq) ⟨⟨by show j+1≤bl N;omega,?_⟩,by show bl N - (j+1)<bl N - j;omega,?_⟩
     · show Oqw (exR N (bl N) (j+1)) _
       rw [e3]
       exact k2
     ((conv=>arg 1;reduce);with_reducible repeat' first | exact ty | refine ta ?_ ?_ | refine ti fun _ => ?_ | refine tf fun _ => ?_ | refine tl ?_)
     all_goals first
      | exact vlf
      | (show (bl N:Int) - 1 - (j:Int) - 1=(bl N:Int) - 1 - ((j+1:Nat):Int);omega)
      | (show (exR N (bl N) j).length=(exR N (bl N) (j+1)).length;rw [e3])
      | (show (exR N (bl N) (j+1)).length=(exR N (bl N) j).length;rw [e3])))
 · rename_i x hx d
   change Nat×Oq at x
   obtain ⟨j,y⟩:=x
   obtain ⟨k1,k2⟩:j≤bl N∧Oqw (exR N (bl N) j) y:=hx
   have d:¬ 0≤(bl N:Int) - 1 - (j:Int):=nf d
   obtain rfl:j=bl N:=by omega
   have e:exR N (bl N) (bl N)=exL N:=by unfold exL;rfl
   refine Ends.one y (by show Oqw (exL N) y;rw [← e];exact k2) ?_
   ((conv=>arg 1;reduce);with_reducible repeat' first | exact ty | refine ta ?_ ?_ | refine ti fun _ => ?_ | refine tf fun _ => ?_ | refine tl ?_)
   all_goals first | exact vlf | (show (exR N (bl N) (bl N)).length=(exL N).length;rw [e]) | (show (exL N).length=(exR N (bl N) (bl N)).length;rw [e])
def fcExps:Fc Tryz.prog C0 where
 tg:=.fn 105
 X:=Sb
 args:=fun (o,b,q,l,i,n,c)=>[.sl 0 i n c]
 mem:=fun (o,b,q,l,i,n,c)=>[⟨b,q,1,false,some o,.rows 5 l⟩]
 pre:=Sb.pre
 alts:=fun (o,b,q,l,i,n,c)=>[⟨Oq,fun y=>Oqw (exL (byN ((l.drop i).take n))) y,fun y=>.sl 1 0 (exL (byN ((l.drop i).take n))).length y.2.2.2.2,fun y=>[⟨b,q,1,false,some o,.rows 5 l⟩,oqC true y]⟩]
 mat vs m:=match vs with
  | [.sl s i n c]=>match nth m s with
    | ⟨b,q,_,_,g,.rows 5 l⟩=>some ((onOf g,b,q,l,i,n,c),[s])
    | _=>none
  | _=>none
 ok:=fun (o,b,q,l,i,n,c) h=>exps_ok o b q l i n c h _ rfl _ rfl
end
end Go.Vx
namespace Go.Vx
theorem tb_shl (a j:Nat) (h:j<8):(a*2 ^ 1 % 256).testBit j=(decide (0<j) && a.testBit (j - 1)):=by
 rw [show (256:Nat)=2 ^ 8 from rfl,ss,decide_eq_true h,zd,← uw,vr]
 rfl
theorem tb_shr (a s j:Nat):(a / 2 ^ s).testBit j=a.testBit (s+j):=pf a j ▸ (by rw [Nat.add_comm])
theorem tb_xor (a b j:Nat):(a ^^^ b).testBit j=(a.testBit j ^^ b.testBit j):=ww ..
theorem tb_or (a b j:Nat):(a ||| b).testBit j=(a.testBit j || b.testBit j):=Nat.testBit_or ..
theorem by_set {n i:Nat} {b c:Nat→Bool} {x:Nat} (hi:i<n) (hx:x<256) (h:∀ k,k<8*n→c k=if k / 8=i then x.testBit (k % 8) else b k):(by' n b).set i (x:Int)=by' n c:=by
 refine byt_ext (byt_set (by_byt _ _) ⟨by omega,by omega⟩) (by_byt _ _) (by rw [zh,by_len,by_len]) fun k hk => ?_
 rw [zh,by_len] at hk
 rw [bt_set (by rw [by_len];exact hi),zu,by_bt (b:=c) hk,h k hk]
 split
 · rfl
 · exact by_bt hk
theorem by_at {n i:Nat} {b:Nat→Bool} (hi:i<n):∃ x:Nat,(by' n b).getD i 0=(x:Int)∧x<256∧∀ j,j<8→x.testBit j=b (8*i+j):=by
 refine ⟨bn 8 fun j=>b (8*i+j),by_getD hi,bn_lt 8 _,fun j hj => ?_⟩
 rw [bn_bit,decide_eq_true hj,zd]
theorem byt_at {P:List Int} (h:Byt8 P) {i:Nat} (hi:i<P.length):∃ x:Nat,P.getD i 0=(x:Int)∧x<256∧∀ j,j<8→x.testBit j=bt P (8*i+j):=by
 have:=by_at (b:=bt P) hi
 rwa [← byt_eq h] at this
section
variable (D:Nat) (g:Nat→Bool)
def rgs (r:Nat→Bool) (b:Nat→Bool):Nat→Nat→Bool
 | 0=>r
 | i+1=>shf D g (rgs r b i) (b (7 - i))
variable {D g}
theorem shf_congr {r s:Nat→Bool} {b:Bool} (hD:1≤D) (h:∀ k,k<D→r k=s k) {k:Nat} (hk:k<D):shf D g r b k=shf D g s b k:=by
 unfold shf
 rw [h (D - 1) (by omega)]
 congr 1
 split
 · rfl
 · exact h _ (by omega)
theorem rgs_congr {r s b c:Nat→Bool} (hD:1≤D) (h:∀ k,k<D→r k=s k) (hb:∀ k,k<8→b k=c k):∀ i,∀ k,k<D→rgs D g r b i k=rgs D g s c i k
 | 0,k,hk=>h k hk
 | i+1,k,hk=>by
   show shf D g _ _ k=shf D g _ _ k
   rw [hb (7 - i) (by omega)]
   exact shf_congr hD (rgs_congr hD h hb i) hk
theorem reg_byte {b:Nat→Bool} {n j:Nat} (hj:j<n):∀ i,i≤8→reg D g b (8*n) (8*j+i)=rgs D g (reg D g b (8*n) (8*j)) (fun k=>b (8*(n - 1 - j)+k)) i
 | 0,_=>rfl
 | i+1,h=>by
   show shf D g (reg D g b (8*n) (8*j+i)) (b (8*n - 1 - (8*j+i)))=shf D g _ _
   rw [reg_byte hj i (by omega)]
   congr 2
   omega
@[irreducible] def rgB (D:Nat) (g:Nat→Bool) (n:Nat) (r:Nat→Bool):List Int:=by' n fun k=>decide (k<D) && r k
theorem rgB_eq {n:Nat} {r:Nat→Bool}:rgB D g n r=by' n fun k=>decide (k<D) && r k:=by unfold rgB;rfl
theorem rgB_len {n:Nat} {r:Nat→Bool}:(rgB D g n r).length=n:=by rw [rgB_eq,by_len]
theorem rgB_byt {n:Nat} {r:Nat→Bool}:Byt8 (rgB D g n r):=by rw [rgB_eq];exact by_byt _ _
theorem rgB_bt {n k:Nat} {r:Nat→Bool} (h:k<8*n):bt (rgB D g n r) k=(decide (k<D) && r k):=by rw [rgB_eq,by_bt h]
theorem rgB_congr {n:Nat} {r s:Nat→Bool} (h:∀ k,k<D→r k=s k):rgB D g n r=rgB D g n s:=by
 rw [rgB_eq,rgB_eq]
 refine by_congr fun k _ => ?_
 by_cases hk:k<D
 · rw [h k hk]
 · rw [decide_eq_false hk,yf,yf]
def shB (n:Nat) (r:Nat→Bool) (i:Nat):List Int:=by' n fun k=>if i<k / 8 then r (k - 1) else r k
theorem shB_len {n i:Nat} {r:Nat→Bool}:(shB n r i).length=n:=by unfold shB;rw [by_len]
theorem shB_top {n:Nat} {r:Nat→Bool} (h:1≤n):shB n r (n - 1)=by' n r:=by
 unfold shB
 exact by_congr fun k hk=>by rw [if_neg (by omega)]
theorem shB_step {n i:Nat} {r:Nat→Bool} (hi:0<i) (hn:i<n):(shB n r i).set i (ibit .or .u8 (ishl .u8 ((shB n r i).getD i 0) 1) (ishr .u8 ((shB n r i).getD (i - 1) 0) 7))=shB n r (i - 1):=by
 unfold shB
 obtain ⟨x,hx,x1,x2⟩:=by_at (b:=fun k=>if i<k / 8 then r (k - 1) else r k) hn
 obtain ⟨y,hy,y1,y2⟩:=by_at (b:=fun k=>if i<k / 8 then r (k - 1) else r k) (show i - 1<n by omega)
 rw [hx,hy,show ishl .u8 (x:Int) 1=((x*2 ^ 1 % 256:Nat):Int) from shl8 x 1 (by omega),show ishr .u8 (y:Int) 7=((y / 2 ^ 7:Nat):Int) from shr8 .u8 y 7 (show 7≤8 by omega),or8 (yv _ (by omega)) (by omega)]
 refine by_set hn (Nat.or_lt_two_pow (n:=8) (yv _ (by omega)) (by omega)) fun k hk => ?_
 by_cases hki:k / 8=i
 · rw [if_pos hki,if_pos (by omega),tb_or,tb_shl x (k % 8) (yv _ (by omega)),tb_shr]
   by_cases h0:k % 8=0
   · rw [h0,show decide (0<0)=false from rfl,yf,Bool.false_or,y2 7 (by omega),if_neg (by omega)]
     congr 1;omega
   · rw [show decide (0<k % 8)=true from decide_eq_true (by omega),zd,x2 (k % 8 - 1) (by omega),if_neg (by omega)]
     have:y.testBit (7+k % 8)=false:=xw (zk y1 (show 2 ^ 8≤_ from zj (by omega) (by omega)))
     rw [this,Bool.or_false]
     congr 1;omega
 · rw [if_neg hki]
   by_cases h1:i<k / 8
   · rw [if_pos h1,if_pos (by omega)]
   · rw [if_neg h1,if_neg (by omega)]
def sh0 (n:Nat) (r:Nat→Bool):List Int:=by' n fun k=>decide (0<k) && r (k - 1)
theorem sh0_step {n:Nat} {r:Nat→Bool} (hn:0<n):(shB n r 0).set 0 (ishl .u8 ((shB n r 0).getD 0 0) 1)=sh0 n r:=by
 unfold shB sh0
 obtain ⟨x,hx,x1,x2⟩:=by_at (b:=fun k=>if 0<k / 8 then r (k - 1) else r k) hn
 rw [hx,show ishl .u8 (x:Int) 1=((x*2 ^ 1 % 256:Nat):Int) from shl8 x 1 (by omega)]
 refine by_set hn (yv _ (by omega)) fun k hk => ?_
 by_cases hki:k / 8=0
 · rw [if_pos hki,tb_shl x (k % 8) (yv _ (by omega))]
   by_cases h0:k=0
   · subst h0;rfl
   · rw [show decide (0<k)=true from decide_eq_true (by omega),show decide (0<k % 8)=true from decide_eq_true (by omega),x2 (k % 8 - 1) (by omega),if_neg (by omega)]
     congr 2;omega
 · rw [if_neg hki,if_pos (by omega),decide_eq_true (show 0<k by omega),zd]
theorem by_mask {n:Nat} {r:Nat→Bool} (hn:n=(D+7) / 8) (hD:0<D % 8):(by' n r).set (n - 1) (ibit .and .u8 ((by' n r).getD (n - 1) 0) ((2 ^ (D % 8) - 1:Nat):Int))=rgB D g n r:=by
 rw [rgB_eq]
 obtain ⟨x,hx,x1,x2⟩:=by_at (b:=r) (show n - 1<n by omega)
 have hm:2 ^ (D % 8)≤2 ^ 8:=zj (by omega) (by omega)
 have hp:=yg (D % 8)
 rw [hx,and8 x1 (by omega)]
 refine by_set (by omega) (wh Nat.and_le_left x1) fun k hk => ?_
 by_cases hki:k / 8=n - 1
 · rw [if_pos hki,Nat.testBit_and,Nat.testBit_two_pow_sub_one,x2 _ (yv _ (by omega)),show 8*(n - 1)+k % 8=k by omega,show decide (k % 8<D % 8)=decide (k<D) from decide_eq_decide.2 (by omega),Bool.and_comm]
 · rw [if_neg hki,decide_eq_true (show k<D by omega),zd]
theorem by_full {n:Nat} {r:Nat→Bool} (hn:n=(D+7) / 8) (hD:D % 8=0):by' n r=rgB D g n r:=by
 rw [rgB_eq]
 exact by_congr fun k hk=>by rw [decide_eq_true (show k<D by omega),zd]
def xoB (n:Nat) (r s:Nat→Bool) (i:Nat):List Int:=by' n fun k=>r k ^^ (decide (k<8*i) && s k)
theorem xoB_len {n i:Nat} {r s:Nat→Bool}:(xoB n r s i).length=n:=by unfold xoB;rw [by_len]
theorem xoB_zero {n:Nat} {r s:Nat→Bool}:xoB n r s 0=by' n r:=by
 unfold xoB
 exact by_congr fun k _=>by simp
theorem xoB_all {n:Nat} {r s:Nat→Bool}:xoB n r s n=by' n fun k=>r k ^^ s k:=by
 unfold xoB
 exact by_congr fun k hk=>by rw [decide_eq_true hk,zd]
theorem xoB_step {n i:Nat} {r s:Nat→Bool} {y:Nat} (hi:i<n) (hy:y<256) (h:∀ j,j<8→y.testBit j=s (8*i+j)):(xoB n r s i).set i (ibit .xor .u8 ((xoB n r s i).getD i 0) (y:Int))=xoB n r s (i+1):=by
 unfold xoB
 obtain ⟨x,hx,x1,x2⟩:=by_at (b:=fun k=>r k ^^ (decide (k<8*i) && s k)) hi
 rw [hx,xor8 x1 hy]
 refine by_set hi (wo (n:=8) x1 hy) fun k hk => ?_
 by_cases hki:k / 8=i
 · rw [if_pos hki,tb_xor,x2 _ (yv _ (by omega)),h _ (yv _ (by omega)),show 8*i+k % 8=k by omega,decide_eq_false (show ¬ k<8*i by omega),decide_eq_true (show k<8*(i+1) by omega)]
   simp
 · rw [if_neg hki,show decide (k<8*(i+1))=decide (k<8*i) from decide_eq_decide.2 (by omega)]
theorem shf_rgB {n:Nat} {r:Nat→Bool} {b:Bool} (hD:1≤D) (hn:n=(D+7) / 8) (hg:∀ k,D≤k→g k=false):
 rgB D g n (shf D g r b)=if (b ^^ r (D - 1))=true then xoB n (fun k=>decide (k<D) && (decide (0<k) && r (k - 1))) g n else rgB D g n fun k=>decide (0<k) && r (k - 1):=by
 rw [rgB_eq,rgB_eq,xoB_all]
 have e:∀ k,(if k=0 then false else r (k - 1))=(decide (0<k) && r (k - 1)):=fun k=>by
  by_cases h:k=0
  · rw [if_pos h,decide_eq_false (by omega),yf]
  · rw [if_neg h,decide_eq_true (by omega),zd]
 split
 · rename_i h
   refine by_congr fun k _ => ?_
   unfold shf
   rw [e,h,zd]
   by_cases hk:k<D
   · rw [decide_eq_true hk,zd,zd]
   · rw [decide_eq_false hk,hg k (by omega)];rfl
 · rename_i h
   refine by_congr fun k _ => ?_
   unfold shf
   rw [e,Bool.eq_false_iff.2 h,yf,vv]
end
end Go.Vx
namespace Go.Vx
theorem byn_xor {K N j y:Nat} (hj:j<K) (hy:y<256):(by' K N.testBit).set j (ibit .xor .u8 ((by' K N.testBit).getD j 0) (y:Int))=by' K (N ^^^ (y <<< (8*j))).testBit:=by
 obtain ⟨x,hx,x1,x2⟩:=by_at (b:=N.testBit) hj
 rw [hx,xor8 x1 hy]
 refine by_set hj (wo (n:=8) x1 hy) fun k hk => ?_
 rw [tb_xor,vr]
 by_cases h:k / 8=j
 · rw [if_pos h,tb_xor,x2 _ (yv _ (by omega)),show 8*j+k % 8=k by omega,show decide (8*j≤k)=true from decide_eq_true (by omega),zd,show k - 8*j=k % 8 by omega]
 · rw [if_neg h]
   by_cases h2:8*j≤k
   · have:y.testBit (k - 8*j)=false:=xw (zk hy (show 2 ^ 8≤_ from zj (by omega) (by omega)))
     rw [this,Bool.and_false,vv]
   · rw [decide_eq_false (by omega),yf,vv]
@[irreducible] def inN (A Q s i:Nat):Nat:=A ^^^ ((Q % 2 ^ (8*i)) <<< s)
theorem inN_zero {A Q s:Nat}:inN A Q s 0=A:=by
 unfold inN
 rw [Nat.mul_zero,se,Nat.mod_one,nu,sy]
theorem inN_all {A Q s n:Nat} (h:bl Q≤8*n):inN A Q s n=A ^^^ (Q <<< s):=by
 unfold inN
 rw [Nat.mod_eq_of_lt (bl_le.1 h)]
theorem inN_step {A s i c:Nat} {P:List Int} (hP:Byt8 P) (hi:i<P.length) (hc:P.getD i 0=(c:Int)):inN A (byN P) s (i+1)=inN A (byN P) s i ^^^ ((c*2 ^ (s % 8) % 256) <<< (8*(i+s / 8))) ^^^ ((c / 2 ^ (8 - s % 8)) <<< (8*(i+s / 8+1))):=by
 obtain ⟨x,hx,x1,x2⟩:=byt_at hP hi
 rw [hc] at hx
 obtain rfl:c=x:=Int.ofNat.inj hx
 unfold inN
 refine vz fun k => ?_
 simp only [tb_xor,vr,ss,byN_bit]
 rw [show (256:Nat)=2 ^ 8 from rfl,ss,← uw,vr,pf]
 by_cases h0:s≤k
 · rw [decide_eq_true h0,zd,zd]
   by_cases h1:k - s<8*i
   · rw [decide_eq_true (show k - s<8*(i+1) by omega),decide_eq_true h1]
     by_cases h2:8*(i+s / 8)≤k
     · have e1:decide (s % 8≤k - 8*(i+s / 8))=false:=decide_eq_false (by omega)
       rw [e1,decide_eq_false (show ¬ 8*(i+s / 8+1)≤k by omega)]
       simp
     · rw [decide_eq_false h2,decide_eq_false (show ¬ 8*(i+s / 8+1)≤k by omega)]
       simp
   · rw [decide_eq_false h1]
     by_cases h3:k - s<8*(i+1)
     · rw [decide_eq_true h3,zd,yf,vv,decide_eq_true (show 8*(i+s / 8)≤k by omega),zd]
       have hb:bt P (k - s)=c.testBit (k - s - 8*i):=by rw [x2 _ (by omega)];congr 1;omega
       rw [hb]
       by_cases h4:8*(i+s / 8+1)≤k
       · rw [decide_eq_true h4,decide_eq_false (show ¬ k - 8*(i+s / 8)<8 by omega),yf,vv,zd,show k - 8*(i+s / 8+1)+(8 - s % 8)=k - s - 8*i by omega]
       · rw [decide_eq_false h4,decide_eq_true (show k - 8*(i+s / 8)<8 by omega),decide_eq_true (show s % 8≤k - 8*(i+s / 8) by omega),zd,zd,yf,vv,show k - 8*(i+s / 8) - s % 8=k - s - 8*i by omega]
     · rw [decide_eq_false h3]
       have e1:decide (k - 8*(i+s / 8)<8)=false:=decide_eq_false (by omega)
       have e2:c.testBit (k - 8*(i+s / 8+1)+(8 - s % 8))=false:=xw (zk x1 (show 2 ^ 8≤_ from zj (by omega) (by omega)))
       rw [e1,e2]
       simp
 · rw [decide_eq_false h0]
   by_cases h2:8*(i+s / 8)≤k
   · rw [decide_eq_false (show ¬ s % 8≤k - 8*(i+s / 8) by omega),decide_eq_false (show ¬ 8*(i+s / 8+1)≤k by omega)]
     simp
   · rw [decide_eq_false h2,decide_eq_false (show ¬ 8*(i+s / 8+1)≤k by omega)]
     simp
@[irreducible] def byT (K N:Nat):List Int:=by' K N.testBit
theorem byT_eq (K N:Nat):byT K N=by' K N.testBit:=by unfold byT;rfl
theorem byT_len (K N:Nat):(byT K N).length=K:=by rw [byT_eq,by_len]
theorem byT_byt (K N:Nat):Byt8 (byT K N):=by rw [byT_eq];exact by_byt _ _
theorem byT_xor {K N j y:Nat} (hj:j<K) (hy:y<256):(byT K N).set j (ibit .xor .u8 ((byT K N).getD j 0) (y:Int))=byT K (N ^^^ (y <<< (8*j))):=by
 rw [byT_eq,byT_eq];exact byn_xor hj hy
theorem byT_N {K N:Nat} (h:N<2 ^ (8*K)):byN (byT K N)=N:=by rw [byT_eq,byN_by h]
theorem byT_zero (K:Nat):byT K 0=zo K 0:=by
 rw [byT_eq]
 refine byt_ext (by_byt _ _) (fun x hx=>by rw [List.mem_replicate] at hx;omega) (by rw [by_len,xz]) fun k hk => ?_
 rw [by_len] at hk
 rw [by_bt hk,xj]
 unfold bt
 rw [zy,sw]
 split <;> exact (xj _).symm
end Go.Vx
namespace Go.Vx
open Go Go.Proofs
noncomputable section
variable [Gl]
def In1 (P:List Int) (K A s:Nat):Inv' C0:=⟨1,Nat,fun i=>[(11,.int .i64 (i:Int))],fun i m=>match m with
 | [p,t]=>[p,⟨t.block,t.base,1,true,none,.rows 5 (byT K (inN A (byN P) s i))⟩]
 | m=>m,fun i=>i≤P.length,fun i=>P.length - i⟩
set_option maxHeartbeats 4000000 in
theorem into_ok (o:Bool) (b q:Nat) (l:List Int) (i n c:Nat) (hp:Sb.pre (o,b,q,l,i,n,c)) (P:List Int) (hP:(l.drop i).take n=P) (b1 q1 A K s:Nat) (hK:n+s / 8+1≤K) (hs:K<100000000):
 Does (C:=C0) Tryz.prog (.fn 106) [⟨b,q,1,false,some o,.rows 5 l⟩,⟨b1,q1,1,true,none,.rows 5 (byT K A)⟩] [.sl 0 i n c,.sl 1 0 K K,.int .i64 (s:Int)]
  [⟨Unit,fun _=>True,fun _=>.tup [],fun _=>[⟨b,q,1,false,some o,.rows 5 l⟩,⟨b1,q1,1,true,none,.rows 5 (byT K (A ^^^ (byN P <<< s)))⟩]⟩]:=by
 obtain ⟨h,hc,hn,ho,kP⟩:=id hp
 rw [hP] at kP
 have hbl:=byN_bl P
 have hL:P.length=n:=by rw [← hP];exact row_len h
 have pv:∀ j,j<n→l.getD (j+i) 0=P.getD j 0:=by rw [← hP];exact row_at
 have e1:(s:Int).tdiv 8=((s / 8:Nat):Int):=(yj s 8).symm
 have e2:(s:Int).tmod 8=((s % 8:Nat):Int):=(zb s 8).symm
 have bL:=fun N:Nat=>byT_len K N
 refine loc_fn (P:=Tryz.prog) (E:=⟨[],[],53,[(3,[],[.p 0,.p 1,.p 2,.p 3,.p 4,.p 5,.p 7,.p 8,.p 9,.p 10,.q 6,.p 11,.p 12,.e 13])],[],[],none⟩) (L:=[In1 P K A s]) mix Tryz.func106 rfl (by kernel_rfl) (by kernel_rfl) rfl rfl ?_
 ((conv=>arg 1;reduce);with_reducible repeat' first | exact ty | refine ta ?_ ?_ | refine ti fun _ => ?_ | refine tf fun _ => ?_ | refine tl ?_)
 all_goals try (
  rename_i j hj d
  change Nat at j
  have hj:j≤P.length:=hj
  have d:(j:Int)<(n:Int):=ng d
  have e3:(j:Int)+(s:Int).tdiv 8=((j+s / 8:Nat):Int):=by rw [e1];omega
  clear hp hP pv
  first
  | exact on_of ho (by omega)
  | exact d
  | (show (0:Int)≤(j:Int);omega)
  | (show (j:Int).toNat+i<l.length;omega)
  | (rw [e1];exact inR64 (n:=((s / 8:Nat):Int)) (by omega) (by omega))
  | (show inR .i64 ((j:Int)+(s:Int).tdiv 8);rw [e3];exact inR64 (n:=((j+s / 8:Nat):Int)) (by omega) (by omega))
  | (show 0≤(j:Int)+(s:Int).tdiv 8;rw [e3];omega)
  | (show (j:Int)+(s:Int).tdiv 8<(K:Int);rw [e3];omega)
  | (rw [bL];show ((j:Int)+(s:Int).tdiv 8).toNat+0<K;rw [e3];omega)
  | (rw [e2];exact inR64 (n:=8 - ((s % 8:Nat):Int)) (by omega) (by omega))
  | (rw [e2];omega))
 all_goals try (
  rename_i j hj d e
  change Nat at j
  have hj:j≤P.length:=hj
  have d:(j:Int)<(n:Int):=ng d
  have e3:(j:Int)+(s:Int).tdiv 8=((j+s / 8:Nat):Int):=by rw [e1];omega
  have e4:(j:Int)+(s:Int).tdiv 8+1=((j+s / 8+1:Nat):Int):=by rw [e3];omega
  obtain ⟨x,hx,x1,_⟩:=byt_at kP (i:=j) (by omega)
  have hlx:l.getD ((j:Int).toNat+i) 0=(x:Int):=by rw [zu,pv j (by omega),hx]
  have hr:(8:Int) - ((s % 8:Nat):Int)=((8 - s % 8:Nat):Int):=by omega
  have hsh:ishr .u8 (x:Int) (8 - (s:Int).tmod 8)=((x / 2 ^ (8 - s % 8):Nat):Int):=by rw [e2,hr];exact shr8 .u8 x _ (show 8 - s % 8≤8 by omega)
  have hsl:ishl .u8 (x:Int) ((s:Int).tmod 8)=((x*2 ^ (s % 8) % 256:Nat):Int):=by rw [e2];exact shl8 x _ (by omega)
  have hst:=inN_step (A:=A) (s:=s) kP (i:=j) (by omega) hx
  have e:(decide ((0:Int)<(s:Int).tmod 8) && decide ((0:Int)<ishr .u8 (l.getD ((j:Int).toNat+i) 0) (8 - (s:Int).tmod 8)))=_:=e
  rw [hlx,hsh] at e
  first
  | (have hx8:x / 2 ^ (8 - s % 8)<256:=wh (si _ _) x1
     have m1:(byT K (inN A (byN P) s j)).set (((j:Int)+(s:Int).tdiv 8).toNat+0) (ibit .xor .u8 ((byT K (inN A (byN P) s j)).getD (((j:Int)+(s:Int).tdiv 8).toNat+0) 0) (ishl .u8 (l.getD ((j:Int).toNat+i) 0) ((s:Int).tmod 8)))=byT K (inN A (byN P) s j ^^^ ((x*2 ^ (s % 8) % 256) <<< (8*(j+s / 8)))):=by
      rw [hlx,hsl,e3,zu,za (j+s / 8)]
      exact byT_xor (by omega) (yv _ (by omega))
     refine Stands.one (j+1:Nat) ⟨by show j+1≤P.length;omega,by show P.length - (j+1)<P.length - j;omega,?_⟩
     ((conv=>arg 1;reduce);with_reducible repeat' first | exact ty | refine ta ?_ ?_ | refine ti fun _ => ?_ | refine tf fun _ => ?_ | refine tl ?_)
     all_goals first
      | exact vlf
      | (show byT K (inN A (byN P) s (j+1))=((byT K (inN A (byN P) s j)).set (((j:Int)+(s:Int).tdiv 8).toNat+0) (ibit .xor .u8 ((byT K (inN A (byN P) s j)).getD (((j:Int)+(s:Int).tdiv 8).toNat+0) 0) (ishl .u8 (l.getD ((j:Int).toNat+i) 0) ((s:Int).tmod 8)))).set (((j:Int)+(s:Int).tdiv 8+1).toNat+0) (ibit .xor .u8 (((byT K (inN A (byN P) s j)).set (((j:Int)+(s:Int).tdiv 8).toNat+0) (ibit .xor .u8 ((byT K (inN A (byN P) s j)).getD (((j:Int)+(s:Int).tdiv 8).toNat+0) 0) (ishl .u8 (l.getD ((j:Int).toNat+i) 0) ((s:Int).tmod 8)))).getD (((j:Int)+(s:Int).tdiv 8+1).toNat+0) 0) (ishr .u8 (l.getD ((j:Int).toNat+i) 0) (8 - (s:Int).tmod 8)))
         rw [m1,hlx,hsh,e4,zu,za (j+s / 8+1),byT_xor (by omega) hx8,hst])
      | (have z:x / 2 ^ (8 - s % 8)=0:=by
          by_cases h0:s % 8=0
          · rw [h0];exact Nat.div_eq_of_lt x1
          · rw [e2] at e
            simp only [qu,decide_eq_false_iff_not] at e
            generalize x / 2 ^ (8 - s % 8)=z at e ⊢
            omega
         show byT K (inN A (byN P) s (j+1))=(byT K (inN A (byN P) s j)).set (((j:Int)+(s:Int).tdiv 8).toNat+0) (ibit .xor .u8 ((byT K (inN A (byN P) s j)).getD (((j:Int)+(s:Int).tdiv 8).toNat+0) 0) (ishl .u8 (l.getD ((j:Int).toNat+i) 0) ((s:Int).tmod 8)))
         rw [m1,hst,z,nu,sy]))
  | exact inR64 (n:=(j:Int)+1) (by omega) (by omega)
  | (show inR .i64 ((j:Int)+(s:Int).tdiv 8);rw [e3];exact inR64 (n:=((j+s / 8:Nat):Int)) (by omega) (by omega))
  | (rw [e1];exact inR64 (n:=((s / 8:Nat):Int)) (by omega) (by omega))
  | (show inR .i64 ((j:Int)+(s:Int).tdiv 8+1);rw [e4];exact inR64 (n:=((j+s / 8+1:Nat):Int)) (by omega) (by omega))
  | (show 0≤(j:Int)+(s:Int).tdiv 8+1;rw [e4];omega)
  | (show (j:Int)+(s:Int).tdiv 8+1<(K:Int);rw [e4];omega)
  | (rw [zh,bL];show ((j:Int)+(s:Int).tdiv 8+1).toNat+0<K;rw [e4];omega))
 all_goals try exact vlf
 · refine Stands.one (0:Nat) ⟨zg _,?_⟩
   ((conv=>arg 1;reduce);with_reducible repeat' first | exact ty | refine ta ?_ ?_ | refine ti fun _ => ?_ | refine tf fun _ => ?_ | refine tl ?_)
   all_goals first | exact vlf | (show byT K A=byT K (inN A (byN P) s 0);rw [inN_zero]) | (show byT K (inN A (byN P) s 0)=byT K A;rw [inN_zero])
 · rename_i j hj d
   change Nat at j
   have hj:j≤P.length:=hj
   have d:¬ (j:Int)<(n:Int):=nf d
   obtain rfl:j=P.length:=by omega
   refine Ends.one () trivial ?_
   ((conv=>arg 1;reduce);with_reducible repeat' first | exact ty | refine ta ?_ ?_ | refine ti fun _ => ?_ | refine tf fun _ => ?_ | refine tl ?_)
   all_goals first | exact vlf | (show byT K (inN A (byN P) s P.length)=_;rw [inN_all hbl]) | (show _=byT K (inN A (byN P) s P.length);rw [inN_all hbl])
def fcInto:Fc Tryz.prog C0 where
 tg:=.fn 106
 X:=Sb×Nat×Nat×List Int×Nat×Int
 args:=fun ((o,b,q,l,i,n,c),b1,q1,l1,K,s)=>[.sl 0 i n c,.sl 1 0 K K,.int .i64 s]
 mem:=fun ((o,b,q,l,i,n,c),b1,q1,l1,K,s)=>[⟨b,q,1,false,some o,.rows 5 l⟩,⟨b1,q1,1,true,none,.rows 5 l1⟩]
 pre:=fun (z,b1,q1,l1,K,s)=>Sb.pre z∧l1=byT K (byN l1)∧0≤s∧z.2.2.2.2.2.1+s.toNat / 8+1≤K∧K<100000000
 alts:=fun ((o,b,q,l,i,n,c),b1,q1,l1,K,s)=>[⟨Unit,fun _=>True,fun _=>.tup [],fun _=>[⟨b,q,1,false,some o,.rows 5 l⟩,⟨b1,q1,1,true,none,.rows 5 (byT K (byN l1 ^^^ (byN ((l.drop i).take n) <<< s.toNat)))⟩]⟩]
 mat vs m:=match vs with
  | [.sl a i n c,.sl t _ K _,.int _ s]=>match nth m a,nth m t with
    | ⟨b,q,_,_,g,.rows 5 l⟩,⟨b1,q1,_,_,_,.rows 5 l1⟩=>some (((onOf g,b,q,l,i,n,c),b1,q1,l1,K,s),[a,t])
    | _,_=>none
  | _=>none
 ok:=fun ((o,b,q,l,i,n,c),b1,q1,l1,K,s) h=>by
  obtain ⟨h1,h2,h3,h4,h5⟩:=h
  obtain ⟨s,rfl⟩:=yh h3
  have:=into_ok o b q l i n c h1 _ rfl b1 q1 (byN l1) K s h4 h5
  rw [← h2] at this
  exact this
end
end Go.Vx
namespace Go.Proofs
open Go.Shelf
def Tryz.sortInts_ren:Go.Shelf.Ren:=⟨fun | 5=>122 | 7=>131 | 8=>132 | 10=>133 | 11=>134 | 12=>135 | 13=>136 | 14=>137 | 15=>138 | 16=>139 | 17=>140 | 18=>141 | 19=>142 | 20=>143 | 30=>144 | 31=>145 | 32=>146 | 33=>147 | 34=>148 | 35=>149 | 40=>150 | n=>n,fun | 0=>0 | 3=>3 | 4=>4 | 5=>5 | 9=>9 | 22=>33 | 23=>33 | 25=>3 | 32=>32 | 35=>172 | 36=>173 | 41=>177 | 44=>180 | 46=>182 | 53=>183 | 57=>187 | 63=>190 | 64=>191 | n=>n,fun | n=>n⟩
theorem Tryz.sortInts:Go.Proofs.SlLaysM.n5 Tryz.prog Tryz.sortInts_ren:={
 mixed:=by kernel_rfl
 f5:=⟨Tryz.f122.name,by decide,Tryz.func122.trans (congrArg some (by kernel_rfl))⟩
 f7:=⟨Tryz.f131.name,by decide,Tryz.func131.trans (congrArg some (by kernel_rfl))⟩
 f8:=Tryz.func132.trans (congrArg some (by kernel_rfl))
 f10:=⟨Tryz.f133.name,by decide,Tryz.func133.trans (congrArg some (by kernel_rfl))⟩
 f11:=⟨Tryz.f134.name,by decide,Tryz.func134.trans (congrArg some (by kernel_rfl))⟩
 f12:=⟨Tryz.f135.name,by decide,Tryz.func135.trans (congrArg some (by kernel_rfl))⟩
 f13:=⟨Tryz.f136.name,by decide,Tryz.func136.trans (congrArg some (by kernel_rfl))⟩
 f14:=⟨Tryz.f137.name,by decide,Tryz.func137.trans (congrArg some (by kernel_rfl))⟩
 f15:=⟨Tryz.f138.name,by decide,Tryz.func138.trans (congrArg some (by kernel_rfl))⟩
 f16:=⟨Tryz.f139.name,by decide,Tryz.func139.trans (congrArg some (by kernel_rfl))⟩
 f17:=⟨Tryz.f140.name,by decide,Tryz.func140.trans (congrArg some (by kernel_rfl))⟩
 f18:=⟨Tryz.f141.name,by decide,Tryz.func141.trans (congrArg some (by kernel_rfl))⟩
 f19:=Tryz.func142.trans (congrArg some (by kernel_rfl))
 f20:=Tryz.func143.trans (congrArg some (by kernel_rfl))
 f30:=⟨Tryz.f144.name,by decide,Tryz.func144.trans (congrArg some (by kernel_rfl))⟩
 f31:=Tryz.func145.trans (congrArg some (by kernel_rfl))
 f32:=Tryz.func146.trans (congrArg some (by kernel_rfl))
 f33:=⟨Tryz.f147.name,by decide,Tryz.func147.trans (congrArg some (by kernel_rfl))⟩
 f34:=⟨Tryz.f148.name,by decide,Tryz.func148.trans (congrArg some (by kernel_rfl))⟩
 f35:=⟨Tryz.f149.name,by decide,Tryz.func149.trans (congrArg some (by kernel_rfl))⟩
 f40:=⟨Tryz.f150.name,by decide,Tryz.func150.trans (congrArg some (by kernel_rfl))⟩
 t0:=Tryz.underlying0
 a0:=Tryz.isAgg0
 z0:=Tryz.sizeOf0
 v0:=Tryz.zeroValue0
 t3:=Tryz.underlying3
 a3:=Tryz.isAgg3
 z3:=Tryz.sizeOf3
 v3:=Tryz.zeroValue3
 t4:=Tryz.underlying4
 a4:=Tryz.isAgg4
 z4:=Tryz.sizeOf4
 v4:=Tryz.zeroValue4
 t5:=Tryz.underlying5
 a5:=Tryz.isAgg5
 z5:=Tryz.sizeOf5
 v5:=Tryz.zeroValue5
 t9:=Tryz.underlying9
 a9:=Tryz.isAgg9
 z9:=Tryz.sizeOf9
 v9:=Tryz.zeroValue9
 t22:=Tryz.underlying33
 a22:=Tryz.isAgg33
 z22:=Tryz.sizeOf33
 v22:=Tryz.zeroValue33
 t23:=Tryz.underlying33
 a23:=Tryz.isAgg33
 z23:=Tryz.sizeOf33
 v23:=Tryz.zeroValue33
 t25:=Tryz.underlying3
 a25:=Tryz.isAgg3
 z25:=Tryz.sizeOf3
 v25:=Tryz.zeroValue3
 t32:=Tryz.underlying32
 a32:=Tryz.isAgg32
 z32:=Tryz.sizeOf32
 v32:=Tryz.zeroValue32
 t35:=Tryz.underlying172
 a35:=Tryz.isAgg172
 z35:=Tryz.sizeOf172
 v35:=Tryz.zeroValue172
 t36:=Tryz.underlying173
 a36:=Tryz.isAgg173
 z36:=Tryz.sizeOf173
 v36:=Tryz.zeroValue173
 t41:=Tryz.underlying177
 a41:=Tryz.isAgg177
 z41:=Tryz.sizeOf177
 v41:=Tryz.zeroValue177
 t44:=Tryz.underlying180
 a44:=Tryz.isAgg180
 z44:=Tryz.sizeOf180
 v44:=Tryz.zeroValue180
 t46:=Tryz.underlying182
 a46:=Tryz.isAgg182
 z46:=Tryz.sizeOf182
 v46:=Tryz.zeroValue182
 t53:=Tryz.underlying183
 a53:=Tryz.isAgg183
 z53:=Tryz.sizeOf183
 v53:=Tryz.zeroValue183
 t57:=Tryz.underlying187
 a57:=Tryz.isAgg187
 z57:=Tryz.sizeOf187
 v57:=Tryz.zeroValue187
 t63:=Tryz.underlying190
 a63:=Tryz.isAgg190
 z63:=Tryz.sizeOf190
 v63:=Tryz.zeroValue190
 t64:=Tryz.underlying191
 a64:=Tryz.isAgg191
 z64:=Tryz.sizeOf191
 v64:=Tryz.zeroValue191
}
end Go.Proofs
namespace Go.Vx
open Go Go.Proofs Go.Shelf Go.Sort
variable [Gl]
theorem take_snoc {α:Type} {A:List α} {i:Nat} {d:α} (h:i<A.length):A.take (i+1)=A.take i ++ [A.getD i d]:=by
 rw [List.take_add_one]
 simp [xg,h]
theorem tk_len {α:Type} {l:List α} {n:Nat} (h:n≤l.length):(l.take n).length=n:=by
 rw [ze];omega
theorem tk_get {α:Type} {l:List α} {n i:Nat} {d:α} (h:i<n):(l.take n).getD i d=l.getD i d:=by
 simp only [zy,List.getElem?_take,if_pos h]
theorem getD_mem {α:Type} {l:List α} {i:Nat} {d:α} (h:i<l.length):l.getD i d∈l:=by
 rw [zy,zt h];exact xe h
@[irreducible] def ixF {α:Type} (f:α→Bool) (A:List α):Int:=if A.any f then (A.findIdx f:Nat) else -1
@[irreducible] def anyF {α:Type} (f:α→Bool) (A:List α):Bool:=A.any f
theorem anyF_iff {α:Type} {f:α→Bool} {A:List α}:anyF f A=true↔∃ x∈A,f x=true:=by unfold anyF;exact List.any_eq_true
theorem anyF_snoc {α:Type} {f:α→Bool} {A:List α} {i:Nat} {d:α} (h:i<A.length):anyF f (A.take (i+1))=(anyF f (A.take i) || f (A.getD i d)):=by
 unfold anyF
 rw [take_snoc (d:=d) h,List.any_append]
 simp
theorem anyF_zero {α:Type} {f:α→Bool} {A:List α}:anyF f (A.take 0)=false:=by unfold anyF;rfl
theorem ixF_no {α:Type} {f:α→Bool} {A:List α} (h:anyF f A=false):ixF f A = -1:=by
 unfold anyF at h
 unfold ixF
 rw [h];rfl
theorem ixF_at {α:Type} {f:α→Bool} {A:List α} {i:Nat} {d:α} (hi:i<A.length) (h:anyF f (A.take i)=false) (h2:f (A.getD i d)=true):ixF f A=(i:Nat):=by
 have e:A.getD i d=A[i]:=by rw [zy,zt hi,ym]
 rw [e] at h2
 unfold anyF at h
 rw [List.any_eq_false] at h
 unfold ixF
 rw [if_pos (List.any_eq_true.2 ⟨_,xe hi,h2⟩)]
 congr 1
 rw [List.findIdx_eq hi]
 refine ⟨h2,fun j hj => ?_⟩
 have:=h A[j] (by rw [List.mem_take_iff_getElem];exact ⟨j,by omega,rfl⟩)
 simpa using this
theorem ixF_ge {α:Type} {f:α→Bool} {A:List α}:decide (ixF f A ≥ 0)=anyF f A:=by
 unfold ixF anyF
 cases h:A.any f
 · simp
 · simp
def Ix {α:Type} (f:α→Bool) (A:List α):Inv' C0:=⟨2,Nat,fun i=>[(8,.int .i64 (i:Int))],fun _ m=>m,fun i=>i≤A.length∧anyF f (A.take i)=false,fun i=>A.length - i⟩
def eqI (x:Int) (y:Int):Bool:=decide (x=y)
theorem index_ok (o:Bool) (b q:Nat) (l:List Int) (n c:Nat) (x:Int) (h:n≤l.length) (hn:n<4611686018427387904) (ho:o=false→n=0∧c=0):
 Tells (C:=C0) Tryz.prog (.fn 123) [⟨b,q,1,false,some o,.rows 3 l⟩] [.sl 0 0 n c,.int .i64 x] (.int .i64 (ixF (eqI x) (l.take n))):=by
 have hL:=tk_len h
 refine loc_pc (P:=Tryz.prog) (E:=⟨[],[],19,[],[],[],none⟩) (L:=[Ix (eqI x) (l.take n)]) mix Tryz.func123 rfl (by kernel_rfl) (by kernel_rfl) rfl rfl ?_
 ((conv=>arg 1;reduce);with_reducible repeat' first | exact ty | refine ta ?_ ?_ | refine ti fun _ => ?_ | refine tf fun _ => ?_ | refine tl ?_)
 all_goals try (first | exact vlf | ((try dsimp only [Ix] at *);exact vau) | (refine on_of ho ?_;((try dsimp only [Ix] at *);exact vau)))
 · refine Stands.one (0:Nat) ⟨⟨zg _,anyF_zero⟩,?_⟩
   exact vgo
 · rename_i v hv h1 h2
   change Nat at v
   obtain ⟨e1,e2⟩:=hv
   have h1:v<n:=by have:=ng h1;omega
   refine (ixF_at (d:=0) (by rw [hL];exact h1) e2 ?_).symm
   rw [tk_get h1]
   exact h2
 · rename_i v hv h1 h2
   change Nat at v
   obtain ⟨e1,e2⟩:=hv
   have h1:v<n:=by have:=ng h1;omega
   refine Stands.one (v+1:Nat) ⟨⟨by rw [hL];exact h1,?_⟩,?_,?_⟩
   · show anyF _ ((l.take n).take (v+1))=false
     rw [anyF_snoc (d:=0) (by rw [hL];exact h1),e2,tk_get h1]
     exact h2
   · show (l.take n).length - (v+1)<(l.take n).length - v
     rw [hL];omega
   exact vgo
 · rename_i v hv h1
   change Nat at v
   obtain ⟨e1,e2⟩:=hv
   have h1:¬ v<n:=by have:=nf h1;omega
   rw [zc (by rw [hL];omega)] at e2
   exact (ixF_no e2).symm
def pcIndex:Pc Tryz.prog C0 where
 tg:=.fn 123
 X:=Bool×Nat×Nat×List Int×Nat×Nat×Int
 args:=fun (o,b,q,l,n,c,x)=>[.sl 0 0 n c,.int .i64 x]
 mem:=fun (o,b,q,l,n,c,x)=>[⟨b,q,1,false,some o,.rows 3 l⟩]
 pre:=fun (o,b,q,l,n,c,x)=>n≤l.length∧n<4611686018427387904∧(o=false→n=0∧c=0)
 res:=fun (o,b,q,l,n,c,x)=>.int .i64 (ixF (eqI x) (l.take n))
 mat vs m:=match vs with
  | [.sl a 0 n c,.int _ x]=>match nth m a with
    | ⟨b,q,_,_,g,.rows 3 l⟩=>some ((onOf g,b,q,l,n,c,x),[a])
    | _=>none
  | [.nils,.int _ x]=>some ((false,0,0,[],0,0,x),[m.length])
  | _=>none
 ok:=fun (o,b,q,l,n,c,x) h=>index_ok o b q l n c x h.1 h.2.1 h.2.2
theorem contains_ok (o:Bool) (b q:Nat) (l:List Int) (n c:Nat) (x:Int) (h:n≤l.length) (hn:n<4611686018427387904) (ho:o=false→n=0∧c=0):
 Tells (C:=C0) Tryz.prog (.fn 99) [⟨b,q,1,false,some o,.rows 3 l⟩] [.sl 0 0 n c,.int .i64 x] (.bool (.tm (anyF (eqI x) (l.take n)))):=by
 refine loc_pc (P:=Tryz.prog) (E:=⟨[],[pcIndex],9,[],[],[],none⟩) (L:=[]) mix Tryz.func99 rfl (by kernel_rfl) (by kernel_rfl) rfl rfl ?_
 ((conv=>arg 1;reduce);with_reducible repeat' first | exact ty | refine ta ?_ ?_ | refine ti fun _ => ?_ | refine tf fun _ => ?_ | refine tl ?_)
 all_goals try exact vlf
 · exact ⟨h,hn,ho⟩
 · exact ixF_ge
def pcContains:Pc Tryz.prog C0 where
 tg:=.fn 99
 X:=Bool×Nat×Nat×List Int×Nat×Nat×Int
 args:=fun (o,b,q,l,n,c,x)=>[.sl 0 0 n c,.int .i64 x]
 mem:=fun (o,b,q,l,n,c,x)=>[⟨b,q,1,false,some o,.rows 3 l⟩]
 pre:=fun (o,b,q,l,n,c,x)=>n≤l.length∧n<4611686018427387904∧(o=false→n=0∧c=0)
 res:=fun (o,b,q,l,n,c,x)=>.bool (.tm (anyF (eqI x) (l.take n)))
 mat vs m:=match vs with
  | [.sl a 0 n c,.int _ x]=>match nth m a with
    | ⟨b,q,_,_,g,.rows 3 l⟩=>some ((onOf g,b,q,l,n,c,x),[a])
    | _=>none
  | [.nils,.int _ x]=>some ((false,0,0,[],0,0,x),[m.length])
  | _=>none
 ok:=fun (o,b,q,l,n,c,x) h=>contains_ok o b q l n c x h.1 h.2.1 h.2.2
@[irreducible] def srt (l:List Int):List Int:=l.mergeSort fun x y=>decide (x≤y)
theorem srt_perm (l:List Int):(srt l).Perm l:=by unfold srt;exact List.mergeSort_perm _ _
theorem srt_len (l:List Int):(srt l).length=l.length:=(srt_perm l).length_eq
theorem srt_nil:srt []=[]:=by unfold srt;simp
theorem srt_le (l:List Int):(srt l).Pairwise (· ≤ ·):=by
 unfold srt
 have:=List.pairwise_mergeSort (le:=fun x y:Int=>decide (x≤y)) (fun a b c h1 h2=>by simp at *;omega) (fun a b=>by simp;omega) l
 exact this.imp fun h=>by simpa using h
theorem sortOn_ok (b q:Nat) (l:List Int) (n c:Nat) (hn:n≤l.length) (hbig:n<4611686018427387904):
 Does (C:=C0) Tryz.prog (.fn 122) [⟨b,q,1,true,some true,.rows 3 l⟩] [.sl 0 0 n c]
  [⟨Unit,fun _=>True,fun _=>.tup [],fun _=>[⟨b,q,1,true,some true,.rows 3 (srt (l.take n) ++ l.drop n)⟩]⟩]:=by
 intro w hm
 have hN:(l.take n).length=n:=tk_len hn
 have hrow:=hm.ok _ (List.mem_singleton.2 rfl) rfl
 simp only [Ck.ok] at hrow
 obtain ⟨_,hrow⟩:=hrow
 have hblk:b<w.heap.size:=hm.lt _ (List.mem_singleton.2 rfl) rfl
 have hfr:∀ a:Addr,a.block=b→w.frozen? a=false:=hm.wrok _ (List.mem_singleton.2 rfl) rfl rfl
 have hcell:∀ i,i<l.length→w.cell? ⟨b,q+i,none⟩=some (.int .i64 (l.getD i 0)):=by
  intro i hi
  have:=hrow i hi 0 Nat.zero_lt_one
  have e:(Ck.ad ({ block:=b,base:=q,sz:=1,wr:=true,gl:=some true,cells:=.rows 3 l }:Ck C0)).at i 0=⟨b,q+i,none⟩:=by simp [Ck.ad,Ad.at]
  rw [e] at this
  rw [this];rfl
 have hH:Go.Sort.Holds (Value.int .i64) w b q (l.take n).toArray:=by
  intro j hj
  have hj:j<n:=by rw [List.size_toArray,hN] at hj;exact hj
  refine ⟨?_,hfr _ rfl⟩
  rw [hcell j (by omega),getElem!_pos _ j (by simpa [hN] using hj)]
  simp [xg,zt (show j<l.length by omega)]
 have hcon:Calls Tryz.prog 122 #[.slice (some ⟨b,q,none⟩) n c] w fun e w'=>e=.returned (.tuple #[])∧∃ k os,w'=grow (putRow (Value.int .i64) (Sort.ahead w k) b q ((l.take n).mergeSort fun x y=>decide (x≤y)).toArray) os:=by
  have h0:=calls_of_every_depth fun D=>AnySM.slices_Sort_int_in (P:=Tryz.prog) Tryz.sortInts D b q c (l.take n) w hH hblk (by rw [hN];exact hbig)
  rw [hN] at h0
  exact h0
 have e0:(SV.vas (ads ([⟨b,q,1,true,some true,.rows 3 l⟩]:List (Ck C0))) [.sl 0 0 n c]).toArray = #[.slice (some ⟨b,q,none⟩) n c]:=by
  simp [SV.vas,SV.va,ads,nth,Ck.ad,Ck.on,Ad.at]
 rw [e0]
 refine ⟨_,_,run_callFunc Tryz.func122 rfl (by kernel_rfl) _ w,hcon.mono ?_⟩
 rintro e w' ⟨rfl,k,os,rfl⟩
 have hs:((l.take n).mergeSort fun x y=>decide (x≤y))=srt (l.take n):=by unfold srt;rfl
 rw [hs]
 have hL:(srt (l.take n)).length=n:=by rw [srt_len,hN]
 have hsz0:(putRow (Value.int .i64) (Sort.ahead w k) b q (srt (l.take n)).toArray).heap.size=w.heap.size:=by rw [Go.Sort.size_putRow];rfl
 have hHa:Go.Sort.Holds (Value.int .i64) (Sort.ahead w k) b q (l.take n).toArray:=hH
 have hin:∀ j,j<n→(grow (putRow (Value.int .i64) (Sort.ahead w k) b q (srt (l.take n)).toArray) os).cell? ⟨b,q+j,none⟩=some (.int .i64 ((srt (l.take n)).getD j 0)):=by
  intro j hj
  rw [cell?_grow _ _ _ (by rw [hsz0];exact hblk)]
  have h2:=holds_putRow (Value.int .i64) (Sort.ahead w k) b q (l.take n).toArray (srt (l.take n)).toArray hHa (by simp [hL,hN])
  rw [(h2 j (by simp [hL];exact hj)).1,getElem!_pos _ j (by simp [hL];exact hj)]
  simp [xg,zt (show j<(srt (l.take n)).length by omega)]
 have hother:∀ a:Addr,a.block<w.heap.size→(a.block≠b∨a.off<q∨q+n≤a.off)→(grow (putRow (Value.int .i64) (Sort.ahead w k) b q (srt (l.take n)).toArray) os).cell? a=w.cell? a:=by
  intro a ha hoff
  rw [cell?_grow _ _ _ (by rw [hsz0];exact ha),cell?_putRow_other _ _ _ _ _ _ (by simpa [hL] using hoff)]
  rfl
 have hheap:∀ j,j<w.heap.size→j≠b→(grow (putRow (Value.int .i64) (Sort.ahead w k) b q (srt (l.take n)).toArray) os).heap[j]? = w.heap[j]? := by
  intro j hj hjb
  rw [heap_grow_old _ _ (by rw [hsz0];exact hj)]
  unfold putRow mapBlock
  simp only [Array.getElem?_modify]
  rw [if_neg (Ne.symm hjb)]
  rfl
 have hsize:w.heap.size≤(grow (putRow (Value.int .i64) (Sort.ahead w k) b q (srt (l.take n)).toArray) os).heap.size:=by rw [size_grow,hsz0];omega
 refine ⟨.tup [],[⟨b,q,1,true,some true,.rows 3 (srt (l.take n) ++ l.drop n)⟩],by simp [SV.va,SV.vas],?_,?_,?_⟩
 · refine ⟨rfl,⟨rfl,Nat.le_add_right _ _⟩,rfl,hsize,?_,?_,?_,?_,?_,?_,?_⟩
   · intro j hj hS
     refine hheap j hj fun hjb=>hS ⟨_,List.mem_singleton.2 rfl,rfl,rfl,hjb.symm⟩
   · intro c' hc' _ _ _
     exact ⟨_,List.mem_singleton.2 rfl,rfl,rfl,by rw [List.mem_singleton.1 hc']⟩
   · intro c' hc' _
     rw [List.mem_singleton.1 hc']
     refine ⟨rfl,fun i hi f hf => ?_⟩
     have hf0:f=0:=by
      have:f<1:=hf
      omega
     subst hf0
     have hlen:(srt (l.take n) ++ l.drop n).length=l.length:=by rw [zx,hL,wk];omega
     have e:(Ck.ad ({ block:=b,base:=q,sz:=1,wr:=true,gl:=some true,cells:=.rows 3 (srt (l.take n) ++ l.drop n) }:Ck C0)).at i 0=⟨b,q+i,none⟩:=by simp [Ck.ad,Ad.at]
     rw [e]
     show _=some (Value.int .i64 ((srt (l.take n) ++ l.drop n).getD i 0))
     by_cases hi':i<n
     · rw [hin i hi']
       congr 2
       rw [zy,zy,List.getElem?_append_left (by omega)]
     · rw [hother _ hblk (.inr (.inr (by show q+n≤q+i;omega))),hcell i (by omega)]
       congr 2
       rw [zy,zy,List.getElem?_append_right (by omega),hL,List.getElem?_drop,show n+(i - n)=i by omega]
   · intro c' hc' _ _ a ha
     rw [List.mem_singleton.1 hc'] at ha
     rw [frozen?_grow _ _ _ (by rw [hsz0,ha];exact hblk),frozen?_putRow]
     exact hfr a ha
   · intro i j hi hj hij
     simp at hi hj;omega
   · intro c' hc' _
     rw [List.mem_singleton.1 hc']
     exact zk hblk hsize
   · refine hm.more.mono hm.inS ?_ ?_ (zw _) hsize ?_
     · intro j hj hno
       exact hheap j hj fun hjb=>hno _ (List.mem_singleton.2 rfl) rfl rfl hjb.symm
     · intro c' hc' hl'
       rw [List.mem_singleton.1 hc']
       exact .inl ⟨_,List.mem_singleton.2 rfl,rfl,rfl,id⟩
     · intro c' hc'
       rw [List.mem_singleton.1 hc']
       exact CsIn.rows (RowsOf.flat rfl _)
 · refine ⟨zw _,?_,?_⟩
   · intro k hk
     have:k=0:=by simp at hk;omega
     subst this
     exact ⟨rfl,rfl,rfl,rfl,rfl⟩
   · intro k h0 h2
     simp at h0 h2;omega
 · exact Ends.one () trivial ⟨rfl,rfl⟩
theorem sortOff_ok (b q:Nat) (l:List Int):Does (C:=C0) Tryz.prog (.fn 122) [⟨b,q,1,true,some false,.rows 3 l⟩] [.sl 0 0 0 0]
 [⟨Unit,fun _=>True,fun _=>.tup [],fun _=>[⟨b,q,1,true,some false,.rows 3 l⟩]⟩]:=by
 intro w hm
 have hcon:Calls Tryz.prog 122 #[.slice none 0 0] w fun e w'=>e=.returned (.tuple #[])∧w'=w:=calls_of_every_depth fun D=>AnySM.slices_Sort_int_none_in (P:=Tryz.prog) Tryz.sortInts D none 0 w
 have e0:(SV.vas (ads ([⟨b,q,1,true,some false,.rows 3 l⟩]:List (Ck C0))) [.sl 0 0 0 0]).toArray = #[.slice none 0 0]:=by
  simp [SV.vas,SV.va,ads,nth,Ck.ad,Ck.on,Ad.at]
 rw [e0]
 refine ⟨_,_,run_callFunc Tryz.func122 rfl (by kernel_rfl) _ w,hcon.mono ?_⟩
 rintro e w' ⟨rfl,rfl⟩
 refine ⟨.tup [],_,by simp [SV.va,SV.vas],hm,⟨zw _,fun k hk => ?_,fun k h0 h2 => ?_⟩,Ends.one () trivial ⟨rfl,rfl⟩⟩
 · exact ⟨rfl,rfl,rfl,rfl,rfl⟩
 · simp at h0 h2;omega
theorem sort_ok (o:Bool) (b q:Nat) (l:List Int) (n c:Nat) (hn:n≤l.length) (hbig:n<4611686018427387904) (ho:o=false→n=0∧c=0):
 Does (C:=C0) Tryz.prog (.fn 122) [⟨b,q,1,true,some o,.rows 3 l⟩] [.sl 0 0 n c]
  [⟨Unit,fun _=>True,fun _=>.tup [],fun _=>[⟨b,q,1,true,some o,.rows 3 (srt (l.take n) ++ l.drop n)⟩]⟩]:=by
 cases o with
 | true=>exact sortOn_ok b q l n c hn hbig
 | false=>
   obtain ⟨rfl,rfl⟩:=ho rfl
   have e:srt (l.take 0) ++ l.drop 0=l:=by rw [List.take_zero,srt_nil];simp
   rw [e]
   exact sortOff_ok b q l
noncomputable def fcSort:Fc Tryz.prog C0 where
 tg:=.fn 122
 X:=Bool×Nat×Nat×List Int×Nat×Nat
 args:=fun (o,b,q,l,n,c)=>[.sl 0 0 n c]
 mem:=fun (o,b,q,l,n,c)=>[⟨b,q,1,true,some o,.rows 3 l⟩]
 pre:=fun (o,b,q,l,n,c)=>n≤l.length∧n<4611686018427387904∧(o=false→n=0∧c=0)
 alts:=fun (o,b,q,l,n,c)=>[⟨Unit,fun _=>True,fun _=>.tup [],fun _=>[⟨b,q,1,true,some o,.rows 3 (srt (l.take n) ++ l.drop n)⟩]⟩]
 mat vs m:=match vs with
  | [.sl a 0 n c]=>match nth m a with
    | ⟨b,q,_,_,g,.rows 3 l⟩=>some ((onOf g,b,q,l,n,c),[a])
    | _=>none
  | _=>none
 ok:=fun (o,b,q,l,n,c) h=>sort_ok o b q l n c h.1 h.2.1 h.2.2
end Go.Vx
namespace Go.Vx
open Go Go.Proofs
noncomputable section
variable [Gl]
theorem sb1 {N:Nat} {y:Os} (h:Ow (nb N) y) (hn:(nb N).length<100000000):Sb.pre (y.1,y.2.1,0,y.2.2.1,0,(nb N).length,y.2.2.2):=
 ⟨by have:=h.cap;have:=h.len;show 0+_≤_;omega,h.cap,hn,h.nil,by show Byt8 ((y.2.2.1.drop 0).take _);rw [zm,h.eq];exact nb_byt _⟩
theorem Oqw.at {L:List Int} {y:Oq} (h:Oqw L y) {i:Nat} (hi:i<L.length):y.2.2.2.1.getD i 0=L.getD i 0:=by
 have e:=h.eq
 have:(y.2.2.2.1.take L.length).getD i 0=L.getD i 0:=by rw [e]
 rw [← this]
 simp only [zy,yn hi]
def Pm8 (A B K:Nat):Inv' C0:=⟨8,Nat,fun j=>[(38,.int .i64 (j:Int))],fun j m=>match m with
 | [a,b,c,d,t,e]=>[a,b,c,d,⟨t.block,t.base,1,true,none,.rows 5 (byT K (clF B ((exL A).take j)))⟩,e]
 | m=>m,fun j=>j≤(exL A).length,fun j=>(exL A).length - j⟩
set_option maxHeartbeats 4000000 in
theorem pmul_ok (o:Bool) (b q:Nat) (l:List Int) (i n c:Nat) (o2:Bool) (b2 q2:Nat) (l2:List Int) (i2 n2 c2:Nat) (hp:Sb.pre (o,b,q,l,i,n,c)) (hq:Sb.pre (o2,b2,q2,l2,i2,n2,c2))
 (A B:Nat) (hA:byN ((l.drop i).take n)=A) (hB:byN ((l2.drop i2).take n2)=B) (a0:A≠0) (b0:B≠0) (hd:bl A+bl B≤4098):
 Does (C:=C0) Tryz.prog (.fn 80) [⟨b,q,1,false,some o,.rows 5 l⟩,⟨b2,q2,1,false,some o2,.rows 5 l2⟩] [.sl 0 i n c,.sl 1 i2 n2 c2]
  [⟨Os,fun y=>Ow (nb (clm A B)) y,fun y=>.tup [.sl 2 0 (nb (clm A B)).length y.2.2.2,.nili],fun y=>[⟨b,q,1,false,some o,.rows 5 l⟩,⟨b2,q2,1,false,some o2,.rows 5 l2⟩,osB true y]⟩]:=by
 have pA:=bl_pos a0
 have pB:=bl_pos b0
 have nA:nl A=(bl A+7) / 8:=rfl
 have hby:(Tryz.prog.types[5].bytes:Int)=1:=by kernel_rfl
 have nB:nl B=(bl B+7) / 8:=rfl
 refine loc_fn (P:=Tryz.prog) (E:=⟨[fcTrm,fcExps,fcInto],[pcDeg],49,[],[],[],none⟩) (L:=[Pm8 A B (nl A+nl B+1)]) mix Tryz.func80 rfl (by kernel_rfl) (by kernel_rfl) rfl rfl ?_
 ((conv=>arg 1;reduce);with_reducible repeat' first | exact ty | refine ta ?_ ?_ | refine ti fun _ => ?_ | refine tf fun _ => ?_ | refine tl ?_)
 all_goals try exact vlf
 · exact hp
 · exact hq
 · exfalso
   rename_i y1 hy1 y2 hy2 d0
   simp only [hA,hB,nb_len,yd,decide_eq_true_eq,SB.val] at d0
   omega
 all_goals try (
  rename_i y1 hy1 y2 hy2 d0
  have hy1:Ow (nb A) y1:=hA ▸ hy1
  have hy2:Ow (nb B) y2:=hB ▸ hy2
  have t1:((y1.2.2.1.drop 0).take (nb A).length)=nb A:=hy1.eq
  have t2:((y2.2.2.1.drop 0).take (nb B).length)=nb B:=hy2.eq
  have p1:Sb.pre (y1.1,y1.2.1,0,y1.2.2.1,0,(nb A).length,y1.2.2.2):=sb1 hy1 (by rw [nb_len];omega)
  have p2:Sb.pre (y2.1,y2.2.1,0,y2.2.2.1,0,(nb B).length,y2.2.2.2):=sb1 hy2 (by rw [nb_len];omega)
  have ek:((nb A).length:Int)+((nb B).length:Int)+1=((nl A+nl B+1:Nat):Int):=by rw [nb_len,nb_len];omega
  clear d0
  first
  | (simp only [hA];exact p1)
  | (simp only [hB];exact p2)
  | (simp only [hA,hB,t1,t2,byN_nb];exact inR64 (n:=(bl A:Int) - 1) (by omega) (by omega))
  | (simp only [hA,hB,t1,t2,byN_nb];exact inR64 (n:=(bl A:Int) - 1+((bl B:Int) - 1)) (by omega) (by omega)))
 · exfalso
   rename_i y1 hy1 y2 hy2 d0 d1
   have hy1:Ow (nb A) y1:=hA ▸ hy1
   have hy2:Ow (nb B) y2:=hB ▸ hy2
   have t1:((y1.2.2.1.drop 0).take (nb A).length)=nb A:=hy1.eq
   have t2:((y2.2.2.1.drop 0).take (nb B).length)=nb B:=hy2.eq
   simp only [hA,hB,t1,t2,byN_nb,decide_eq_true_eq] at d1
   omega
 all_goals try (
  rename_i y1 hy1 y2 hy2 d0 d1
  have hy1:Ow (nb A) y1:=hA ▸ hy1
  have hy2:Ow (nb B) y2:=hB ▸ hy2
  have t1:((y1.2.2.1.drop 0).take (nb A).length)=nb A:=hy1.eq
  have t2:((y2.2.2.1.drop 0).take (nb B).length)=nb B:=hy2.eq
  have p1:Sb.pre (y1.1,y1.2.1,0,y1.2.2.1,0,(nb A).length,y1.2.2.2):=sb1 hy1 (by rw [nb_len];omega)
  have p2:Sb.pre (y2.1,y2.2.1,0,y2.2.2.1,0,(nb B).length,y2.2.2.2):=sb1 hy2 (by rw [nb_len];omega)
  have ek:((nb A).length:Int)+((nb B).length:Int)+1=((nl A+nl B+1:Nat):Int):=by rw [nb_len,nb_len];omega
  clear d0 d1
  first
  | (simp only [hA,hB,nb_len];exact inR64 (n:=(nl A:Int)+(nl B:Int)) (by omega) (by omega))
  | (simp only [hA,hB,nb_len];exact inR64 (n:=(nl A:Int)+(nl B:Int)+1) (by omega) (by omega))
  | (simp only [hA,hB,nb_len];rw [hby];omega))
 · rename_i y1 hy1 y2 hy2 d0 d1 b
   have hy1:Ow (nb A) y1:=hA ▸ hy1
   simp only [hA]
   exact sb1 hy1 (by rw [nb_len];omega)
 · rename_i y1 hy1 y2 hy2 d0 d1 b yE hyE
   have hy1:Ow (nb A) y1:=hA ▸ hy1
   have hy2:Ow (nb B) y2:=hB ▸ hy2
   have t1:((y1.2.2.1.drop 0).take (nb A).length)=nb A:=hy1.eq
   have t2:((y2.2.2.1.drop 0).take (nb B).length)=nb B:=hy2.eq
   have p1:Sb.pre (y1.1,y1.2.1,0,y1.2.2.1,0,(nb A).length,y1.2.2.2):=sb1 hy1 (by rw [nb_len];omega)
   have p2:Sb.pre (y2.1,y2.2.1,0,y2.2.2.1,0,(nb B).length,y2.2.2.2):=sb1 hy2 (by rw [nb_len];omega)
   have ek:((nb A).length:Int)+((nb B).length:Int)+1=((nl A+nl B+1:Nat):Int):=by rw [nb_len,nb_len];omega
   simp only [hA,t1,byN_nb] at hyE
   have hyE:Oqw (exL A) yE:=hyE
   refine Stands.one (0:Nat) ⟨zg _,?_⟩
   ((conv=>arg 1;reduce);with_reducible repeat' first | exact ty | refine ta ?_ ?_ | refine ti fun _ => ?_ | refine tf fun _ => ?_ | refine tl ?_)
   all_goals first
    | exact vlf
    | (show byT (nl A+nl B+1) (clF B ((exL A).take 0))=zo _ (0:Int);simp only [hA,hB];rw [ek,zu];exact byT_zero _)
    | (simp only [hA,hB,t1,byN_nb])
 all_goals try (
  rename_i y1 hy1 y2 hy2 d0 d1 b yE hyE j hj d2
  have hy1:Ow (nb A) y1:=hA ▸ hy1
  have hy2:Ow (nb B) y2:=hB ▸ hy2
  have t1:((y1.2.2.1.drop 0).take (nb A).length)=nb A:=hy1.eq
  have t2:((y2.2.2.1.drop 0).take (nb B).length)=nb B:=hy2.eq
  have p1:Sb.pre (y1.1,y1.2.1,0,y1.2.2.1,0,(nb A).length,y1.2.2.2):=sb1 hy1 (by rw [nb_len];omega)
  have p2:Sb.pre (y2.1,y2.2.1,0,y2.2.2.1,0,(nb B).length,y2.2.2.2):=sb1 hy2 (by rw [nb_len];omega)
  have ek:((nb A).length:Int)+((nb B).length:Int)+1=((nl A+nl B+1:Nat):Int):=by rw [nb_len,nb_len];omega
  change Nat at j
  have hj:j≤(exL A).length:=hj
  simp only [hA,t1,byN_nb] at d2 hyE
  have hyE:Oqw (exL A) yE:=hyE
  clear d0 d1
  have d2:(j:Int)<((exL A).length:Int):=ng d2
  have lE:=hyE.cap
  have lE2:=hyE.len
  first
  | exact on_of hyE.nil (by omega)
  | (simp only [hA,t1,byN_nb];exact d2)
  | (show (j:Int).toNat+0<yE.2.2.2.1.length;omega)
  | (have eE:yE.2.2.2.1.getD ((j:Int).toNat+0) 0=(exL A).getD j 0:=by
      rw [zu,za j];exact hyE.at (by omega)
     have hx:=exL_lt _ (getD_mem (d:=0) (show j<(exL A).length by omega))
     refine ⟨by simp only [hB];exact p2,?_,?_,?_,?_⟩
     · show byT (nl A+nl B+1) (clF B ((exL A).take j))=byT _ (byN (byT (nl A+nl B+1) (clF B ((exL A).take j))))
       have hlt:clF B ((exL A).take j)<2 ^ (8*(nl A+nl B+1)):=clF_lt _ fun x hx=>by
        have:=exL_lt x (xu hx);omega
       rw [byT_N hlt]
       simp only [hA,hB]
       rw [ek,zu]
     · show 0≤yE.2.2.2.1.getD ((j:Int).toNat+0) 0
       rw [eE];exact hx.1
     · show (nb (byN ((l2.drop i2).take n2))).length+(yE.2.2.2.1.getD ((j:Int).toNat+0) 0).toNat / 8+1≤_
       rw [eE]
       simp only [hA,hB]
       rw [ek,zu,nb_len]
       omega
     · show _<100000000
       simp only [hA,hB]
       rw [ek,zu]
       omega))
 iterate 2 (focus
  rename_i y1 hy1 y2 hy2 d0 d1 b yE hyE j hj d2 yU hyU
  have hy1:Ow (nb A) y1:=hA ▸ hy1
  have hy2:Ow (nb B) y2:=hB ▸ hy2
  have t1:((y1.2.2.1.drop 0).take (nb A).length)=nb A:=hy1.eq
  have t2:((y2.2.2.1.drop 0).take (nb B).length)=nb B:=hy2.eq
  have p1:Sb.pre (y1.1,y1.2.1,0,y1.2.2.1,0,(nb A).length,y1.2.2.2):=sb1 hy1 (by rw [nb_len];omega)
  have p2:Sb.pre (y2.1,y2.2.1,0,y2.2.2.1,0,(nb B).length,y2.2.2.2):=sb1 hy2 (by rw [nb_len];omega)
  have ek:((nb A).length:Int)+((nb B).length:Int)+1=((nl A+nl B+1:Nat):Int):=by rw [nb_len,nb_len];omega
  change Nat at j
  have hj:j≤(exL A).length:=hj
  simp only [hA,t1,byN_nb] at d2 hyE
  have hyE:Oqw (exL A) yE:=hyE
  clear d0 d1
  have d2:(j:Int)<((exL A).length:Int):=ng d2
  have eE:yE.2.2.2.1.getD ((j:Int).toNat+0) 0=(exL A).getD j 0:=by
   rw [zu,za j];exact hyE.at (by omega)
  have lX:=exL_len A
  first
  | exact inR64 (n:=(j:Int)+1) (by omega) (by omega)
  | (refine Stands.one (j+1:Nat) ⟨by show j+1≤(exL A).length;omega,by show (exL A).length - (j+1)<(exL A).length - j;omega,?_⟩
     ((conv=>arg 1;reduce);with_reducible repeat' first | exact ty | refine ta ?_ ?_ | refine ti fun _ => ?_ | refine tf fun _ => ?_ | refine tl ?_)
     all_goals first
      | exact vlf
      | (simp only [hA,hB,t1,t2,byN_nb]
         show byT (nl A+nl B+1) (clF B ((exL A).take (j+1)))=byT (((nb A).length:Int)+((nb B).length:Int)+1).toNat (byN (byT (nl A+nl B+1) (clF B ((exL A).take j))) ^^^ (B <<< (yE.2.2.2.1.getD ((j:Int).toNat+0) 0).toNat))
         rw [eE,take_snoc (d:=0) (show j<(exL A).length by omega),clF_snoc,ek,zu]
         have hlt:clF B ((exL A).take j)<2 ^ (8*(nl A+nl B+1)):=clF_lt _ fun x hx=>by
          have:=exL_lt x (xu hx);omega
         rw [byT_N hlt])))
 · rename_i y1 hy1 y2 hy2 d0 d1 b yE hyE j hj d2
   have hy1:Ow (nb A) y1:=hA ▸ hy1
   have hy2:Ow (nb B) y2:=hB ▸ hy2
   have t1:((y1.2.2.1.drop 0).take (nb A).length)=nb A:=hy1.eq
   have t2:((y2.2.2.1.drop 0).take (nb B).length)=nb B:=hy2.eq
   have p1:Sb.pre (y1.1,y1.2.1,0,y1.2.2.1,0,(nb A).length,y1.2.2.2):=sb1 hy1 (by rw [nb_len];omega)
   have p2:Sb.pre (y2.1,y2.2.1,0,y2.2.2.1,0,(nb B).length,y2.2.2.2):=sb1 hy2 (by rw [nb_len];omega)
   have ek:((nb A).length:Int)+((nb B).length:Int)+1=((nl A+nl B+1:Nat):Int):=by rw [nb_len,nb_len];omega
   change Nat at j
   have hj:j≤(exL A).length:=hj
   simp only [hA,t1,byN_nb] at d2 hyE
   have hyE:Oqw (exL A) yE:=hyE
   simp only [hA,hB]
   refine ⟨by show 0+_≤(byT _ _).length;rw [byT_len,ek];omega,zw _,by show _<100000000;rw [ek];omega,(fun h=>nomatch h),?_⟩
   exact fun x hx=>byT_byt _ _ x (List.mem_of_mem_drop (xu hx))
 · rename_i y1 hy1 y2 hy2 d0 d1 b yE hyE j hj d2 y3 hy3
   have hy1:Ow (nb A) y1:=hA ▸ hy1
   have hy2:Ow (nb B) y2:=hB ▸ hy2
   have t1:((y1.2.2.1.drop 0).take (nb A).length)=nb A:=hy1.eq
   have t2:((y2.2.2.1.drop 0).take (nb B).length)=nb B:=hy2.eq
   have p1:Sb.pre (y1.1,y1.2.1,0,y1.2.2.1,0,(nb A).length,y1.2.2.2):=sb1 hy1 (by rw [nb_len];omega)
   have p2:Sb.pre (y2.1,y2.2.1,0,y2.2.2.1,0,(nb B).length,y2.2.2.2):=sb1 hy2 (by rw [nb_len];omega)
   have ek:((nb A).length:Int)+((nb B).length:Int)+1=((nl A+nl B+1:Nat):Int):=by rw [nb_len,nb_len];omega
   change Nat at j
   have hj:j≤(exL A).length:=hj
   simp only [hA,t1,byN_nb] at d2 hyE
   have hyE:Oqw (exL A) yE:=hyE
   have d2:¬ (j:Int)<((exL A).length:Int):=nf d2
   obtain rfl:j=(exL A).length:=by omega
   have hlt:clF B ((exL A).take (exL A).length)<2 ^ (8*(nl A+nl B+1)):=clF_lt _ fun x hx=>by
    have:=exL_lt x (xu hx);omega
   have e9:byN (((byT (nl A+nl B+1) (clF B ((exL A).take (exL A).length))).drop 0).take (nl A+nl B+1))=clm A B:=by
    rw [zm,zc (by rw [byT_len];exact zw _),byT_N hlt,xb]
    unfold clm;rfl
   simp only [hA,hB] at hy3
   rw [ek,zu] at hy3
   have hy3:Ow (nb (byN (((byT (nl A+nl B+1) (clF B ((exL A).take (exL A).length))).drop 0).take (nl A+nl B+1)))) y3:=hy3
   rw [e9] at hy3
   refine Ends.one y3 hy3 ?_
   ((conv=>arg 1;reduce);with_reducible repeat' first | exact ty | refine ta ?_ ?_ | refine ti fun _ => ?_ | refine tf fun _ => ?_ | refine tl ?_)
   all_goals first
    | exact vlf
    | (simp only [hA,hB];rw [ek,zu,e9])
end
end Go.Vx
namespace Go.Vx
open Go Go.Proofs
noncomputable section
variable [Gl]
@[irreducible] def loL (F:Gf) (P:List Int) (j:Nat):List Int:=vis (els F (P.take j))
section
variable {F:Gf}
theorem loL_len {P:List Int} {j:Nat} (h:j≤P.length):(loL F P j).length=j:=by
 unfold loL;rw [zn,zn,ze];omega
theorem loL_succ {P:List Int} {j:Nat} (h:j<P.length):loL F P (j+1)=loL F P j ++ [loI F (P.getD j 0)]:=by
 unfold loL vis;rw [els_snoc h,vq,loI_eq];rfl
theorem loL_trim {P:List Int} {k:Nat} (h:top (els F P)=k):(loL F P P.length).take k=trL F P:=by
 unfold loL trL trim;rw [xb,h,← List.map_take]
theorem loL_at {P:List Int} {k:Nat} (h:k<P.length):(loL F P P.length).getD k 0=vi (cf (els F P) k):=by
 unfold loL;rw [xb,vis_getD]
theorem top_of {l:List (El F)} {k:Nat} (h1:top l≤k) (h2:k=0∨cf l (k - 1)≠Fd.zr):top l=k:=by
 rcases h2 with h2 | h2
 · omega
 · exact Classical.byContradiction fun hn=>h2 (top_zero l (by omega))
theorem Oqw.pre {L:List Int} {y:Oq} (h:Oqw L y) (k:Nat):Oqw (L.take k) y:=by
 have h1:=h.eq
 have hl:(L.take k).length≤L.length:=by rw [ze];omega
 refine ⟨?_,by have:=h.cap;omega,h.len,fun h0=>⟨by have:=(h.nil h0).1;omega,(h.nil h0).2⟩⟩
 have e:(L.take k).length=min k L.length:=ze
 rw [e]
 calc y.2.2.2.1.take (min k L.length)=(y.2.2.2.1.take L.length).take k:=by rw [ot]
  _=L.take k:=by rw [h1]
end
section
variable (F:Gf)
def Rt3 (P:List Int):Inv' C0:=⟨3,Nat×Oq,fun x=>[(6,.int .i64 (x.1:Int)),(5,.sl 1 0 x.1 x.2.2.2.2.2)],fun x m=>match m with
 | p :: _=>[p,oqC true x.2]
 | m=>m,fun x=>x.1≤P.length∧Oqw (loL F P x.1) x.2,fun x=>P.length - x.1⟩
def Rt6 (P:List Int):Inv' C0:=⟨6,Nat×Oq,fun x=>[(5,.sl 1 0 x.1 x.2.2.2.2.2)],fun x m=>match m with
 | p :: _=>[p,oqC true x.2]
 | m=>m,fun x=>x.1≤P.length∧top (els F P)≤x.1∧Oqw (loL F P P.length) x.2,fun x=>x.1⟩
set_option maxHeartbeats 4000000 in
theorem rtrim_ok (o:Bool) (b q:Nat) (l:List Int) (i n c:Nat) (h:i+n≤l.length) (hn:n<1000000000) (ho:o=false→n=0∧c=0) (P:List Int) (hP:(l.drop i).take n=P):
 Does (C:=C0) Tryz.prog (.fn 70) [⟨b,q,1,false,some o,.rows 3 l⟩] [.int .i64 (F.m:Int),.sl 0 i n c]
  [⟨Oq,fun y=>Oqw (trL F P) y,fun y=>.sl 1 0 (trL F P).length y.2.2.2.2,fun y=>[⟨b,q,1,false,some o,.rows 3 l⟩,oqC true y]⟩]:=by
 have hby:Tryz.prog.types[3].bytes=8:=by kernel_rfl
 have hL:P.length=n:=by rw [← hP];exact row_len h
 have pv:∀ j,j<n→l.getD (j+i) 0=P.getD j 0:=fun j hj=>by rw [row_at j hj,hP]
 refine loc_fn (P:=Tryz.prog) (E:=⟨[],[pcRlow F],40,[],[],[],none⟩) (L:=[Rt3 F P,Rt6 F P]) mix Tryz.func70 rfl (by kernel_rfl) (by kernel_rfl) rfl rfl ?_
 ((conv=>arg 1;reduce);with_reducible repeat' first | exact ty | refine ta ?_ ?_ | refine ti fun _ => ?_ | refine tf fun _ => ?_ | refine tl ?_)
 all_goals try exact vlf
 · refine Stands.one ((0,(false,0,0,[],0)):Nat×Oq) ⟨⟨zg _,by unfold loL;exact Oqw.none⟩,?_⟩
   exact vgo
 iterate 4 (focus
  rename_i x hx d
  change Nat×Oq at x
  obtain ⟨j,y⟩:=x
  have d:(j:Int)<(n:Int):=ng d
  first
  | exact on_of ho (by omega)
  | exact d
  | (show (j:Int).toNat+i<l.length;omega))
 iterate 2 (focus
  rename_i x hx d g1
  change Nat×Oq at x
  obtain ⟨j,y⟩:=x
  obtain ⟨k1,k2⟩:j≤P.length∧Oqw (loL F P j) y:=hx
  have hl:=loL_len (F:=F) k1
  have c1:=k2.cap
  have c2:=k2.len
  first
  | (rw [hby];exact ⟨by show j≤y.2.2.2.2;omega,by show 0+y.2.2.2.2≤y.2.2.2.1.length;omega,zw _,by show (j+1)*8≤_;omega⟩)
  | exact fun h0=>⟨by have:=(k2.nil h0).1;show j=0;omega,(k2.nil h0).2⟩)
 iterate 2 (focus
  rename_i x hx d g1 g2 g3 sp k h1 h2
  change Nat×Oq at x
  change List Int at sp
  obtain ⟨j,y⟩:=x
  obtain ⟨k1,k2⟩:j≤P.length∧Oqw (loL F P j) y:=hx
  have hl:=loL_len (F:=F) k1
  have d:(j:Int)<(n:Int):=ng d
  first
  | exact inR64 (n:=(j:Int)+1) (by omega) (by omega)
  | (have eV:l.getD ((j:Int).toNat+i) 0=P.getD j 0:=pv j (by omega)
     have e2:=loL_succ (F:=F) (show j<P.length by omega)
     refine Stands.one ((j+1,(true,g2,g3,y.2.2.2.1.take j ++ [loI F (l.getD ((j:Int).toNat+i) 0)] ++ sp,k)):Nat×Oq) ⟨⟨by show j+1≤P.length;omega,?_⟩,by show P.length - (j+1)<P.length - j;omega,?_⟩
     · show Oqw (loL F P (j+1)) _
       rw [e2]
       exact k2.snoc _ _ _ _ _ sp _ (by rw [eV,hl]) (by rw [hl];exact h1) (by rw [hl];exact h2) rfl
     exact vgo))
 · rename_i x hx d
   change Nat×Oq at x
   obtain ⟨j,y⟩:=x
   obtain ⟨k1,k2⟩:j≤P.length∧Oqw (loL F P j) y:=hx
   have d:¬ (j:Int)<(n:Int):=nf d
   obtain rfl:j=P.length:=by omega
   have ht:=top_le (els F P)
   rw [zn] at ht
   refine Stands.one ((P.length,y):Nat×Oq) ⟨⟨zw _,ht,k2⟩,?_⟩
   exact vgo
 iterate 5 (focus
  rename_i x0 hx0 d0 x hx d
  change Nat×Oq at x
  obtain ⟨k,y⟩:=x
  obtain ⟨k1,k2,k3⟩:k≤P.length∧top (els F P)≤k∧Oqw (loL F P P.length) y:=hx
  have hl:=loL_len (F:=F) (zw P.length)
  have d:(0:Int)<(k:Int):=ng d
  have c1:=k3.cap
  have c2:=k3.len
  first
  | exact inR64 (n:=(k:Int) - 1) (by omega) (by omega)
  | exact on_of k3.nil (by omega)
  | (show (0:Int)≤(k:Int) - 1;omega)
  | (show ((k:Int) - 1).toNat+0<y.2.2.2.1.length;omega))
 iterate 5 (focus
  rename_i x0 hx0 d0 x hx d
  change Nat×Oq at x
  obtain ⟨k,y⟩:=x
  obtain ⟨k1,k2,k3⟩:k≤P.length∧top (els F P)≤k∧Oqw (loL F P P.length) y:=hx
  have hl:=loL_len (F:=F) (zw P.length)
  simp only [zq,decide_eq_true_eq,SB.val] at d
  have d1:(0:Int)<(k:Int):=d.1
  have d2:y.2.2.2.1.getD (((k:Int) - 1).toNat+0) 0=0:=d.2
  have c1:=k3.cap
  have c2:=k3.len
  first
  | exact inR64 (n:=(k:Int) - 1) (by omega) (by omega)
  | exact fun h0=>by have:=(k3.nil h0).1;omega
  | (show (0:Int)≤(k:Int) - 1;omega)
  | (show (k:Int) - 1≤(y.2.2.2.2:Int);omega)
  | (rw [show ((k:Int) - 1).toNat+0=k - 1 by omega,k3.at (by omega),loL_at (by omega),vi_zero] at d2
     have ht:top (els F P)≤k - 1:=vc fun hlt=>top_ne (els F P) (by omega) (by rw [show top (els F P)=k by omega];exact d2)
     refine Stands.one ((k - 1,y):Nat×Oq) ⟨⟨by show k - 1≤P.length;omega,ht,k3⟩,by show k - 1<k;omega,?_⟩
     ((conv=>arg 1;reduce);with_reducible repeat' first | exact ty | refine ta ?_ ?_ | refine ti fun _ => ?_ | refine tf fun _ => ?_ | refine tl ?_)
     all_goals first | exact vlf | (show ((k:Int) - 1).toNat=k - 1;omega) | (show k - 1=((k:Int) - 1).toNat;omega)))
 · rename_i x0 hx0 d0 x hx d
   change Nat×Oq at x
   obtain ⟨k,y⟩:=x
   obtain ⟨k1,k2,k3⟩:k≤P.length∧top (els F P)≤k∧Oqw (loL F P P.length) y:=hx
   have hl:=loL_len (F:=F) (zw P.length)
   have ht:top (els F P)=k:=by
    refine top_of k2 ?_
    by_cases h0:k=0
    · exact .inl h0
    · refine .inr fun hz => ?_
      have d:(decide (0<(k:Int)) && (SB.tm (decide (y.2.2.2.1.getD (((k:Int) - 1).toNat+0) 0=0))).val)=false:=d
      rw [show ((k:Int) - 1).toNat+0=k - 1 by omega,k3.at (by omega),loL_at (by omega),hz] at d
      simp only [qu,decide_eq_false_iff_not,SB.val] at d
      rcases d with d | d
      · omega
      · exact d rfl
   have e:=loL_trim (F:=F) ht
   have hl2:(trL F P).length=k:=by rw [← e,ze,hl];omega
   refine Ends.one (y:Oq) (by show Oqw (trL F P) y;rw [← e];exact k3.pre k) ?_
   ((conv=>arg 1;reduce);with_reducible repeat' first | exact ty | refine ta ?_ ?_ | refine ti fun _ => ?_ | refine tf fun _ => ?_ | refine tl ?_)
   all_goals first | exact vlf | exact hl2 | exact hl2.symm
def fcRtrim:Fc Tryz.prog C0 where
 tg:=.fn 70
 X:=Sl3
 args:=fun (o,b,q,l,i,n,c)=>[.int .i64 (F.m:Int),.sl 0 i n c]
 mem:=fun (o,b,q,l,i,n,c)=>[⟨b,q,1,false,some o,.rows 3 l⟩]
 pre:=Sl3.pre
 alts:=fun (o,b,q,l,i,n,c)=>[⟨Oq,fun y=>Oqw (trL F ((l.drop i).take n)) y,fun y=>.sl 1 0 (trL F ((l.drop i).take n)).length y.2.2.2.2,fun y=>[⟨b,q,1,false,some o,.rows 3 l⟩,oqC true y]⟩]
 mat vs m:=match vs with
  | [_,.sl s i n c]=>match nth m s with
    | ⟨b,q,_,_,g,.rows 3 l⟩=>some ((onOf g,b,q,l,i,n,c),[s])
    | _=>none
  | [_,.nils]=>some ((false,0,0,[],0,0,0),[m.length])
  | _=>none
 ok:=fun (o,b,q,l,i,n,c) h=>rtrim_ok F o b q l i n c h.1 h.2.1 h.2.2 _ rfl
end
end
end Go.Vx
namespace Go.Vx
open Go Go.Proofs
noncomputable section
variable [Gl]
section
variable (F:Gf)
def Xm5 (A B:List Int):Inv' C0:=⟨5,Nat,fun i=>[(8,.int .i64 (i:Int))],fun i m=>match m with
 | [p,q,a,b,t]=>[p,q,a,b,⟨t.block,t.base,1,true,none,.rows 3 (tmI F A B i 0)⟩]
 | m=>m,fun i=>i≤A.length,fun i=>A.length - i⟩
def Xm8 (A B:List Int):Inv' C0:=⟨8,Nat×Nat,fun x=>[(8,.int .i64 (x.1:Int)),(9,.int .i64 (x.2:Int))],fun x m=>match m with
 | [p,q,a,b,t]=>[p,q,a,b,⟨t.block,t.base,1,true,none,.rows 3 (tmI F A B x.1 x.2)⟩]
 | m=>m,fun x=>x.1<A.length∧x.2≤B.length,fun x=>B.length - x.2⟩
set_option maxHeartbeats 4000000 in
theorem rtimes_ok (o:Bool) (b q:Nat) (l:List Int) (i n c:Nat) (h:i+n≤l.length) (hn:n<100000000) (ho:o=false→n=0∧c=0) (o2:Bool) (b2 q2:Nat) (l2:List Int) (i2 n2 c2:Nat) (h2:i2+n2≤l2.length) (hn2:n2<100000000) (ho2:o2=false→n2=0∧c2=0)
 (P:List Int) (hP:(l.drop i).take n=P) (Q:List Int) (hQ:(l2.drop i2).take n2=Q):
 Does (C:=C0) Tryz.prog (.fn 68) [⟨b,q,1,false,some o,.rows 3 l⟩,⟨b2,q2,1,false,some o2,.rows 3 l2⟩] [.int .i64 (F.m:Int),.sl 0 i n c,.sl 1 i2 n2 c2]
  [⟨Oq,fun y=>Oqw (tmL F P Q) y,fun y=>.sl 2 0 (tmL F P Q).length y.2.2.2.2,fun y=>[⟨b,q,1,false,some o,.rows 3 l⟩,⟨b2,q2,1,false,some o2,.rows 3 l2⟩,oqC true y]⟩]:=by
 have hby:(Tryz.prog.types[3].bytes:Int)=8:=by kernel_rfl
 have hL:P.length=n:=by rw [← hP];exact row_len h
 have hL2:Q.length=n2:=by rw [← hQ];exact row_len h2
 have lA:=trL_le F P
 have lB:=trL_le F Q
 rw [hL] at lA
 rw [hL2] at lB
 have eT:=fun i k=>tmI_len (F:=F) (P:=trL F P) (Q:=trL F Q) (i:=i) (k:=k)
 subst hP hQ
 refine loc_fn (P:=Tryz.prog) (E:=⟨[fcRtrim F],[pcRmul F],59,[(10,[],[.p 0,.p 1,.p 2,.p 3,.p 4,.p 5,.p 6,.p 7,.p 8,.p 10,.p 11,.p 12,.p 13,.p 15,.p 16,.p 17,.q 9,.q 14,.q 18,.q 19,.p 20,.p 21,.e 22])],[],[],none⟩) (L:=[Xm5 F (trL F ((l.drop i).take n)) (trL F ((l2.drop i2).take n2)),Xm8 F (trL F ((l.drop i).take n)) (trL F ((l2.drop i2).take n2))]) mix Tryz.func68 rfl (by kernel_rfl) (by kernel_rfl) rfl rfl ?_
 ((conv=>arg 1;reduce);with_reducible repeat' first | exact ty | refine ta ?_ ?_ | refine ti fun _ => ?_ | refine tf fun _ => ?_ | refine tl ?_)
 all_goals try exact vlf
 · exact ⟨h,by show n<1000000000;omega,ho⟩
 · exact ⟨h2,by show n2<1000000000;omega,ho2⟩
 · rw [hby];omega
 · refine Stands.one (0:Nat) ⟨zg _,?_⟩
   ((conv=>arg 1;reduce);with_reducible repeat' first | exact ty | refine ta ?_ ?_ | refine ti fun _ => ?_ | refine tf fun _ => ?_ | refine tl ?_)
   all_goals first | exact vlf | exact tmI_zero
 · rename_i ya ha yb hb b0 i0 hi d
   change Nat at i0
   have d:(i0:Int)<((trL F ((l.drop i).take n)).length:Int):=ng d
   refine Stands.one ((i0,0):Nat×Nat) ⟨⟨by show i0<_;omega,zg _⟩,?_⟩
   exact vgo
 iterate 16 (focus
  rename_i ya ha yb hb b0 i0 hi d0 x hx e1 d
  change Oq at ya
  change Oq at yb
  have ha:Oqw (trL F ((l.drop i).take n)) ya:=ha
  have hb:Oqw (trL F ((l2.drop i2).take n2)) yb:=hb
  have a1:=ha.cap
  have a2:=ha.len
  have b1:=hb.cap
  have b2:=hb.len
  change Nat at i0
  change Nat×Nat at x
  obtain ⟨j,k⟩:=x
  obtain ⟨k1,k2⟩:j<(trL F ((l.drop i).take n)).length∧k≤(trL F ((l2.drop i2).take n2)).length:=hx
  have e1:(i0:Int)=(j:Int):=e1
  obtain rfl:i0=j:=by omega
  have eJ:=eT i0 k
  have d:(k:Int)<((trL F ((l2.drop i2).take n2)).length:Int):=ng d
  have hk:k<(trL F ((l2.drop i2).take n2)).length:=by omega
  first
  | exact inR64 (n:=(i0:Int)+(k:Int)) (by omega) (by omega)
  | exact inR64 (n:=(k:Int)+1) (by omega) (by omega)
  | exact on_of ha.nil (by omega)
  | exact on_of hb.nil (by omega)
  | (show (i0:Int)+(k:Int)<(((_:Int)).toNat:Int);omega)
  | (show (i0:Int)<_;omega)
  | exact d
  | (show ((i0:Int)+(k:Int)).toNat+0<(tmI F (trL F ((l.drop i).take n)) (trL F ((l2.drop i2).take n2)) i0 k).length;omega)
  | (show (i0:Int).toNat+0<ya.2.2.2.1.length;omega)
  | (show (k:Int).toNat+0<yb.2.2.2.1.length;omega)
  | (have v1:ya.2.2.2.1.getD ((i0:Int).toNat+0) 0=vi (cf (els F (trL F ((l.drop i).take n))) i0):=by
      rw [show (i0:Int).toNat+0=i0 by omega,ha.at k1,← vis_getD,trL_vis]
     have v2:yb.2.2.2.1.getD ((k:Int).toNat+0) 0=vi (cf (els F (trL F ((l2.drop i2).take n2))) k):=by
      rw [show (k:Int).toNat+0=k by omega,hb.at hk,← vis_getD,trL_vis]
     have eN:((i0:Int)+(k:Int)).toNat+0=i0+k:=by omega
     have e3:(tmI F (trL F ((l.drop i).take n)) (trL F ((l2.drop i2).take n2)) i0 k).set (((i0:Int)+(k:Int)).toNat+0) (ibit .xor .i64 ((tmI F (trL F ((l.drop i).take n)) (trL F ((l2.drop i2).take n2)) i0 k).getD (((i0:Int)+(k:Int)).toNat+0) 0) (muI F (ya.2.2.2.1.getD ((i0:Int).toNat+0) 0) (yb.2.2.2.1.getD ((k:Int).toNat+0) 0)))=tmI F (trL F ((l.drop i).take n)) (trL F ((l2.drop i2).take n2)) i0 (k+1):=by
      rw [eN,v1,v2,muI_eq,el_vi,el_vi,tmI_at k1 hk,xor_vi]
      exact tmI_step k1 hk
     refine Stands.one ((i0,k+1):Nat×Nat) ⟨⟨k1,by show k+1≤_;omega⟩,by show _ - (k+1)<_ - k;omega,?_⟩
     ((conv=>arg 1;reduce);with_reducible repeat' first | exact ty | refine ta ?_ ?_ | refine ti fun _ => ?_ | refine tf fun _ => ?_ | refine tl ?_)
     all_goals first | exact vlf | exact e3 | exact e3.symm))
 iterate 2 (focus
  rename_i ya ha yb hb b0 i0 hi d0 x hx e1 d
  change Oq at ya
  change Oq at yb
  have ha:Oqw (trL F ((l.drop i).take n)) ya:=ha
  have hb:Oqw (trL F ((l2.drop i2).take n2)) yb:=hb
  have a1:=ha.cap
  have a2:=ha.len
  have b1:=hb.cap
  have b2:=hb.len
  change Nat at i0
  change Nat×Nat at x
  obtain ⟨j,k⟩:=x
  obtain ⟨k1,k2⟩:j<(trL F ((l.drop i).take n)).length∧k≤(trL F ((l2.drop i2).take n2)).length:=hx
  have e1:(i0:Int)=(j:Int):=e1
  obtain rfl:i0=j:=by omega
  have eJ:=eT i0 k
  have d:¬ (k:Int)<((trL F ((l2.drop i2).take n2)).length:Int):=nf d
  obtain rfl:k=(trL F ((l2.drop i2).take n2)).length:=by omega
  first
  | exact inR64 (n:=(i0:Int)+1) (by omega) (by omega)
  | (have e3:=tmI_row (F:=F) (P:=trL F ((l.drop i).take n)) (Q:=trL F ((l2.drop i2).take n2)) (i:=i0)
     refine Stands.one (i0+1:Nat) ⟨by show i0+1≤_;omega,by show _ - (i0+1)<_ - i0;omega,?_⟩
     ((conv=>arg 1;reduce);with_reducible repeat' first | exact ty | refine ta ?_ ?_ | refine ti fun _ => ?_ | refine tf fun _ => ?_ | refine tl ?_)
     all_goals first | exact vlf | exact e3 | exact e3.symm))
 · rename_i ya ha yb hb b0 i0 hi d
   change Nat at i0
   have eJ:=eT i0 0
   exact ⟨by show 0+((_:Int)).toNat≤(tmI F (trL F ((l.drop i).take n)) (trL F ((l2.drop i2).take n2)) i0 0).length;omega,by show ((_:Int)).toNat<1000000000;omega,nofun⟩
 · rename_i ya ha yb hb b0 i0 hi d yz hz
   change Nat at i0
   have hi:i0≤(trL F ((l.drop i).take n)).length:=hi
   have d:¬ (i0:Int)<((trL F ((l.drop i).take n)).length:Int):=nf d
   obtain rfl:i0=(trL F ((l.drop i).take n)).length:=by omega
   have eL:((tmI F (trL F ((l.drop i).take n)) (trL F ((l2.drop i2).take n2)) (trL F ((l.drop i).take n)).length 0).drop 0).take (((trL F ((l.drop i).take n)).length:Int)+((trL F ((l2.drop i2).take n2)).length:Int)).toNat=tmI F (trL F ((l.drop i).take n)) (trL F ((l2.drop i2).take n2)) (trL F ((l.drop i).take n)).length 0:=by
    rw [zm,zc (by rw [tmI_len];omega)]
   have hz:Oqw (trL F (((tmI F (trL F ((l.drop i).take n)) (trL F ((l2.drop i2).take n2)) (trL F ((l.drop i).take n)).length 0).drop 0).take (((trL F ((l.drop i).take n)).length:Int)+((trL F ((l2.drop i2).take n2)).length:Int)).toNat)) yz:=hz
   have eF:trL F (tmI F (trL F ((l.drop i).take n)) (trL F ((l2.drop i2).take n2)) (trL F ((l.drop i).take n)).length 0)=tmL F ((l.drop i).take n) ((l2.drop i2).take n2):=by
    rw [tmI_end]
    unfold tmL trL
    rw [els_vis,els_vis]
   rw [eL,eF] at hz
   rw [eL,eF]
   refine Ends.one (yz:Oq) hz ?_
   exact vgo
def fcRtimes:Fc Tryz.prog C0 where
 tg:=.fn 68
 X:=Sl3×Sl3
 args:=fun ((o,b,q,l,i,n,c),(o2,b2,q2,l2,i2,n2,c2))=>[.int .i64 (F.m:Int),.sl 0 i n c,.sl 1 i2 n2 c2]
 mem:=fun ((o,b,q,l,i,n,c),(o2,b2,q2,l2,i2,n2,c2))=>[⟨b,q,1,false,some o,.rows 3 l⟩,⟨b2,q2,1,false,some o2,.rows 3 l2⟩]
 pre:=fun ((o,b,q,l,i,n,c),(o2,b2,q2,l2,i2,n2,c2))=>(Sl3.pre (o,b,q,l,i,n,c)∧n<100000000)∧Sl3.pre (o2,b2,q2,l2,i2,n2,c2)∧n2<100000000
 alts:=fun ((o,b,q,l,i,n,c),(o2,b2,q2,l2,i2,n2,c2))=>[⟨Oq,fun y=>Oqw (tmL F ((l.drop i).take n) ((l2.drop i2).take n2)) y,fun y=>.sl 2 0 (tmL F ((l.drop i).take n) ((l2.drop i2).take n2)).length y.2.2.2.2,fun y=>[⟨b,q,1,false,some o,.rows 3 l⟩,⟨b2,q2,1,false,some o2,.rows 3 l2⟩,oqC true y]⟩]
 mat vs m:=match vs with
  | [_,.sl s i n c,.sl s2 i2 n2 c2]=>match nth m s,nth m s2 with
    | ⟨b,q,_,_,g,.rows 3 l⟩,⟨b2,q2,_,_,g2,.rows 3 l2⟩=>some (((onOf g,b,q,l,i,n,c),(onOf g2,b2,q2,l2,i2,n2,c2)),[s,s2])
    | _,_=>none
  | _=>none
 ok:=fun ((o,b,q,l,i,n,c),(o2,b2,q2,l2,i2,n2,c2)) h=>rtimes_ok F o b q l i n c h.1.1.1 h.1.2 h.1.1.2.2 o2 b2 q2 l2 i2 n2 c2 h.2.1.1 h.2.2 h.2.1.2.2 _ rfl _ rfl
end
end
end Go.Vx
namespace Go.Vx
open Go Go.Proofs
noncomputable section
variable [Gl]
section
variable {F:Gf}
@[irreducible] def xaI (A B:List (El F)) (i:Nat):List Int:=vis (mk (max A.length B.length) fun k=>if k<i then cf A k+cf B k else Fd.zr)
theorem xaI_len {A B:List (El F)} {i:Nat}:(xaI A B i).length=max A.length B.length:=by unfold xaI;rw [zn,mk_len]
theorem xaI_zero {A B:List (El F)}:xaI A B 0=zo (max A.length B.length) 0:=by
 unfold xaI
 refine List.ext_getElem (by simp [mk_len]) fun j h1 h2 => ?_
 simp [mk];rfl
theorem xaI_cf {A B:List (El F)} {i k:Nat}:(xaI A B i).getD k 0=vi (if k<max A.length B.length then (if k<i then cf A k+cf B k else Fd.zr) else Fd.zr):=by
 unfold xaI;rw [vis_getD,mk_cf]
theorem xaI_at {A B:List (El F)} {i:Nat}:(xaI A B i).getD i 0=0:=by
 rw [xaI_cf,if_neg (Nat.lt_irrefl i)];split <;> rfl
theorem xaI_set {A B:List (El F)} {i:Nat} (h:i<max A.length B.length) {v:Int} (hv:v=vi (cf A i+cf B i)):(xaI A B i).set i v=xaI A B (i+1):=by
 subst hv
 unfold xaI vis mk
 rw [td,td,set_map h]
 refine List.map_congr_left fun j _ => ?_
 by_cases hj:j=i
 · subst hj
   rw [if_pos rfl]
   show _=vi (if j<j+1 then _ else _)
   rw [if_pos (by omega)]
 · rw [if_neg hj]
   show vi (if j<i then _ else _)=vi (if j<i+1 then _ else _)
   by_cases h2:j<i
   · rw [if_pos h2,if_pos (by omega)]
   · rw [if_neg h2,if_neg (by omega)]
theorem xaI_end {A B:List (El F)}:trL F (xaI A B (max A.length B.length))=adL F (vis A) (vis B):=by
 unfold trL adL xaI
 rw [els_vis,els_vis,els_vis]
 congr 1
 refine trim_ext fun i => ?_
 rw [mk_cf,addP_cf]
 by_cases h:i<max A.length B.length
 · rw [if_pos h,if_pos h]
 · rw [if_neg h,cf_of (by omega),cf_of (by omega),Fd.add0]
@[irreducible] def hrN (A:List (El F)) (x:El F) (j:Nat):El F:=Fd.sm (A.length - j) fun i=>cf A (j+i)*Fd.pw x i
theorem hrN_top {A:List (El F)} {x:El F}:hrN A x A.length=Fd.zr:=by unfold hrN;rw [qo];rfl
theorem hrN_step {A:List (El F)} {x:El F} {j:Nat} (h:j<A.length):hrN A x (j+1)*x+cf A j=hrN A x j:=by
 unfold hrN
 obtain ⟨n,hn⟩:∃ n,A.length - j=n+1:=⟨A.length - j - 1,by omega⟩
 rw [show A.length - (j+1)=n by omega,hn,Fd.sm_head]
 show _=cf A j*Fd.pw x 0+_
 rw [show Fd.pw x 0=Fd.un from rfl,Fd.mulC (cf A j) Fd.un,Fd.umul,Fd.addC]
 congr 1
 rw [Fd.mulC,← Fd.sm_mul]
 refine Fd.sm_congr fun i _ => ?_
 show x*(cf A (j+1+i)*Fd.pw x i)=cf A (j+(i+1))*Fd.pw x (i+1)
 rw [show j+(i+1)=j+1+i by omega,← Fd.mulA,Fd.mulC x,Fd.mulA]
 congr 1
 show x*Fd.pw x i=Fd.pw x i*x
 exact Fd.mulC _ _
theorem hrN_all {A:List (El F)} {x:El F}:hrN A x 0=Fd.sm A.length fun i=>cf A i*Fd.pw x i:=by
 unfold hrN
 rw [rq]
 exact Fd.sm_congr fun i _=>by rw [we]
end
section
variable (F:Gf)
def Xa3 (A B:List (El F)):Inv' C0:=⟨3,Nat,fun i=>[(8,.int .i64 (i:Int))],fun i m=>match m with
 | [p,q,t]=>[p,q,⟨t.block,t.base,1,true,none,.rows 3 (xaI A B i)⟩]
 | m=>m,fun i=>i≤max A.length B.length,fun i=>max A.length B.length - i⟩
set_option maxHeartbeats 4000000 in
theorem radd_ok (o:Bool) (b q:Nat) (l:List Int) (i n c:Nat) (h:i+n≤l.length) (hn:n<100000000) (ho:o=false→n=0∧c=0) (o2:Bool) (b2 q2:Nat) (l2:List Int) (i2 n2 c2:Nat) (h2:i2+n2≤l2.length) (hn2:n2<100000000) (ho2:o2=false→n2=0∧c2=0)
 (A B:List (El F)) (hP:(l.drop i).take n=vis A) (hQ:(l2.drop i2).take n2=vis B):
 Does (C:=C0) Tryz.prog (.fn 69) [⟨b,q,1,false,some o,.rows 3 l⟩,⟨b2,q2,1,false,some o2,.rows 3 l2⟩] [.int .i64 (F.m:Int),.sl 0 i n c,.sl 1 i2 n2 c2]
  [⟨Oq,fun y=>Oqw (adL F (vis A) (vis B)) y,fun y=>.sl 2 0 (adL F (vis A) (vis B)).length y.2.2.2.2,fun y=>[⟨b,q,1,false,some o,.rows 3 l⟩,⟨b2,q2,1,false,some o2,.rows 3 l2⟩,oqC true y]⟩]:=by
 have hby:(Tryz.prog.types[3].bytes:Int)=8:=by kernel_rfl
 have hL:A.length=n:=by have:=row_len h;rw [hP,zn] at this;exact this
 have hL2:B.length=n2:=by have:=row_len h2;rw [hQ,zn] at this;exact this
 have pv:∀ j,j<n→l.getD (j+i) 0=vi (cf A j):=fun j hj=>by rw [row_at j hj,hP,vis_getD]
 have qv:∀ j,j<n2→l2.getD (j+i2) 0=vi (cf B j):=fun j hj=>by rw [row_at j hj,hQ,vis_getD]
 refine loc_fn (P:=Tryz.prog) (E:=⟨[fcRtrim F],[],51,[(8,[],[.p 0,.p 1,.p 2,.p 3,.p 4,.p 6,.p 7,.p 8,.q 5,.q 9,.p 10,.p 11,.e 12])],[],[],none⟩) (L:=[Xa3 F A B]) mix Tryz.func69 rfl (by kernel_rfl) (by kernel_rfl) rfl rfl ?_
 ((conv=>arg 1;reduce);with_reducible repeat' first | exact ty | refine ta ?_ ?_ | refine ti fun _ => ?_ | refine tf fun _ => ?_ | refine tl ?_)
 all_goals try exact vlf
 · rw [hby];omega
 · refine Stands.one (0:Nat) ⟨zg _,?_⟩
   ((conv=>arg 1;reduce);with_reducible repeat' first | exact ty | refine ta ?_ ?_ | refine ti fun _ => ?_ | refine tf fun _ => ?_ | refine tl ?_)
   all_goals first | exact vlf | (show zo _ (0:Int)=xaI A B 0;rw [xaI_zero];congr 1;omega) | (show xaI A B 0=zo _ (0:Int);rw [xaI_zero];congr 1;omega)
 all_goals try (
  rename_i b0 j hj d e1
  change Nat at j
  have hj:j≤max A.length B.length:=hj
  have d:(j:Int)<((max (n:Int) (n2:Int)).toNat:Int):=ng d
  have e1:(j:Int)<(n:Int):=ng e1
  first
  | exact on_of ho (by omega)
  | exact e1
  | exact d
  | (show (j:Int).toNat+i<l.length;omega)
  | (show (j:Int).toNat+0<(xaI A B j).length;rw [xaI_len];omega)
  | done)
 all_goals try (
  rename_i b0 j hj d e1 e2
  change Nat at j
  have hj:j≤max A.length B.length:=hj
  have d:(j:Int)<((max (n:Int) (n2:Int)).toNat:Int):=ng d
  have eN:(j:Int).toNat+0=j:=by omega
  have xl:=xaI_len (A:=A) (B:=B) (i:=j)
  have hm:j<max A.length B.length:=by omega
  first
  | exact d
  | exact on_of ho2 (by have e2:(j:Int)<(n2:Int):=ng e2
                        omega)
  | (have e2:(j:Int)<(n2:Int):=ng e2;exact e2)
  | (have e2:(j:Int)<(n2:Int):=ng e2
     first
     | (show (j:Int).toNat+i2<l2.length;omega)
     | (show (j:Int).toNat+0<(xaI A B j).length;omega)
     | (show (j:Int).toNat+0<((xaI A B j).set ((j:Int).toNat+0) (l.getD ((j:Int).toNat+i) 0)).length;rw [zh];omega))
  | exact inR64 (n:=(j:Int)+1) (by omega) (by omega)
  | (exfalso
     have e1:¬ (j:Int)<(n:Int):=nf e1
     have e2:¬ (j:Int)<(n2:Int):=nf e2
     omega)
  | (have e1:(j:Int)<(n:Int):=ng e1
     have e2:(j:Int)<(n2:Int):=ng e2
     have eV:((xaI A B j).set ((j:Int).toNat+0) (l.getD ((j:Int).toNat+i) 0)).set ((j:Int).toNat+0) (ibit .xor .i64 (((xaI A B j).set ((j:Int).toNat+0) (l.getD ((j:Int).toNat+i) 0)).getD ((j:Int).toNat+0) 0) (l2.getD ((j:Int).toNat+i2) 0))=xaI A B (j+1):=by
      rw [eN,zu,pv j (by omega),qv j (by omega),List.set_set]
      refine xaI_set hm ?_
      rw [zy,uj (by omega),ym,xor_vi]
     refine Stands.one (j+1:Nat) ⟨by show j+1≤_;omega,by show _ - (j+1)<_ - j;omega,?_⟩
     ((conv=>arg 1;reduce);with_reducible repeat' first | exact ty | refine ta ?_ ?_ | refine ti fun _ => ?_ | refine tf fun _ => ?_ | refine tl ?_)
     all_goals first | exact vlf | exact eV | exact eV.symm)
  | (have e1:(j:Int)<(n:Int):=ng e1
     have e2:¬ (j:Int)<(n2:Int):=nf e2
     have eV:(xaI A B j).set ((j:Int).toNat+0) (l.getD ((j:Int).toNat+i) 0)=xaI A B (j+1):=by
      rw [eN,zu,pv j (by omega)]
      refine xaI_set hm ?_
      rw [cf_of (l:=B) (by omega),Fd.add0]
     refine Stands.one (j+1:Nat) ⟨by show j+1≤_;omega,by show _ - (j+1)<_ - j;omega,?_⟩
     ((conv=>arg 1;reduce);with_reducible repeat' first | exact ty | refine ta ?_ ?_ | refine ti fun _ => ?_ | refine tf fun _ => ?_ | refine tl ?_)
     all_goals first | exact vlf | exact eV | exact eV.symm)
  | (have e1:¬ (j:Int)<(n:Int):=nf e1
     have e2:(j:Int)<(n2:Int):=ng e2
     have eV:(xaI A B j).set ((j:Int).toNat+0) (ibit .xor .i64 ((xaI A B j).getD ((j:Int).toNat+0) 0) (l2.getD ((j:Int).toNat+i2) 0))=xaI A B (j+1):=by
      rw [eN,zu,qv j (by omega)]
      refine xaI_set hm ?_
      rw [xaI_at,show (0:Int)=vi (Fd.zr:El F) from rfl,xor_vi,cf_of (l:=A) (by omega)]
     refine Stands.one (j+1:Nat) ⟨by show j+1≤_;omega,by show _ - (j+1)<_ - j;omega,?_⟩
     ((conv=>arg 1;reduce);with_reducible repeat' first | exact ty | refine ta ?_ ?_ | refine ti fun _ => ?_ | refine tf fun _ => ?_ | refine tl ?_)
     all_goals first | exact vlf | exact eV | exact eV.symm))
 · rename_i b0 j hj d
   change Nat at j
   have hj:j≤max A.length B.length:=hj
   have xl:=xaI_len (A:=A) (B:=B) (i:=j)
   exact ⟨by show 0+(max (n:Int) (n2:Int)).toNat≤(xaI A B j).length;omega,by show (max (n:Int) (n2:Int)).toNat<1000000000;omega,nofun⟩
 · rename_i b0 j hj d y hy
   change Nat at j
   change Oq at y
   have hj:j≤max A.length B.length:=hj
   have d:¬ (j:Int)<((max (n:Int) (n2:Int)).toNat:Int):=nf d
   obtain rfl:j=max A.length B.length:=by omega
   have eL:((xaI A B (max A.length B.length)).drop 0).take (max (n:Int) (n2:Int)).toNat=xaI A B (max A.length B.length):=by
    rw [zm,zc (by rw [xaI_len];omega)]
   have hy:Oqw (trL F (((xaI A B (max A.length B.length)).drop 0).take (max (n:Int) (n2:Int)).toNat)) y:=hy
   rw [eL,xaI_end] at hy
   rw [eL,xaI_end]
   refine Ends.one (y:Oq) hy ?_
   exact vgo
def Ev3 (A:List (El F)) (x:El F):Inv' C0:=⟨3,Nat,fun j=>[(7,.int .i64 (vi (hrN A x j))),(8,.int .i64 ((j:Int) - 1))],fun _ m=>m,fun j=>j≤A.length,fun j=>j⟩
theorem reval_ok (o:Bool) (b q:Nat) (l:List Int) (i n c:Nat) (h:i+n≤l.length) (hn:n<100000000) (ho:o=false→n=0∧c=0) (x:Int) (P:List Int) (hP:(l.drop i).take n=P):
 Tells (C:=C0) Tryz.prog (.fn 71) [⟨b,q,1,false,some o,.rows 3 l⟩] [.int .i64 (F.m:Int),.sl 0 i n c,.int .i64 x] (.int .i64 (vi (hrN (els F P) (el F x) 0))):=by
 have hL:P.length=n:=by rw [← hP];exact row_len h
 have pv:∀ j,j<n→l.getD (j+i) 0=P.getD j 0:=fun j hj=>by rw [row_at j hj,hP]
 refine loc_pc (P:=Tryz.prog) (E:=⟨[],[pcRmul F,pcRlow F],28,[],[],[],none⟩) (L:=[Ev3 F (els F P) (el F x)]) mix Tryz.func71 rfl (by kernel_rfl) (by kernel_rfl) rfl rfl ?_
 ((conv=>arg 1;reduce);with_reducible repeat' first | exact ty | refine ta ?_ ?_ | refine ti fun _ => ?_ | refine tf fun _ => ?_ | refine tl ?_)
 all_goals try exact vlf
 · refine Stands.one ((els F P).length:Nat) ⟨zw _,?_⟩
   ((conv=>arg 1;reduce);with_reducible repeat' first | exact ty | refine ta ?_ ?_ | refine ti fun _ => ?_ | refine tf fun _ => ?_ | refine tl ?_)
   all_goals first
    | exact vlf
    | (show (0:Int)=vi (hrN (els F P) (el F x) (els F P).length);rw [hrN_top];rfl)
    | (show vi (hrN (els F P) (el F x) (els F P).length)=(0:Int);rw [hrN_top];rfl)
    | (show (n:Int) - 1=((els F P).length:Int) - 1;rw [zn,hL])
    | (show ((els F P).length:Int) - 1=(n:Int) - 1;rw [zn,hL])
 all_goals have hE:(els F P).length=n:=by rw [zn,hL]
 iterate 7 (focus
  rename_i j hj d
  change Nat at j
  have hj:j≤(els F P).length:=hj
  have d:0≤(j:Int) - 1:=ng d
  first
  | exact on_of ho (by omega)
  | exact d
  | (show (j:Int) - 1<(n:Int);omega)
  | (show ((j:Int) - 1).toNat+i<l.length;omega)
  | exact inR64 (n:=(j:Int) - 1 - 1) (by omega) (by omega)
  | (have eN:((j:Int) - 1).toNat+i=(j - 1)+i:=by omega
     have eV:ibit .xor .i64 (muI F (vi (hrN (els F P) (el F x) j)) x) (loI F (l.getD (((j:Int) - 1).toNat+i) 0))=vi (hrN (els F P) (el F x) (j - 1)):=by
      rw [eN,pv _ (by omega),muI_eq,loI_eq,el_vi,xor_vi,← hrN_step (j:=j - 1) (by omega),show j - 1+1=j by omega,els_cf,if_pos (by omega)]
     refine Stands.one (j - 1:Nat) ⟨by show j - 1≤_;omega,by show j - 1<j;omega,?_⟩
     ((conv=>arg 1;reduce);with_reducible repeat' first | exact ty | refine ta ?_ ?_ | refine ti fun _ => ?_ | refine tf fun _ => ?_ | refine tl ?_)
     all_goals first | exact vlf | exact eV | exact eV.symm | (show (j:Int) - 1 - 1=((j - 1:Nat):Int) - 1;omega) | (show ((j - 1:Nat):Int) - 1=(j:Int) - 1 - 1;omega)))
 · rename_i j hj d
   change Nat at j
   have d:¬ 0≤(j:Int) - 1:=nf d
   obtain rfl:j=0:=by omega
   rfl
abbrev Elw (F:Gf) (P:List Int):Prop:=P=vis (els F P)
def fcRadd:Fc Tryz.prog C0 where
 tg:=.fn 69
 X:=Sl3×Sl3
 args:=fun ((o,b,q,l,i,n,c),(o2,b2,q2,l2,i2,n2,c2))=>[.int .i64 (F.m:Int),.sl 0 i n c,.sl 1 i2 n2 c2]
 mem:=fun ((o,b,q,l,i,n,c),(o2,b2,q2,l2,i2,n2,c2))=>[⟨b,q,1,false,some o,.rows 3 l⟩,⟨b2,q2,1,false,some o2,.rows 3 l2⟩]
 pre:=fun ((o,b,q,l,i,n,c),(o2,b2,q2,l2,i2,n2,c2))=>(Sl3.pre (o,b,q,l,i,n,c)∧n<100000000∧Elw F ((l.drop i).take n))∧Sl3.pre (o2,b2,q2,l2,i2,n2,c2)∧n2<100000000∧Elw F ((l2.drop i2).take n2)
 alts:=fun ((o,b,q,l,i,n,c),(o2,b2,q2,l2,i2,n2,c2))=>[⟨Oq,fun y=>Oqw (adL F ((l.drop i).take n) ((l2.drop i2).take n2)) y,fun y=>.sl 2 0 (adL F ((l.drop i).take n) ((l2.drop i2).take n2)).length y.2.2.2.2,fun y=>[⟨b,q,1,false,some o,.rows 3 l⟩,⟨b2,q2,1,false,some o2,.rows 3 l2⟩,oqC true y]⟩]
 mat vs m:=match vs with
  | [_,.sl s i n c,.sl s2 i2 n2 c2]=>match nth m s,nth m s2 with
    | ⟨b,q,_,_,g,.rows 3 l⟩,⟨b2,q2,_,_,g2,.rows 3 l2⟩=>some (((onOf g,b,q,l,i,n,c),(onOf g2,b2,q2,l2,i2,n2,c2)),[s,s2])
    | _,_=>none
  | _=>none
 ok:=fun ((o,b,q,l,i,n,c),(o2,b2,q2,l2,i2,n2,c2)) h=>by
  have:=radd_ok F o b q l i n c h.1.1.1 h.1.2.1 h.1.1.2.2 o2 b2 q2 l2 i2 n2 c2 h.2.1.1 h.2.2.1 h.2.1.2.2 _ _ h.1.2.2 h.2.2.2
  rwa [← h.1.2.2,← h.2.2.2] at this
def pcReval:Pc Tryz.prog C0 where
 tg:=.fn 71
 X:=Sl3×Int
 args:=fun ((o,b,q,l,i,n,c),x)=>[.int .i64 (F.m:Int),.sl 0 i n c,.int .i64 x]
 mem:=fun ((o,b,q,l,i,n,c),x)=>[⟨b,q,1,false,some o,.rows 3 l⟩]
 pre:=fun ((o,b,q,l,i,n,c),x)=>Sl3.pre (o,b,q,l,i,n,c)∧n<100000000
 res:=fun ((o,b,q,l,i,n,c),x)=>.int .i64 (vi (hrN (els F ((l.drop i).take n)) (el F x) 0))
 mat vs m:=match vs with
  | [_,.sl s i n c,.int _ x]=>match nth m s with
    | ⟨b,q,_,_,g,.rows 3 l⟩=>some (((onOf g,b,q,l,i,n,c),x),[s])
    | _=>none
  | _=>none
 ok:=fun ((o,b,q,l,i,n,c),x) h=>reval_ok F o b q l i n c h.1.1 h.2 h.1.2.2 x _ rfl
end
end
end Go.Vx
namespace Go.Vx
open Go.Vx.Fd
noncomputable section
theorem nodup_le:∀ (n:Nat) (l:List Int),l.Nodup→(∀ x∈l,0≤x∧x<(n:Int))→l.length≤n
 | 0,[],_,_=>zw 0
 | 0,x :: l,_,h=>by have:=h x (List.mem_cons_self ..);omega
 | n+1,l,hn,h=>by
   by_cases hm:(n:Int)∈l
   · have h1:=nodup_le n (l.erase (n:Int)) (hn.erase _) fun x hx=>by
      obtain ⟨h2,h3⟩:=(List.Nodup.mem_erase_iff hn).1 hx
      have:=h x h3
      omega
     rw [List.length_erase_of_mem hm] at h1
     omega
   · have h1:=nodup_le n l hn fun x hx=>by
      have h2:=h x hx
      have:x≠(n:Int):=fun e=>hm (e ▸ hx)
      omega
     omega
def ins (x:Int):List Int→List Int
 | []=>[x]
 | y :: l=>if x≤y then x :: y :: l else y :: ins x l
def isr:List Int→List Int
 | []=>[]
 | x :: l=>ins x (isr l)
theorem ins_perm (x:Int):∀ l:List Int,(ins x l).Perm (x :: l)
 | []=>List.Perm.refl _
 | y :: l=>by
   unfold ins
   split
   · exact List.Perm.refl _
   · exact ((ins_perm x l).cons y).trans (List.Perm.swap ..)
theorem isr_perm:∀ l:List Int,(isr l).Perm l
 | []=>List.Perm.refl _
 | x :: l=>(ins_perm x _).trans ((isr_perm l).cons x)
theorem ins_le (x:Int):∀ l:List Int,l.Pairwise (· ≤ ·)→(ins x l).Pairwise (· ≤ ·)
 | [],_=>rj ..
 | y :: l,h=>by
   unfold ins
   obtain ⟨h1,h2⟩:=List.pairwise_cons.1 h
   split
   · rename_i hx
     refine List.pairwise_cons.2 ⟨fun z hz => ?_,h⟩
     rcases List.mem_cons.1 hz with rfl | hz
     · exact hx
     · have:=h1 z hz;omega
   · rename_i hx
     refine List.pairwise_cons.2 ⟨fun z hz => ?_,ins_le x l h2⟩
     rcases List.mem_cons.1 ((ins_perm x l).mem_iff.1 hz) with rfl | hz
     · omega
     · exact h1 z hz
theorem isr_le:∀ l:List Int,(isr l).Pairwise (· ≤ ·)
 | []=>List.Pairwise.nil
 | x :: l=>ins_le x _ (isr_le l)
theorem isr_eq {l r:List Int} (hp:r.Perm l) (hs:r.Pairwise (· ≤ ·)):r=isr l:=
 List.Perm.eq_of_pairwise (le:=(· ≤ ·)) (fun a b _ _ h1 h2=>by omega) hs (isr_le l) (hp.trans (isr_perm l).symm)
def cosR (n:Nat):Nat→Nat→List Int→List Int
 | 0,_,l=>l
 | f+1,i,l=>if l.contains (i:Int) then l else cosR n f (2*i % n) (l ++ [(i:Int)])
@[irreducible] def cosV (m i:Nat):List Int:=isr (cosR (2 ^ m - 1) (2 ^ m) (i % (2 ^ m - 1)) [])
theorem cosR_facts {n:Nat} (hn:0<n):∀ (f i:Nat) (l:List Int),i<n→l.Nodup→(∀ x∈l,0≤x∧x<(n:Int))→(cosR n f i l).Nodup∧∀ x∈cosR n f i l,0≤x∧x<(n:Int)
 | 0,_,l,_,h1,h2=>⟨h1,h2⟩
 | f+1,i,l,hi,h1,h2=>by
   unfold cosR
   split
   · exact ⟨h1,h2⟩
   · rename_i hc
     have hc:¬ (i:Int)∈l:=fun h=>hc (List.contains_iff_mem.2 h)
     refine cosR_facts hn f _ _ (yv _ hn) (List.nodup_append.2 ⟨h1,rj ..,fun a ha b hb => ?_⟩) fun x hx => ?_
     · rw [wq] at hb
       intro e
       exact hc (hb ▸ e ▸ ha)
     · rcases List.mem_append.1 hx with hx | hx
       · exact h2 x hx
       · rw [wq] at hx;omega
theorem cosV_lt {m i:Nat} (hm:1≤m):∀ x∈cosV m i,0≤x∧x<((2 ^ m - 1:Nat):Int):=by
 have h2:0<2 ^ m - 1:=by have:=ug (show m≠0 by omega);omega
 unfold cosV
 exact fun x hx=>(cosR_facts h2 _ _ _ (yv _ h2) vk fun x hx=>by cases hx).2 x ((isr_perm _).mem_iff.1 hx)
theorem cosV_len {m i:Nat} (hm:1≤m):(cosV m i).length≤2 ^ m - 1:=by
 have h2:0<2 ^ m - 1:=by have:=ug (show m≠0 by omega);omega
 have hc:=cosR_facts h2 (2 ^ m) (i % (2 ^ m - 1)) [] (yv _ h2) vk (fun x hx=>by cases hx)
 have e:(cosV m i).length=(cosR (2 ^ m - 1) (2 ^ m) (i % (2 ^ m - 1)) []).length:=by unfold cosV;exact (isr_perm _).length_eq
 rw [e]
 exact nodup_le _ _ hc.1 hc.2
def ldR (m:Nat):Nat→List Int×Nat
 | 0=>([],0)
 | j+1=>if (ldR m j).1.contains ((cosV m (2*j+1)).getD 0 0) then ldR m j else ((ldR m j).1 ++ [(cosV m (2*j+1)).getD 0 0],(ldR m j).2+(cosV m (2*j+1)).length)
section
variable {F:Gf}
def mlR (a:El F) (Q:List (El F)) (i:Nat):Nat→List (El F)→List (El F)
 | 0,o=>o
 | k+1,o=>(mlR a Q i k o).set (i+k) (cf (mlR a Q i k o) (i+k)+a*cf Q k)
def mlC (P Q:List (El F)):Nat→List (El F)
 | 0=>zo (P.length+Q.length - 1) zr
 | i+1=>mlR (cf P i) Q i Q.length (mlC P Q i)
theorem mlR_len (a:El F) (Q:List (El F)) (i:Nat) (o:List (El F)):∀ k,(mlR a Q i k o).length=o.length
 | 0=>rfl
 | k+1=>by show ((mlR a Q i k o).set _ _).length=_;rw [zh,mlR_len a Q i o k]
theorem mlC_len (P Q:List (El F)):∀ i,(mlC P Q i).length=P.length+Q.length - 1
 | 0=>by show (zo _ _).length=_;rw [xz]
 | i+1=>by show (mlR _ _ _ _ _).length=_;rw [mlR_len,mlC_len P Q i]
theorem cf_set {l:List (El F)} {i j:Nat} {x:El F} (hi:i<l.length):cf (l.set i x) j=if j=i then x else cf l j:=by
 unfold cf
 simp only [zy]
 by_cases h:j=i
 · rw [if_pos h,h,uj hi];rfl
 · rw [if_neg h,List.getElem?_set_ne (Ne.symm h)]
def fdE (F:Gf) (l:List Int):List (El F):=l.foldl (fun P k=>mlC P [ex F k.toNat,un] P.length) [un]
theorem fdE_snoc (l:List Int) (k:Int):fdE F (l ++ [k])=mlC (fdE F l) [ex F k.toNat,un] (fdE F l).length:=by unfold fdE;rw [uo];rfl
theorem mlC_two (P:List (El F)) (c:El F) (i:Nat):∃ x,mlC P [c,un] (i+1)=((mlC P [c,un] i).set i x).set (i+1) (cf ((mlC P [c,un] i).set i x) (i+1)+cf P i*un):=⟨cf (mlC P [c,un] i) i+cf P i*c,rfl⟩
theorem mlC_low {P:List (El F)} {c:El F}:∀ {i s:Nat},i<s→cf (mlC P [c,un] i) s=zr
 | 0,s,_=>by
   show cf (zo _ _) s=_
   unfold cf
   rw [zy,sw]
   split <;> rfl
 | i+1,s,h=>by
   obtain ⟨x,e⟩:=mlC_two P c i
   by_cases h1:i+1<(mlC P [c,un] i).length
   · rw [e,cf_set (by rw [zh];exact h1),if_neg (by omega),cf_set (by omega),if_neg (by omega),mlC_low (by omega)]
   · exact cf_of (by rw [e,zh,zh];omega)
theorem mlC_top {P:List (El F)} {c:El F} {n:Nat} (hp:P.length=n+1) (hl:cf P n=un):cf (mlC P [c,un] (n+1)) (n+1)=un:=by
 obtain ⟨x,e⟩:=mlC_two P c n
 have hL:(mlC P [c,un] n).length=n+2:=by rw [mlC_len,hp];rfl
 rw [e,cf_set (by rw [zh,hL];omega),if_pos rfl,hl,cf_set (by rw [hL];omega),if_neg (by omega),mlC_low (by omega),zadd,umul]
theorem fdE_facts (l:List Int):(fdE F l).length=l.length+1∧cf (fdE F l) l.length=un:=by
 refine snoc_ind (P:=fun l=>(fdE F l).length=l.length+1∧cf (fdE F l) l.length=un) ⟨rfl,rfl⟩ (fun l k ih => ?_) l
 rw [fdE_snoc]
 constructor
 · rw [mlC_len,ih.1,zx];rfl
 · rw [ih.1,zx]
   exact mlC_top ih.1 ih.2
theorem trim_id {l:List (El F)} {n:Nat} (hl:l.length=n+1) (h:cf l n≠zr):trim l=l:=by
 unfold trim
 refine zc ?_
 rw [hl]
 refine vc fun hlt=>h (top_zero l (by omega))
theorem fdE_trim (l:List Int):trim (fdE F l)=fdE F l:=trim_id (fdE_facts l).1 (by rw [(fdE_facts l).2];exact ne)
@[irreducible] def mpN (F:Gf) (l:List Int):Nat:=bn (l.length+1) fun k=>decide (cf (fdE F l) k=un)
theorem mpN_bit (l:List Int) (k:Nat):(mpN F l).testBit k=decide (cf (fdE F l) k=un):=by
 unfold mpN
 rw [bn_bit]
 by_cases h:k<l.length+1
 · rw [decide_eq_true h,zd]
 · rw [decide_eq_false h,yf,cf_of (by rw [(fdE_facts l).1];omega)]
   exact (decide_eq_false (fun e=>ne e.symm)).symm
theorem mpN_bl (l:List Int):bl (mpN F l)=l.length+1:=by
 refine bl_of (by rw [mpN_bit,(fdE_facts l).2];exact decide_eq_true rfl) ?_
 unfold mpN
 exact bn_lt _ _
def mlRN (m p a:Nat) (Q:List Nat) (i:Nat):Nat→List Nat→List Nat
 | 0,o=>o
 | k+1,o=>(mlRN m p a Q i k o).set (i+k) ((mlRN m p a Q i k o).getD (i+k) 0 ^^^ mg m p m a (Q.getD k 0))
def mlCN (m p:Nat) (P Q:List Nat):Nat→List Nat
 | 0=>zo (P.length+Q.length - 1) 0
 | i+1=>mlRN m p (P.getD i 0) Q i Q.length (mlCN m p P Q i)
def pwB (m p:Nat):Nat→Nat→Nat
 | 0,_=>1
 | f+1,k=>if k % 2=1 then mulx m p (mg m p m (pwB m p f (k / 2)) (pwB m p f (k / 2))) else mg m p m (pwB m p f (k / 2)) (pwB m p f (k / 2))
def fdN (m p:Nat) (l:List Int):List Nat:=l.foldl (fun P k=>mlCN m p P [pwB m p m k.toNat,1] P.length) [1]
theorem cf_v (l:List (El F)) (i:Nat):(cf l i).v=(l.map El.v).getD i 0:=by
 unfold cf
 simp only [zy,List.getElem?_map]
 cases l[i]? <;> rfl
theorem pwB_ok:∀ f k,k<2 ^ f→pwB F.m F.p f k=(ex F k).v
 | 0,k,h=>by
   obtain rfl:k=0:=by rw [se] at h;omega
   rfl
 | f+1,k,h=>by
   have ih:=pwB_ok f (k / 2) (by rw [wg] at h;omega)
   have e:mg F.m F.p F.m (pwB F.m F.p f (k / 2)) (pwB F.m F.p f (k / 2))=(ex F (k / 2+k / 2)).v:=by
    rw [ih,ex_add];rfl
   show (if k % 2=1 then mulx F.m F.p (mg F.m F.p F.m (pwB F.m F.p f (k / 2)) (pwB F.m F.p f (k / 2))) else mg F.m F.p F.m (pwB F.m F.p f (k / 2)) (pwB F.m F.p f (k / 2)))=_
   rw [e]
   split
   · rw [show (ex F k).v=(ex F (k / 2+k / 2+1)).v by congr 2;omega]
     rfl
   · congr 2;omega
theorem mlR_N (a:El F) (Q:List (El F)) (i:Nat) (o:List (El F)):∀ k,(mlR a Q i k o).map El.v=mlRN F.m F.p a.v (Q.map El.v) i k (o.map El.v)
 | 0=>rfl
 | k+1=>by
   show ((mlR a Q i k o).set _ _).map El.v=(mlRN _ _ _ _ _ k _).set _ _
   rw [List.map_set,mlR_N a Q i o k,add_v,mul_v,cf_v,cf_v,mlR_N a Q i o k]
theorem mlC_N (P Q:List (El F)):∀ i,(mlC P Q i).map El.v=mlCN F.m F.p (P.map El.v) (Q.map El.v) i
 | 0=>by
   show (zo _ _).map El.v=zo _ _
   rw [List.map_replicate,zn,zn]
   rfl
 | i+1=>by
   show (mlR _ _ _ _ _).map El.v=mlRN _ _ _ _ _ _ _
   rw [mlR_N,mlC_N P Q i,cf_v,zn]
theorem fdE_N {l:List Int}:(∀ x∈l,x.toNat<2 ^ F.m)→(fdE F l).map El.v=fdN F.m F.p l:=by
 refine snoc_ind (P:=fun l=>(∀ x∈l,x.toNat<2 ^ F.m)→(fdE F l).map El.v=fdN F.m F.p l) (fun _=>rfl) (fun l k ih h => ?_) l
 have e:fdN F.m F.p (l ++ [k])=mlCN F.m F.p (fdN F.m F.p l) [pwB F.m F.p F.m k.toNat,1] (fdN F.m F.p l).length:=by unfold fdN;rw [uo];rfl
 rw [fdE_snoc,mlC_N,e,← ih fun x hx=>h x (uq _ hx),zn]
 congr 1
 show [(ex F k.toNat).v,1]=_
 rw [pwB_ok F.m k.toNat (h k (by simp))]
def hoN (m p x:Nat):Nat→Nat→Nat
 | 0,_=>0
 | f+1,N=>(if N.testBit 0 then 1 else 0) ^^^ mg m p m x (hoN m p x f (N / 2))
theorem hoN_ok (x:El F):∀ f N,hoN F.m F.p x.v f N=(vl N.testBit f x).v
 | 0,_=>rfl
 | f+1,N=>by
   show (if N.testBit 0 then 1 else 0) ^^^ mg F.m F.p F.m x.v (hoN F.m F.p x.v f (N / 2))=_
   rw [hoN_ok x f (N / 2)]
   have e:vl N.testBit (f+1) x=bk (N.testBit 0)+x*vl (N / 2).testBit f x:=by
    unfold vl
    rw [sm_head,← sm_mul]
    rw [show pw x 0=(un:El F) from rfl,mul1]
    congr 1
    refine sm_congr fun k _ => ?_
    rw [Nat.testBit_succ]
    show _*(pw x k*x)=_
    rw [mulC (pw x k) x,mulL]
   rw [e,add_v,mul_v]
   cases N.testBit 0 <;> rfl
theorem hoN_vn {x:El F} {f N:Nat} (hf:bl N≤f) (h:hoN F.m F.p x.v f N=0):vn N x=zr:=by
 rw [← vl_more hf]
 exact El.ext (by rw [← hoN_ok];exact h)
end
end
end Go.Vx
namespace Go.Vx
open Go Go.Proofs
noncomputable section
variable [Gl]
theorem srt_isr (l:List Int):srt l=isr l:=isr_eq (srt_perm l) (srt_le l)
theorem any_has {L:List Int} {x:Int}:anyF (eqI x) L=L.contains x:=by
 by_cases h:x∈L
 · rw [List.contains_iff_mem.2 h,anyF_iff]
   exact ⟨x,h,decide_eq_true rfl⟩
 · rw [Bool.eq_false_iff.2 fun e=>h (List.contains_iff_mem.1 e),Bool.eq_false_iff]
   intro e
   obtain ⟨y,hy,e⟩:=anyF_iff.1 e
   rw [ng e] at h
   exact h hy
section
variable (F:Gf)
def Co6 (C:List Int):Inv' C0:=⟨6,Nat×List Int×Oq,fun x=>[(1,.int .i64 (x.1:Int)),(7,.sl 0 0 x.2.1.length x.2.2.2.2.2.2)],fun x _=>[oqC true x.2.2],
 fun x=>x.1<nF F∧x.2.1.Nodup∧(∀ a∈x.2.1,0≤a∧a<(nF F:Int))∧Oqw x.2.1 x.2.2∧cosR (nF F) (szF F - x.2.1.length) x.1 x.2.1=C,fun x=>szF F - x.2.1.length⟩
set_option maxHeartbeats 4000000 in
theorem coset_ok (i:Nat) (hi:i<1000000000):
 Does (C:=C0) Tryz.prog (.fn 98) [] [.int .i64 (F.m:Int),.int .i64 (i:Int)]
  [⟨Oq,fun y=>Oqw (cosV F.m i) y,fun y=>.tup [.sl 0 0 (cosV F.m i).length y.2.2.2.2,.nili],fun y=>[oqC true y]⟩]:=by
 obtain ⟨hs,h7,hh⟩:=nF_sz F
 have es:=shl_sz F
 have e1:(szF F:Int) - 1=(nF F:Int):=by omega
 have hby:Tryz.prog.types[3].bytes=8:=by kernel_rfl
 have hN:2 ^ F.m - 1=nF F:=by rw [nF_eq]
 have hC:cosV F.m i=isr (cosR (nF F) (szF F) (i % nF F) []):=by unfold cosV;rw [hN,szF_eq]
 have em:(i:Int).tmod (nF F)=((i % nF F:Nat):Int):=(zb i _).symm
 have em2:((i:Int).tmod (nF F)+(nF F:Int)).tmod (nF F)=((i % nF F:Nat):Int):=by
  rw [em,← Int.natCast_add,← zb,Nat.add_mod_right,Nat.mod_mod]
 have hlt:i % nF F<nF F:=yv _ (by omega)
 have hp0:(F.p:Int)≠0:=fun h=>by
  have:F.p=0:=by omega
  have h2:=F.top
  rw [this,xj] at h2
  cases h2
 refine loc_fn (P:=Tryz.prog) (E:=⟨[fcSort],[pcPolyF F,pcContains],37,[],[],[],none⟩) (L:=[Co6 F (cosR (nF F) (szF F) (i % nF F) [])]) mix Tryz.func98 rfl (by kernel_rfl) (by kernel_rfl) rfl rfl ?_
 ((conv=>arg 1;reduce);with_reducible repeat' first | exact ty | refine ta ?_ ?_ | refine ti fun _ => ?_ | refine tf fun _ => ?_ | refine tl ?_)
 all_goals try exact absurd (ng ‹_›) hp0
 all_goals try exact vlf
 · rw [es,e1,em];exact inR64 (n:=((i % nF F:Nat):Int)+(nF F:Int)) (by omega) (by omega)
 · refine Stands.one ((i % nF F,[],(false,0,0,[],0)):Nat×List Int×Oq) ⟨⟨hlt,vk,(fun x hx=>by cases hx),Oqw.none,by show cosR (nF F) (szF F - 0) _ _=_;rw [rq]⟩,?_⟩
   ((conv=>arg 1;reduce);with_reducible repeat' first | exact ty | refine ta ?_ ?_ | refine ti fun _ => ?_ | refine tf fun _ => ?_ | refine tl ?_)
   all_goals first | exact vlf | (rw [es,e1];exact em2)
 · rename_i d0 x hx
   change Nat×List Int×Oq at x
   obtain ⟨a,L,y⟩:=x
   obtain ⟨k1,k2,k3,k4,k5⟩:a<nF F∧L.Nodup∧(∀ a∈L,0≤a∧a<(nF F:Int))∧Oqw L y∧cosR (nF F) (szF F - L.length) a L=cosR (nF F) (szF F) (i % nF F) []:=hx
   have lL:=nodup_le (nF F) L k2 k3
   have eL:y.2.2.2.1.take L.length=L:=k4.eq
   have c1:L.length≤y.2.2.2.2:=k4.cap
   have c2:y.2.2.2.2≤y.2.2.2.1.length:=k4.len
   exact ⟨by show L.length≤y.2.2.2.1.length;omega,by show L.length<4611686018427387904;omega,k4.nil⟩
 · rename_i d0 x hx d g1
   change Nat×List Int×Oq at x
   obtain ⟨a,L,y⟩:=x
   obtain ⟨k1,k2,k3,k4,k5⟩:a<nF F∧L.Nodup∧(∀ a∈L,0≤a∧a<(nF F:Int))∧Oqw L y∧cosR (nF F) (szF F - L.length) a L=cosR (nF F) (szF F) (i % nF F) []:=hx
   have lL:=nodup_le (nF F) L k2 k3
   have eL:y.2.2.2.1.take L.length=L:=k4.eq
   have c1:L.length≤y.2.2.2.2:=k4.cap
   have c2:y.2.2.2.2≤y.2.2.2.1.length:=k4.len
   rw [hby]
   exact ⟨c1,by show 0+y.2.2.2.2≤y.2.2.2.1.length;omega,zw _,by show (L.length+1)*8≤_;omega⟩
 · rename_i d0 x hx d g1
   change Nat×List Int×Oq at x
   obtain ⟨a,L,y⟩:=x
   obtain ⟨k1,k2,k3,k4,k5⟩:a<nF F∧L.Nodup∧(∀ a∈L,0≤a∧a<(nF F:Int))∧Oqw L y∧cosR (nF F) (szF F - L.length) a L=cosR (nF F) (szF F) (i % nF F) []:=hx
   have lL:=nodup_le (nF F) L k2 k3
   have eL:y.2.2.2.1.take L.length=L:=k4.eq
   have c1:L.length≤y.2.2.2.2:=k4.cap
   have c2:y.2.2.2.2≤y.2.2.2.1.length:=k4.len
   exact k4.nil
 · rename_i d0 x hx d g1 g2 g3 sp k h1 h2
   change Nat×List Int×Oq at x
   obtain ⟨a,L,y⟩:=x
   obtain ⟨k1,k2,k3,k4,k5⟩:a<nF F∧L.Nodup∧(∀ a∈L,0≤a∧a<(nF F:Int))∧Oqw L y∧cosR (nF F) (szF F - L.length) a L=cosR (nF F) (szF F) (i % nF F) []:=hx
   have lL:=nodup_le (nF F) L k2 k3
   have eL:y.2.2.2.1.take L.length=L:=k4.eq
   have c1:L.length≤y.2.2.2.2:=k4.cap
   have c2:y.2.2.2.2≤y.2.2.2.1.length:=k4.len
   exact inR64 (n:=2*(a:Int)) (by omega) (by omega)
 · rename_i d0 x hx d g1 g2 g3 sp k h1 h2
   change Nat×List Int×Oq at x
   obtain ⟨a,L,y⟩:=x
   obtain ⟨k1,k2,k3,k4,k5⟩:a<nF F∧L.Nodup∧(∀ a∈L,0≤a∧a<(nF F:Int))∧Oqw L y∧cosR (nF F) (szF F - L.length) a L=cosR (nF F) (szF F) (i % nF F) []:=hx
   have lL:=nodup_le (nF F) L k2 k3
   have eL:y.2.2.2.1.take L.length=L:=k4.eq
   have c1:L.length≤y.2.2.2.2:=k4.cap
   have c2:y.2.2.2.2≤y.2.2.2.1.length:=k4.len
   change List Int at sp
   have d:(!anyF (eqI (a:Int)) (y.2.2.2.1.take L.length))=true:=d
   rw [eL,any_has,Bool.not_eq_true'] at d
   have hm:¬ (a:Int)∈L:=fun h=>by rw [List.contains_iff_mem.2 h] at d;cases d
   have h1:L.length+1≤k:=h1
   have h2:k≤L.length+1+sp.length:=h2
   refine Stands.one ((2*a % nF F,L ++ [(a:Int)],(true,g2,g3,y.2.2.2.1.take L.length ++ [(a:Int)] ++ sp,k)):Nat×List Int×Oq) ⟨⟨yv _ (by omega),?_,?_,k4.snoc _ _ _ _ _ sp _ rfl h1 h2 rfl,?_⟩,?_,?_⟩
   · refine List.nodup_append.2 ⟨k2,rj ..,fun u hu v hv => ?_⟩
     rw [wq] at hv
     intro e
     exact hm (hv ▸ e ▸ hu)
   · intro u hu
     rcases List.mem_append.1 hu with hu | hu
     · exact k3 u hu
     · rw [wq] at hu;omega
   · show cosR (nF F) (szF F - (L ++ [(a:Int)]).length) (2*a % nF F) (L ++ [(a:Int)])=_
     rw [← k5,zx,show szF F - L.length=(szF F - (L.length+1))+1 by omega]
     show _=if L.contains (a:Int) then L else _
     rw [d]
     rfl
   · show szF F - (L ++ [(a:Int)]).length<szF F - L.length
     rw [zx]
     show szF F - (L.length+1)<_
     omega
   ((conv=>arg 1;reduce);with_reducible repeat' first | exact ty | refine ta ?_ ?_ | refine ti fun _ => ?_ | refine tf fun _ => ?_ | refine tl ?_)
   all_goals first
    | exact vlf
    | (show (L ++ [(a:Int)]).length=L.length+1;rw [zx];rfl)
    | (show L.length+1=(L ++ [(a:Int)]).length;rw [zx];rfl)
    | (rw [es,e1];exact (zb (2*a) (nF F)).symm)
    | (rw [es,e1];show (2*(a:Int)).tmod (nF F)=_;rw [show (2*(a:Int))=((2*a:Nat):Int) by omega];exact (zb (2*a) (nF F)).symm)
 · rename_i d0 x hx d
   change Nat×List Int×Oq at x
   obtain ⟨a,L,y⟩:=x
   obtain ⟨k1,k2,k3,k4,k5⟩:a<nF F∧L.Nodup∧(∀ a∈L,0≤a∧a<(nF F:Int))∧Oqw L y∧cosR (nF F) (szF F - L.length) a L=cosR (nF F) (szF F) (i % nF F) []:=hx
   have lL:=nodup_le (nF F) L k2 k3
   have eL:y.2.2.2.1.take L.length=L:=k4.eq
   have c1:L.length≤y.2.2.2.2:=k4.cap
   have c2:y.2.2.2.2≤y.2.2.2.1.length:=k4.len
   exact ⟨by show L.length≤y.2.2.2.1.length;omega,by show L.length<4611686018427387904;omega,k4.nil⟩
 · rename_i d0 x hx d u hu
   change Nat×List Int×Oq at x
   obtain ⟨a,L,y⟩:=x
   obtain ⟨k1,k2,k3,k4,k5⟩:a<nF F∧L.Nodup∧(∀ a∈L,0≤a∧a<(nF F:Int))∧Oqw L y∧cosR (nF F) (szF F - L.length) a L=cosR (nF F) (szF F) (i % nF F) []:=hx
   have lL:=nodup_le (nF F) L k2 k3
   have eL:y.2.2.2.1.take L.length=L:=k4.eq
   have c1:L.length≤y.2.2.2.2:=k4.cap
   have c2:y.2.2.2.2≤y.2.2.2.1.length:=k4.len
   have d:(!anyF (eqI (a:Int)) (y.2.2.2.1.take L.length))=false:=d
   rw [eL,any_has,Bool.not_eq_false'] at d
   have eC:L=cosR (nF F) (szF F) (i % nF F) []:=by
    rw [← k5,show szF F - L.length=(szF F - L.length - 1)+1 by omega]
    show L=if L.contains (a:Int) then L else _
    rw [d]
    rfl
   have eV:srt L=cosV F.m i:=by rw [hC,← eC,srt_isr]
   have lV:(cosV F.m i).length=L.length:=by rw [← eV,srt_len]
   refine Ends.one ((y.1,y.2.1,y.2.2.1,srt L ++ y.2.2.2.1.drop L.length,y.2.2.2.2):Oq) ⟨?_,?_,?_,?_⟩ ?_
   · show (srt L ++ _).take (cosV F.m i).length=_
     rw [← eV,vj rfl]
   · show (cosV F.m i).length≤y.2.2.2.2;omega
   · show y.2.2.2.2≤(srt L ++ y.2.2.2.1.drop L.length).length
     rw [zx,srt_len,wk];omega
   · intro h0
     have:=k4.nil h0
     rw [lV]
     exact this
   ((conv=>arg 1;reduce);with_reducible repeat' first | exact ty | refine ta ?_ ?_ | refine ti fun _ => ?_ | refine tf fun _ => ?_ | refine tl ?_)
   all_goals first
    | exact vlf
    | exact lV
    | exact lV.symm
    | (show srt (y.2.2.2.1.take L.length) ++ _=_;rw [eL])
    | (show _=srt (y.2.2.2.1.take L.length) ++ _;rw [eL])
    | (show _=castL _ _;show srt L ++ _=srt (y.2.2.2.1.take L.length) ++ _;rw [eL])
def fcCoset:Fc Tryz.prog C0 where
 tg:=.fn 98
 X:=Int
 args i:=[.int .i64 (F.m:Int),.int .i64 i]
 mem _:=[]
 pre i:=0≤i∧i<1000000000
 alts i:=[⟨Oq,fun y=>Oqw (cosV F.m i.toNat) y,fun y=>.tup [.sl 0 0 (cosV F.m i.toNat).length y.2.2.2.2,.nili],fun y=>[oqC true y]⟩]
 mat vs m:=match vs with
  | [.int _ _,.int _ i]=>some (i,[])
  | _=>none
 ok:=fun i h=>by
  obtain ⟨i,rfl⟩:=yh h.1
  exact coset_ok F i (Int.ofNat_lt.1 h.2)
end
end
end Go.Vx
