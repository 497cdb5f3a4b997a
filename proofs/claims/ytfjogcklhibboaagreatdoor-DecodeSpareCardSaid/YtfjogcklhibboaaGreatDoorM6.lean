/-
  Round 10: the walk of Berlekamp and Massey over syndromes: locate.walk.
  Maps, plainly: what is found behind an update, a deletion; the entries' stamps.
  Round 10: the search of roots: search.begun, look.chien.
  Round 10: the roots found: look.roots over look.chien's rounds.
  Round 10: the search of roots az a whole: search.Search.
  Round 10: syndromes that are all 0: syndrome.Clean.
  Round 10: what a Code tells of itself.
  Round 10: syndromes of places: syndrome.values.
  Round 10: syndromes of what was read: syndrome.Of.
  Round 10: polynomials over two elements az bytes: binpoly.Bit.
  Round 10: bytes az numbers whose bits are coefficients: plain facts.
  Round 10: polynomials over two elements az bytes: binpoly's trimmed, Degree.
  Round 10: binpoly's Exponents.
  The register of a division az bytes: a bit, a byte that comes to it: plain facts.
  Round 10: a shifted polynomial is added to bytes: plain facts.
  Round 10: binpoly's into.
  Conditions: none.
-/
import Derived.Test.YtfjogcklhibboaaGreatDoorM2
import Derived.Test.YtfjogcklhibboaaGreatDoorM4
import Derived.Test.YtfjogcklhibboaaGreatDoorM5
open Bool renaming false_and → yu, or_eq_true → xw, true_and → yw, xor_false → vo
open Int renaming eq_ofNat_of_zero_le → yh, natCast_nonneg → vy, ofNat_tdiv → ym, ofNat_tmod → zb, toNat_natCast → zo
open List renaming drop → yg, drop_zero → zq, ext_getElem → wn, filter_append → sk, getD_eq_getElem?_getD → zy, getElem?_eq_getElem → zt, getElem?_eq_none → yr, getElem?_map → zh, getElem?_range → wq, getElem_map → th, getElem_mem → xi, getElem_range → sj, length → wh, length_append → zu, length_cons → xq, length_filter_le → qr, length_map → zm, length_replicate → ye, length_set → zg, length_take → zd, map_append → vk, map_congr_left → xh, range → xj, range_succ → ue, replicate → zw, take → yn, take_left' → vh
open Nat renaming add_zero → yx, and_one_is_mod → rp, blt → xz, div_le_self → si, eq_of_testBit_eq → vx, le_of_not_lt → ve, le_refl → zx, le_trans → xk, lt_irrefl → ua, lt_of_le_of_lt → vw, lt_of_lt_of_le → zk, min_eq_left → ww, mod_lt → zc, not_lt_zero → wy, pow_le_pow_right → zi, shiftLeft_eq → ul, testBit_div_two_pow → oy, testBit_eq_decide_div_mod_eq → xb, testBit_lt_two_pow → xp, testBit_mod_two_pow → sx, testBit_shiftLeft → vm, testBit_xor → wi, two_pow_pos → yd, xor_lt_two_pow → vc, xor_zero → tb, zero_add → wo, zero_le → ze, zero_shiftLeft → nt, zero_testBit → xa
open Option renaming getD_some → xy, map_some → yk
set_option linter.unusedVariables false
set_option linter.unusedSimpArgs false
set_option linter.unusedSectionVars false
set_option maxRecDepth 100000
namespace Go.Vx
open Go Go.Proofs
noncomputable section
variable [Gl]
section
variable (F:Gf)
@[irreducible] def bC (S:List Int) (n:Nat):List Int:=vis (bmN (els F S) n).C
@[irreducible] def bB (S:List Int) (n:Nat):List Int:=vis (bmN (els F S) n).B
@[irreducible] def bL (S:List Int) (n:Nat):Nat:=(bmN (els F S) n).L
@[irreducible] def bK (S:List Int) (n:Nat):Nat:=(bmN (els F S) n).k
@[irreducible] def bE (S:List Int) (n:Nat):Int:=vi (bmN (els F S) n).e
@[irreducible] def bD (S:List Int) (n:Nat):Int:=vi (bmD (els F S) n (bmN (els F S) n))
variable {F}
theorem bm_zero {S:List Int}:bC F S 0=[1]∧bB F S 0=[1]∧bL F S 0=0∧bK F S 0=1∧bE F S 0=1:=by
 unfold bC bB bL bK bE
 exact ⟨rfl,rfl,rfl,rfl,rfl⟩
theorem bm_fit' {S:List Int} {n:Nat}:bL F S n≤n∧1≤bK F S n∧bK F S n≤n+1∧(bC F S n).length≤n+1∧(bB F S n).length≤n+1∧loI F (bE F S n)≠0:=by
 have h1:=bmN_le (els F S) n
 have h2:=bmN_len (els F S) n
 have h3:=bmN_e (els F S) n
 unfold bC bB bL bK bE
 refine ⟨h1.1,h1.2.1,h1.2.2,?_,?_,?_⟩
 · rw [zm];exact h2.1
 · rw [zm];exact h2.2.1
 · rw [loI_eq,el_vi]
   exact fun e=>h3 (vi_zero.1 e)
theorem bD_eq {S:List Int} {n:Nat}:loI F (ibit .xor .i64 (smV F (bC F S n) S n (bL F S n+1)) 0)=bD F S n:=by
 rw [lo_x0]
 unfold bD smV bC bL
 rw [loI_eq,el_vi,els_vis]
 rfl
theorem st_eq {S:List Int} {n:Nat}:stL F (bC F S n) (zw (bK F S n) 0 ++ bB F S n) (bD F S n) (bE F S n)=vis (bmC (bmN (els F S) n) (bmD (els F S) n (bmN (els F S) n))):=by
 unfold stL adL scL bC bB bK bD bE bmC
 have e0:el F 0=Fd.zr:=El.ext (by show lw F.m 0=0;unfold lw;simp)
 have e1:∀ (k:Nat) (B:List (El F)),els F (zw k 0 ++ vis B)=shP k B:=fun k B=>by
  show (zw k (0:Int) ++ vis B).map (el F)=_
  rw [vk,List.map_replicate,e0]
  unfold shP
  exact congrArg _ (els_vis B)
 rw [muI_eq,ivI_eq,els_vis,els_vis,e1,el_vi,el_vi,el_vi,el_vi]
theorem bm_skip {S:List Int} {n:Nat} (h:bD F S n=0):bC F S (n+1)=bC F S n∧bB F S (n+1)=bB F S n∧bL F S (n+1)=bL F S n∧bK F S (n+1)=bK F S n+1∧bE F S (n+1)=bE F S n:=by
 unfold bD at h
 have h:=vi_zero.1 h
 unfold bC bB bL bK bE
 have e:bmN (els F S) (n+1)=bmS (els F S) n (bmN (els F S) n):=rfl
 rw [e]
 unfold bmS
 rw [if_pos h]
 exact ⟨rfl,rfl,rfl,rfl,rfl⟩
theorem bm_near {S:List Int} {n:Nat} (h:bD F S n≠0) (hl:n<2*bL F S n):bC F S (n+1)=stL F (bC F S n) (zw (bK F S n) 0 ++ bB F S n) (bD F S n) (bE F S n)∧bB F S (n+1)=bB F S n∧bL F S (n+1)=bL F S n∧bK F S (n+1)=bK F S n+1∧bE F S (n+1)=bE F S n:=by
 rw [st_eq]
 unfold bD at h
 unfold bL at hl
 have h:=fun e=>h (vi_zero.2 e)
 unfold bC bB bL bK bE
 have e:bmN (els F S) (n+1)=bmS (els F S) n (bmN (els F S) n):=rfl
 rw [e]
 unfold bmS
 rw [if_neg h,if_pos hl]
 exact ⟨rfl,rfl,rfl,rfl,rfl⟩
theorem bm_far {S:List Int} {n:Nat} (h:bD F S n≠0) (hl:¬ n<2*bL F S n):bC F S (n+1)=stL F (bC F S n) (zw (bK F S n) 0 ++ bB F S n) (bD F S n) (bE F S n)∧bB F S (n+1)=bC F S n∧bL F S (n+1)=n+1 - bL F S n∧bK F S (n+1)=1∧bE F S (n+1)=bD F S n:=by
 rw [st_eq]
 unfold bD at h
 unfold bL at hl
 have h:=fun e=>h (vi_zero.2 e)
 unfold bC bB bL bK bE bD
 have e:bmN (els F S) (n+1)=bmS (els F S) n (bmN (els F S) n):=rfl
 rw [e]
 unfold bmS
 rw [if_neg h,if_neg hl]
 exact ⟨rfl,rfl,rfl,rfl,rfl⟩
theorem wk_v {S l:List Int} {j i z:Nat} {y:Os} (h:Ow (bC F S j) y) (e:(l.drop i).take z=S):loI F (ibit .xor .i64 (smV F (yn (bC F S j).length (yg 0 y.2.2.1)) (yn z (yg i l)) (j:Int).toNat ((bL F S j:Int).toNat+1)) 0)=bD F S j:=by
 rw [zq,h.eq,e,zo,zo,bD_eq]
theorem wk_s {S l sp:List Int} {j i z:Nat} {y y':Os} (h:Ow (bC F S j) y) (h':Ow (bB F S j) y') (e:(l.drop i).take z=S):
 stL F (yn (bC F S j).length (yg 0 y.2.2.1)) (yn ((bK F S j:Int).toNat+(bB F S j).length) (yg 0 (zw (bK F S j:Int).toNat 0 ++ yn (bB F S j).length (yg 0 y'.2.2.1) ++ sp)))
  (loI F (ibit .xor .i64 (smV F (yn (bC F S j).length (yg 0 y.2.2.1)) (yn z (yg i l)) (j:Int).toNat ((bL F S j:Int).toNat+1)) 0)) (bE F S j)=stL F (bC F S j) (zw (bK F S j) 0 ++ bB F S j) (bD F S j) (bE F S j):=by
 rw [wk_v h e,zq,h.eq,zq,zq,h'.eq,zo,vh (by simp)]
variable (F)
def Wk6 (S:List Int):Inv' C0:=⟨6,Nat×Os×Os,fun x=>[(9,.sl 8 0 (bC F S x.1).length x.2.1.2.2.2),(10,.sl 9 0 (bB F S x.1).length x.2.2.2.2.2),(11,.int .i64 (bL F S x.1:Int)),(12,.int .i64 (bK F S x.1:Int)),(13,.int .i64 (bE F S x.1)),(28,.int .i64 (x.1:Int)),(24,.junk),(25,.junk)],fun x m=>match m with
 | [a0,a1,a2,a3,a4,a5,a6,a7,_,_]=>[a0,a1,a2,a3,a4,a5,a6,a7,osC true x.2.1,osC true x.2.2]
 | m=>m,fun x=>x.1≤S.length∧Ow (bC F S x.1) x.2.1∧Ow (bB F S x.1) x.2.2,fun x=>S.length - x.1⟩
@[irreducible] def wkL (S:List Int):List Int:=trL F (bC F S S.length)
@[irreducible] def wkN (S:List Int):Nat:=bL F S S.length
set_option maxHeartbeats 4000000 in
theorem walk_ok (b1 q1 b2 q2 bR qR bF qF be qe bl ql:Nat) (o:Bool) (b q:Nat) (l:List Int) (i n c:Nat) (h:i+n≤l.length) (hn:n<1000000000) (hc:n≤c) (ho:o=false→n=0∧c=0) (S:List Int) (hS:(l.drop i).take (min n 80)=S):
 Does (C:=C0) Tryz.prog (.fn 85) ([⟨b1,q1,1,false,none,.one [.ptr 3 0 0]⟩,⟨b2,q2,1,false,none,.one [.ptr 2 0 0]⟩] ++ rgC F bR qR bF qF be qe bl ql 2 ++ [⟨b,q,1,false,some o,.rows 3 l⟩]) [.ptr 3 0 0,.sl 6 i n c,.fn (.func 86) [] [.ptr 0 0 0,.ptr 1 0 0]]
  [⟨Os,fun y=>Ow (wkL F S) y,fun y=>.tup [.sl 7 0 (wkL F S).length y.2.2.2,.int .i64 (wkN F S:Int)],fun y=>[⟨b1,q1,1,false,none,.one [.ptr 3 0 0]⟩,⟨b2,q2,1,false,none,.one [.ptr 2 0 0]⟩] ++ rgC F bR qR bF qF be qe bl ql 2 ++ [⟨b,q,1,false,some o,.rows 3 l⟩,osC true y]⟩]:=by
 have hSl:S.length=min n 80:=by rw [← hS];exact row_len (by omega)
 have hS':(l.drop i).take (min (n:Int) 80).toNat=S:=by rw [← hS];congr 1;omega
 refine loc_fn (P:=Tryz.prog) (E:=⟨[fcRing,fcShift,fcStep F,fcTrim F],[pcSum F,pcAdd F],70,[],[],[],none⟩) (L:=[Wk6 F S]) mix Tryz.func85 rfl (by kernel_rfl) (by kernel_rfl) rfl rfl ?_
 ((conv=>arg 1;reduce);with_reducible repeat' first | exact ty | refine ta ?_ ?_ | refine ti fun _ => ?_ | refine tf fun _ => ?_ | refine tl ?_)
 all_goals try exact vlf
 · rename_i r hr p1 p2
   obtain ⟨z1,z2,z3,z4,z5⟩:=bm_zero (F:=F) (S:=S)
   refine Stands.one ((0,(true,p1,[1],1),(true,p2,[1],1)):Nat×Os×Os) ⟨⟨ze _,?_,?_⟩,?_⟩
   · show Ow (bC F S 0) _
     rw [z1];exact ⟨rfl,zx _,zx _,fun h=>by cases h⟩
   · show Ow (bB F S 0) _
     rw [z2];exact ⟨rfl,zx _,zx _,fun h=>by cases h⟩
   ((conv=>arg 1;reduce);with_reducible repeat' first | exact ty | refine ta ?_ ?_ | refine ti fun _ => ?_ | refine tf fun _ => ?_ | refine tl ?_)
   all_goals first | exact vlf | (show 1=(bC F S 0).length;rw [z1];rfl) | (show 1=(bB F S 0).length;rw [z2];rfl) | (show (1:Int)=(bK F S 0:Int);rw [z4];rfl) | (show (0:Int)=(bL F S 0:Int);rw [z3];rfl) | (show (1:Int)=bE F S 0;rw [z5])
 · rename_i r hr p1 p2 x hx d1
   obtain ⟨j,yC,yB⟩:=x
   obtain ⟨k1,kC,kB⟩:j≤S.length∧Ow (bC F S j) yC∧Ow (bB F S j) yB:=hx
   obtain ⟨f1,f2,f3,f4,f5,f6⟩:=bm_fit' (F:=F) (S:=S) (n:=j)
   have d1:(j:Int)<((min (n:Int) 80).toNat:Int):=ng d1
   have c1:=kC.cap
   have c2:=kC.len
   refine ⟨⟨⟨by show 0+(bC F S j).length≤yC.2.2.1.length;omega,by show (bC F S j).length<1000000000;omega,kC.nil⟩,by show i+(min (n:Int) 80).toNat≤l.length;omega,by show (min (n:Int) 80).toNat<1000000000;omega,fun h0 => ?_⟩,vy _,Int.ofNat_le.2 f1,d1⟩
   have:=ho h0
   exact ⟨by show (min (n:Int) 80).toNat=0;omega,this.2⟩
 · rename_i r hr p1 p2 x hx d1 d2
   obtain ⟨j,yC,yB⟩:=x
   obtain ⟨k1,kC,kB⟩:j≤S.length∧Ow (bC F S j) yC∧Ow (bB F S j) yB:=hx
   obtain ⟨f1,f2,f3,f4,f5,f6⟩:=bm_fit' (F:=F) (S:=S) (n:=j)
   have d1:(j:Int)<((min (n:Int) 80).toNat:Int):=ng d1
   have d2:decide (loI F (ibit .xor .i64 (smV F (yn (bC F S j).length (yg 0 yC.2.2.1)) (yn (min (n:Int) 80).toNat (yg i l)) (j:Int).toNat ((bL F S j:Int).toNat+1)) 0)=0)=true:=d2
   rw [wk_v kC hS'] at d2
   exact inR64 (n:=(bK F S j:Int)+1) (by omega) (by omega)
 · rename_i r hr p1 p2 x hx d1 d2
   obtain ⟨j,yC,yB⟩:=x
   obtain ⟨k1,kC,kB⟩:j≤S.length∧Ow (bC F S j) yC∧Ow (bB F S j) yB:=hx
   obtain ⟨f1,f2,f3,f4,f5,f6⟩:=bm_fit' (F:=F) (S:=S) (n:=j)
   have d1:(j:Int)<((min (n:Int) 80).toNat:Int):=ng d1
   have d2:decide (loI F (ibit .xor .i64 (smV F (yn (bC F S j).length (yg 0 yC.2.2.1)) (yn (min (n:Int) 80).toNat (yg i l)) (j:Int).toNat ((bL F S j:Int).toNat+1)) 0)=0)=true:=d2
   rw [wk_v kC hS'] at d2
   exact inR64 (n:=(j:Int)+1) (by omega) (by omega)
 · rename_i r hr p1 p2 x hx d1 d2
   obtain ⟨j,yC,yB⟩:=x
   obtain ⟨k1,kC,kB⟩:j≤S.length∧Ow (bC F S j) yC∧Ow (bB F S j) yB:=hx
   obtain ⟨f1,f2,f3,f4,f5,f6⟩:=bm_fit' (F:=F) (S:=S) (n:=j)
   have d1:(j:Int)<((min (n:Int) 80).toNat:Int):=ng d1
   have d2:decide (loI F (ibit .xor .i64 (smV F (yn (bC F S j).length (yg 0 yC.2.2.1)) (yn (min (n:Int) 80).toNat (yg i l)) (j:Int).toNat ((bL F S j:Int).toNat+1)) 0)=0)=true:=d2
   rw [wk_v kC hS'] at d2
   obtain ⟨s1,s2,s3,s4,s5⟩:=bm_skip (ng d2)
   refine Stands.one ((j+1,yC,yB):Nat×Os×Os) ⟨⟨by show j+1≤S.length;omega,by show Ow (bC F S (j+1)) yC;rw [s1];exact kC,by show Ow (bB F S (j+1)) yB;rw [s2];exact kB⟩,by show S.length - (j+1)<S.length - j;omega,?_⟩
   ((conv=>arg 1;reduce);with_reducible repeat' first | exact ty | refine ta ?_ ?_ | refine ti fun _ => ?_ | refine tf fun _ => ?_ | refine tl ?_)
   all_goals first
    | exact vlf
    | (show (bC F S j).length=(bC F S (j+1)).length;rw [s1])
    | (show (bB F S j).length=(bB F S (j+1)).length;rw [s2])
    | (show (bL F S j:Int)=(bL F S (j+1):Int);rw [s3])
    | (show (bK F S j:Int)+1=(bK F S (j+1):Int);rw [s4];rfl)
    | (show bE F S j=bE F S (j+1);rw [s5])
 · rename_i r hr p1 p2 x hx d1 d2
   obtain ⟨j,yC,yB⟩:=x
   obtain ⟨k1,kC,kB⟩:j≤S.length∧Ow (bC F S j) yC∧Ow (bB F S j) yB:=hx
   obtain ⟨f1,f2,f3,f4,f5,f6⟩:=bm_fit' (F:=F) (S:=S) (n:=j)
   have d1:(j:Int)<((min (n:Int) 80).toNat:Int):=ng d1
   have d2:decide (loI F (ibit .xor .i64 (smV F (yn (bC F S j).length (yg 0 yC.2.2.1)) (yn (min (n:Int) 80).toNat (yg i l)) (j:Int).toNat ((bL F S j:Int).toNat+1)) 0)=0)=false:=d2
   rw [wk_v kC hS'] at d2
   have c1:=kB.cap
   have c2:=kB.len
   have c3:=kC.cap
   have c4:=kC.len
   exact ⟨⟨by show 0+(bB F S j).length≤yB.2.2.1.length;omega,by show (bB F S j).length<1000000000;omega,kB.nil⟩,vy _,by show (bK F S j:Int)<1000000000;omega⟩
 · rename_i r hr p1 p2 x hx d1 d2 z hz
   obtain ⟨j,yC,yB⟩:=x
   obtain ⟨k1,kC,kB⟩:j≤S.length∧Ow (bC F S j) yC∧Ow (bB F S j) yB:=hx
   obtain ⟨f1,f2,f3,f4,f5,f6⟩:=bm_fit' (F:=F) (S:=S) (n:=j)
   have d1:(j:Int)<((min (n:Int) 80).toNat:Int):=ng d1
   have d2:decide (loI F (ibit .xor .i64 (smV F (yn (bC F S j).length (yg 0 yC.2.2.1)) (yn (min (n:Int) 80).toNat (yg i l)) (j:Int).toNat ((bL F S j:Int).toNat+1)) 0)=0)=false:=d2
   rw [wk_v kC hS'] at d2
   have c1:=kB.cap
   have c2:=kB.len
   have c3:=kC.cap
   have c4:=kC.len
   refine ⟨⟨⟨by show 0+(bC F S j).length≤yC.2.2.1.length;omega,by show (bC F S j).length<1000000000;omega,kC.nil⟩,?_,by show (bK F S j:Int).toNat+(bB F S j).length<1000000000;omega,fun h0=>by cases h0⟩,f6⟩
   show 0+((bK F S j:Int).toNat+(bB F S j).length)≤(zw (bK F S j:Int).toNat 0 ++ yn (bB F S j).length (yg 0 yB.2.2.1) ++ z.2.2.1).length
   rw [zq,kB.eq,zu,zu,ye]
   omega
 · rename_i r hr p1 p2 x hx d1 d2 z hz y hy
   obtain ⟨j,yC,yB⟩:=x
   obtain ⟨k1,kC,kB⟩:j≤S.length∧Ow (bC F S j) yC∧Ow (bB F S j) yB:=hx
   obtain ⟨f1,f2,f3,f4,f5,f6⟩:=bm_fit' (F:=F) (S:=S) (n:=j)
   have d1:(j:Int)<((min (n:Int) 80).toNat:Int):=ng d1
   have d2:decide (loI F (ibit .xor .i64 (smV F (yn (bC F S j).length (yg 0 yC.2.2.1)) (yn (min (n:Int) 80).toNat (yg i l)) (j:Int).toNat ((bL F S j:Int).toNat+1)) 0)=0)=false:=d2
   rw [wk_v kC hS'] at d2
   exact inR64 (n:=2*(bL F S j:Int)) (by omega) (by omega)
 · rename_i r hr p1 p2 x hx d1 d2 z hz y hy d3
   obtain ⟨j,yC,yB⟩:=x
   obtain ⟨k1,kC,kB⟩:j≤S.length∧Ow (bC F S j) yC∧Ow (bB F S j) yB:=hx
   obtain ⟨f1,f2,f3,f4,f5,f6⟩:=bm_fit' (F:=F) (S:=S) (n:=j)
   have d1:(j:Int)<((min (n:Int) 80).toNat:Int):=ng d1
   have d2:decide (loI F (ibit .xor .i64 (smV F (yn (bC F S j).length (yg 0 yC.2.2.1)) (yn (min (n:Int) 80).toNat (yg i l)) (j:Int).toNat ((bL F S j:Int).toNat+1)) 0)=0)=false:=d2
   rw [wk_v kC hS'] at d2
   exact inR64 (n:=(bK F S j:Int)+1) (by omega) (by omega)
 · rename_i r hr p1 p2 x hx d1 d2 z hz y hy d3
   obtain ⟨j,yC,yB⟩:=x
   obtain ⟨k1,kC,kB⟩:j≤S.length∧Ow (bC F S j) yC∧Ow (bB F S j) yB:=hx
   obtain ⟨f1,f2,f3,f4,f5,f6⟩:=bm_fit' (F:=F) (S:=S) (n:=j)
   have d1:(j:Int)<((min (n:Int) 80).toNat:Int):=ng d1
   have d2:decide (loI F (ibit .xor .i64 (smV F (yn (bC F S j).length (yg 0 yC.2.2.1)) (yn (min (n:Int) 80).toNat (yg i l)) (j:Int).toNat ((bL F S j:Int).toNat+1)) 0)=0)=false:=d2
   rw [wk_v kC hS'] at d2
   exact inR64 (n:=(j:Int)+1) (by omega) (by omega)
 · rename_i r hr p1 p2 x hx d1 d2 z hz y hy d3
   obtain ⟨j,yC,yB⟩:=x
   obtain ⟨k1,kC,kB⟩:j≤S.length∧Ow (bC F S j) yC∧Ow (bB F S j) yB:=hx
   obtain ⟨f1,f2,f3,f4,f5,f6⟩:=bm_fit' (F:=F) (S:=S) (n:=j)
   have d1:(j:Int)<((min (n:Int) 80).toNat:Int):=ng d1
   have d2:decide (loI F (ibit .xor .i64 (smV F (yn (bC F S j).length (yg 0 yC.2.2.1)) (yn (min (n:Int) 80).toNat (yg i l)) (j:Int).toNat ((bL F S j:Int).toNat+1)) 0)=0)=false:=d2
   rw [wk_v kC hS'] at d2
   have d3:(j:Int)<2*(bL F S j:Int):=ng d3
   have hy:Ow (stL F (yn (bC F S j).length (yg 0 yC.2.2.1)) (yn ((bK F S j:Int).toNat+(bB F S j).length) (yg 0 (zw (bK F S j:Int).toNat 0 ++ yn (bB F S j).length (yg 0 yB.2.2.1) ++ z.2.2.1)))
    (loI F (ibit .xor .i64 (smV F (yn (bC F S j).length (yg 0 yC.2.2.1)) (yn (min (n:Int) 80).toNat (yg i l)) (j:Int).toNat ((bL F S j:Int).toNat+1)) 0)) (bE F S j)) y:=hy
   have es:=wk_s (sp:=z.2.2.1) kC kB hS'
   rw [es] at hy
   obtain ⟨s1,s2,s3,s4,s5⟩:=bm_near (nf d2) (show j<2*bL F S j by omega)
   refine Stands.one ((j+1,y,yB):Nat×Os×Os) ⟨⟨by show j+1≤S.length;omega,by show Ow (bC F S (j+1)) y;rw [s1];exact hy,by show Ow (bB F S (j+1)) yB;rw [s2];exact kB⟩,by show S.length - (j+1)<S.length - j;omega,?_⟩
   ((conv=>arg 1;reduce);with_reducible repeat' first | exact ty | refine ta ?_ ?_ | refine ti fun _ => ?_ | refine tf fun _ => ?_ | refine tl ?_)
   all_goals first
    | exact vlf
    | (show _=(bC F S (j+1)).length;rw [s1];exact congrArg wh es)
    | (show (bB F S j).length=(bB F S (j+1)).length;rw [s2])
    | (show (bL F S j:Int)=(bL F S (j+1):Int);rw [s3])
    | (show (bK F S j:Int)+1=(bK F S (j+1):Int);rw [s4];rfl)
    | (show bE F S j=bE F S (j+1);rw [s5])
 · rename_i r hr p1 p2 x hx d1 d2 z hz y hy d3
   obtain ⟨j,yC,yB⟩:=x
   obtain ⟨k1,kC,kB⟩:j≤S.length∧Ow (bC F S j) yC∧Ow (bB F S j) yB:=hx
   obtain ⟨f1,f2,f3,f4,f5,f6⟩:=bm_fit' (F:=F) (S:=S) (n:=j)
   have d1:(j:Int)<((min (n:Int) 80).toNat:Int):=ng d1
   have d2:decide (loI F (ibit .xor .i64 (smV F (yn (bC F S j).length (yg 0 yC.2.2.1)) (yn (min (n:Int) 80).toNat (yg i l)) (j:Int).toNat ((bL F S j:Int).toNat+1)) 0)=0)=false:=d2
   rw [wk_v kC hS'] at d2
   exact inR64 (n:=(j:Int)+1) (by omega) (by omega)
 · rename_i r hr p1 p2 x hx d1 d2 z hz y hy d3
   obtain ⟨j,yC,yB⟩:=x
   obtain ⟨k1,kC,kB⟩:j≤S.length∧Ow (bC F S j) yC∧Ow (bB F S j) yB:=hx
   obtain ⟨f1,f2,f3,f4,f5,f6⟩:=bm_fit' (F:=F) (S:=S) (n:=j)
   have d1:(j:Int)<((min (n:Int) 80).toNat:Int):=ng d1
   have d2:decide (loI F (ibit .xor .i64 (smV F (yn (bC F S j).length (yg 0 yC.2.2.1)) (yn (min (n:Int) 80).toNat (yg i l)) (j:Int).toNat ((bL F S j:Int).toNat+1)) 0)=0)=false:=d2
   rw [wk_v kC hS'] at d2
   exact inR64 (n:=(j:Int)+1 - (bL F S j:Int)) (by omega) (by omega)
 · rename_i r hr p1 p2 x hx d1 d2 z hz y hy d3
   obtain ⟨j,yC,yB⟩:=x
   obtain ⟨k1,kC,kB⟩:j≤S.length∧Ow (bC F S j) yC∧Ow (bB F S j) yB:=hx
   obtain ⟨f1,f2,f3,f4,f5,f6⟩:=bm_fit' (F:=F) (S:=S) (n:=j)
   have d1:(j:Int)<((min (n:Int) 80).toNat:Int):=ng d1
   have d2:decide (loI F (ibit .xor .i64 (smV F (yn (bC F S j).length (yg 0 yC.2.2.1)) (yn (min (n:Int) 80).toNat (yg i l)) (j:Int).toNat ((bL F S j:Int).toNat+1)) 0)=0)=false:=d2
   rw [wk_v kC hS'] at d2
   exact inR64 (n:=(j:Int)+1) (by omega) (by omega)
 · rename_i r hr p1 p2 x hx d1 d2 z hz y hy d3
   obtain ⟨j,yC,yB⟩:=x
   obtain ⟨k1,kC,kB⟩:j≤S.length∧Ow (bC F S j) yC∧Ow (bB F S j) yB:=hx
   obtain ⟨f1,f2,f3,f4,f5,f6⟩:=bm_fit' (F:=F) (S:=S) (n:=j)
   have d1:(j:Int)<((min (n:Int) 80).toNat:Int):=ng d1
   have d2:decide (loI F (ibit .xor .i64 (smV F (yn (bC F S j).length (yg 0 yC.2.2.1)) (yn (min (n:Int) 80).toNat (yg i l)) (j:Int).toNat ((bL F S j:Int).toNat+1)) 0)=0)=false:=d2
   rw [wk_v kC hS'] at d2
   have d3:¬ (j:Int)<2*(bL F S j:Int):=nf d3
   have hy:Ow (stL F (yn (bC F S j).length (yg 0 yC.2.2.1)) (yn ((bK F S j:Int).toNat+(bB F S j).length) (yg 0 (zw (bK F S j:Int).toNat 0 ++ yn (bB F S j).length (yg 0 yB.2.2.1) ++ z.2.2.1)))
    (loI F (ibit .xor .i64 (smV F (yn (bC F S j).length (yg 0 yC.2.2.1)) (yn (min (n:Int) 80).toNat (yg i l)) (j:Int).toNat ((bL F S j:Int).toNat+1)) 0)) (bE F S j)) y:=hy
   have es:=wk_s (sp:=z.2.2.1) kC kB hS'
   rw [es] at hy
   have ev:=wk_v kC hS'
   obtain ⟨s1,s2,s3,s4,s5⟩:=bm_far (nf d2) (show ¬ j<2*bL F S j by omega)
   refine Stands.one ((j+1,y,yC):Nat×Os×Os) ⟨⟨by show j+1≤S.length;omega,by show Ow (bC F S (j+1)) y;rw [s1];exact hy,by show Ow (bB F S (j+1)) yC;rw [s2];exact kC⟩,by show S.length - (j+1)<S.length - j;omega,?_⟩
   ((conv=>arg 1;reduce);with_reducible repeat' first | exact ty | refine ta ?_ ?_ | refine ti fun _ => ?_ | refine tf fun _ => ?_ | refine tl ?_)
   all_goals first
    | exact vlf
    | (show _=(bC F S (j+1)).length;rw [s1];exact congrArg wh es)
    | (show (bC F S j).length=(bB F S (j+1)).length;rw [s2])
    | (show (j:Int)+1 - (bL F S j:Int)=(bL F S (j+1):Int);rw [s3];omega)
    | (show (1:Int)=(bK F S (j+1):Int);rw [s4];rfl)
    | (show _=bE F S (j+1);rw [s5];exact ev)
 · rename_i r hr p1 p2 x hx d1
   obtain ⟨j,yC,yB⟩:=x
   obtain ⟨k1,kC,kB⟩:j≤S.length∧Ow (bC F S j) yC∧Ow (bB F S j) yB:=hx
   obtain ⟨f1,f2,f3,f4,f5,f6⟩:=bm_fit' (F:=F) (S:=S) (n:=j)
   have c3:=kC.cap
   have c4:=kC.len
   exact ⟨by show 0+(bC F S j).length≤yC.2.2.1.length;omega,by show (bC F S j).length<1000000000;omega,kC.nil⟩
 · rename_i r hr p1 p2 x hx d1 y hy
   obtain ⟨j,yC,yB⟩:=x
   obtain ⟨k1,kC,kB⟩:j≤S.length∧Ow (bC F S j) yC∧Ow (bB F S j) yB:=hx
   have d1:¬ (j:Int)<((min (n:Int) 80).toNat:Int):=nf d1
   obtain rfl:j=S.length:=by omega
   have hy:Ow (trL F (yn (bC F S S.length).length (yg 0 yC.2.2.1))) y:=hy
   have e:trL F (yn (bC F S S.length).length (yg 0 yC.2.2.1))=wkL F S:=by
    rw [zq,kC.eq];unfold wkL;rfl
   have e2:bL F S S.length=wkN F S:=by unfold wkN;rfl
   rw [e] at hy
   refine Ends.one y hy ?_
   ((conv=>arg 1;reduce);with_reducible repeat' first | exact ty | refine ta ?_ ?_ | refine ti fun _ => ?_ | refine tf fun _ => ?_ | refine tl ?_)
   all_goals first | exact vlf | exact congrArg wh e | exact (congrArg wh e).symm | exact congrArg (fun k:Nat=>(k:Int)) e2 | exact congrArg (fun k:Nat=>(k:Int)) e2.symm
def fcWalk:Fc Tryz.prog C0 where
 tg:=.fn 85
 X:=(Nat×Nat×Nat×Nat)×(Nat×Nat×Nat×Nat×Nat×Nat×Nat×Nat)×Sl3
 args:=fun (_,_,(o,b,q,l,i,n,c))=>[.ptr 3 0 0,.sl 6 i n c,.fn (.func 86) [] [.ptr 0 0 0,.ptr 1 0 0]]
 mem:=fun ((b1,q1,b2,q2),(bR,qR,bF,qF,be,qe,bl,ql),(o,b,q,l,i,n,c))=>[⟨b1,q1,1,false,none,.one [.ptr 3 0 0]⟩,⟨b2,q2,1,false,none,.one [.ptr 2 0 0]⟩] ++ rgC F bR qR bF qF be qe bl ql 2 ++ [⟨b,q,1,false,some o,.rows 3 l⟩]
 pre:=fun (_,_,x)=>Sl3.pre x∧x.2.2.2.2.2.1≤x.2.2.2.2.2.2
 alts:=fun ((b1,q1,b2,q2),(bR,qR,bF,qF,be,qe,bl,ql),(o,b,q,l,i,n,c))=>[⟨Os,fun y=>Ow (wkL F ((l.drop i).take (min n 80))) y,fun y=>.tup [.sl 7 0 (wkL F ((l.drop i).take (min n 80))).length y.2.2.2,.int .i64 (wkN F ((l.drop i).take (min n 80)):Int)],fun y=>[⟨b1,q1,1,false,none,.one [.ptr 3 0 0]⟩,⟨b2,q2,1,false,none,.one [.ptr 2 0 0]⟩] ++ rgC F bR qR bF qF be qe bl ql 2 ++ [⟨b,q,1,false,some o,.rows 3 l⟩,osC true y]⟩]
 mat vs m:=match vs with
  | [_,.sl s i n c,.fn _ _ [.ptr p _ _,.ptr p' _ _]]=>match nth m p,nth m p' with
    | ⟨b1,q1,_,_,_,_⟩,⟨b2,q2,_,_,_,.one (.ptr r _ _ :: _)⟩=>match nth m r with
      | ⟨bR,qR,_,_,_,.one (.ptr f _ _ :: _)⟩=>match nth m f with
        | ⟨bF,qF,_,_,_,.one (_ :: _ :: .sl x _ _ _ :: .sl g _ _ _ :: _)⟩=>match nth m x,nth m g,nth m s with
          | ⟨be,qe,_,_,_,_⟩,⟨bl,ql,_,_,_,_⟩,⟨b,q,_,_,o,.rows 3 l⟩=>some (((b1,q1,b2,q2),(bR,qR,bF,qF,be,qe,bl,ql),(onOf o,b,q,l,i,n,c)),[p,p',r,f,x,g,s])
          | _,_,_=>none
        | _=>none
      | _=>none
    | _,_=>none
  | _=>none
 ok:=fun ((b1,q1,b2,q2),(bR,qR,bF,qF,be,qe,bl,ql),(o,b,q,l,i,n,c)) h=>walk_ok F b1 q1 b2 q2 bR qR bF qF be qe bl ql o b q l i n c h.1.1 h.1.2.1 h.2 h.1.2.2 _ rfl
theorem locate_ok (bF qF be qe bl ql:Nat) (o:Bool) (b q:Nat) (l:List Int) (i n c:Nat) (h:i+n≤l.length) (hn:n<1000000000) (hc:n≤c) (ho:o=false→n=0∧c=0):
 Does (C:=C0) Tryz.prog (.fn 59) [fld F bF qF,xCk F be qe,lCk F bl ql,⟨b,q,1,false,some o,.rows 3 l⟩] [.ptr 0 0 0,.sl 3 i n c]
  [⟨Os,fun y=>Ow (wkL F ((l.drop i).take (min n 80))) y,fun y=>.tup [.sl 4 0 (wkL F ((l.drop i).take (min n 80))).length y.2.2.2,.int .i64 (wkN F ((l.drop i).take (min n 80)):Int)],fun y=>[fld F bF qF,xCk F be qe,lCk F bl ql,⟨b,q,1,false,some o,.rows 3 l⟩,osC true y]⟩]:=by
 refine loc_fn (P:=Tryz.prog) (E:=⟨[fcRing,fcWalk F],[],15,[],[],[],none⟩) (L:=[]) mix Tryz.func59 rfl (by kernel_rfl) (by kernel_rfl) rfl rfl ?_
 ((conv=>arg 1;reduce);with_reducible repeat' first | exact ty | refine ta ?_ ?_ | refine ti fun _ => ?_ | refine tf fun _ => ?_ | refine tl ?_)
 all_goals try exact vlf
 · exact ⟨⟨h,hn,ho⟩,hc⟩
 · rename_i y hy
   refine Ends.one y hy ?_
   exact vgo
def fcLocate:Fc Tryz.prog C0 where
 tg:=.fn 59
 X:=(Nat×Nat×Nat×Nat×Nat×Nat)×Sl3
 args:=fun (_,(o,b,q,l,i,n,c))=>[.ptr 0 0 0,.sl 3 i n c]
 mem:=fun ((bF,qF,be,qe,bl,ql),(o,b,q,l,i,n,c))=>[fld F bF qF,xCk F be qe,lCk F bl ql,⟨b,q,1,false,some o,.rows 3 l⟩]
 pre:=fun (_,x)=>Sl3.pre x∧x.2.2.2.2.2.1≤x.2.2.2.2.2.2
 alts:=fun ((bF,qF,be,qe,bl,ql),(o,b,q,l,i,n,c))=>[⟨Os,fun y=>Ow (wkL F ((l.drop i).take (min n 80))) y,fun y=>.tup [.sl 4 0 (wkL F ((l.drop i).take (min n 80))).length y.2.2.2,.int .i64 (wkN F ((l.drop i).take (min n 80)):Int)],fun y=>[fld F bF qF,xCk F be qe,lCk F bl ql,⟨b,q,1,false,some o,.rows 3 l⟩,osC true y]⟩]
 mat vs m:=match vs with
  | [.ptr f _ _,.sl s i n c]=>match nth m f with
    | ⟨bF,qF,_,_,_,.one (_ :: _ :: .sl x _ _ _ :: .sl g _ _ _ :: _)⟩=>match nth m x,nth m g,nth m s with
      | ⟨be,qe,_,_,_,_⟩,⟨bl,ql,_,_,_,_⟩,⟨b,q,_,_,o,.rows 3 l⟩=>some (((bF,qF,be,qe,bl,ql),(onOf o,b,q,l,i,n,c)),[f,x,g,s])
      | _,_,_=>none
    | _=>none
  | _=>none
 ok:=fun ((bF,qF,be,qe,bl,ql),(o,b,q,l,i,n,c)) h=>locate_ok F bF qF be qe bl ql o b q l i n c h.1.1 h.1.2.1 h.2 h.1.2.2
end
end
end Go.Vx
namespace Go.Vx
section
variable {c d:Codec}
end
end Go.Vx
namespace Go.Vx
open Go Go.Proofs
noncomputable section
variable [Gl]
section
variable (F:Gf)
theorem begun_ok (bF qF:Nat) (o:Bool) (b q:Nat) (l:List Int) (i n c:Nat) (h:i+n≤l.length) (hn:n<1000000000) (hc:n≤c) (ho:o=false→n=0∧c=0) (k:Int) (P:List Int) (hP:(l.drop i).take (min n 2048)=P):
 Does (C:=C0) Tryz.prog (.fn 90) [⟨bF,qF,4,false,none,.one [.junk,.int .i64 (szF F:Int)]⟩,⟨b,q,1,false,some o,.rows 3 l⟩] [.ptr 0 0 0,.sl 1 i n c,.int .i64 k]
  [⟨Os,fun y=>Ow (trL F P) y,fun y=>.agg [.ptr 0 0 0,.sl 2 0 (trL F P).length y.2.2.2,.int .i64 (min k ((szF F:Int) - 1))],fun y=>[⟨bF,qF,4,false,none,.one [.junk,.int .i64 (szF F:Int)]⟩,⟨b,q,1,false,some o,.rows 3 l⟩,osC true y]⟩]:=by
 refine loc_fn (P:=Tryz.prog) (E:=⟨[fcRing,fcTrim F],[pcSize],24,[],[],[],none⟩) (L:=[]) mix Tryz.func90 rfl (by kernel_rfl) (by kernel_rfl) rfl rfl ?_
 ((conv=>arg 1;reduce);with_reducible repeat' first | exact ty | refine ta ?_ ?_ | refine ti fun _ => ?_ | refine tf fun _ => ?_ | refine tl ?_)
 all_goals try exact vlf
 · exact ⟨by show i+(min (n:Int) 2048).toNat≤l.length;omega,by show (min (n:Int) 2048).toNat<1000000000;omega,fun h0=>⟨by have:=ho h0;show (min (n:Int) 2048).toNat=0;omega,(ho h0).2⟩⟩
 · obtain ⟨hs,h7,hh⟩:=nF_sz F
   exact inR64 (n:=(szF F:Int) - 1) (by omega) (by omega)
 · rename_i r1 r hr y hy
   have hP':(l.drop i).take (min (n:Int) 2048).toNat=P:=by rw [← hP];congr 1;omega
   have hy:Ow (trL F ((l.drop i).take (min (n:Int) 2048).toNat)) y:=hy
   rw [hP'] at hy
   refine Ends.one y hy ?_
   ((conv=>arg 1;reduce);with_reducible repeat' first | exact ty | refine ta ?_ ?_ | refine ti fun _ => ?_ | refine tf fun _ => ?_ | refine tl ?_)
   all_goals first | exact vlf | (rw [hP'])
def fcBegun:Fc Tryz.prog C0 where
 tg:=.fn 90
 X:=(Nat×Nat)×Sl3×Int
 args:=fun (_,(o,b,q,l,i,n,c),k)=>[.ptr 0 0 0,.sl 1 i n c,.int .i64 k]
 mem:=fun ((bF,qF),(o,b,q,l,i,n,c),k)=>[⟨bF,qF,4,false,none,.one [.junk,.int .i64 (szF F:Int)]⟩,⟨b,q,1,false,some o,.rows 3 l⟩]
 pre:=fun (_,x,_)=>Sl3.pre x∧x.2.2.2.2.2.1≤x.2.2.2.2.2.2
 alts:=fun ((bF,qF),(o,b,q,l,i,n,c),k)=>[⟨Os,fun y=>Ow (trL F ((l.drop i).take (min n 2048))) y,fun y=>.agg [.ptr 0 0 0,.sl 2 0 (trL F ((l.drop i).take (min n 2048))).length y.2.2.2,.int .i64 (min k ((szF F:Int) - 1))],fun y=>[⟨bF,qF,4,false,none,.one [.junk,.int .i64 (szF F:Int)]⟩,⟨b,q,1,false,some o,.rows 3 l⟩,osC true y]⟩]
 mat vs m:=match vs with
  | [.ptr f _ _,.sl s i n c,.int _ k]=>match nth m f,nth m s with
    | ⟨bF,qF,_,_,_,_⟩,⟨b,q,_,_,o,.rows 3 l⟩=>some (((bF,qF),(onOf o,b,q,l,i,n,c),k),[f,s])
    | _,_=>none
  | _=>none
 ok:=fun ((bF,qF),(o,b,q,l,i,n,c),k) h=>begun_ok F bF qF o b q l i n c h.1.1 h.1.2.1 h.2 h.1.2.2 k _ rfl
theorem chien_ok (bF qF:Nat) (o:Bool) (b q:Nat) (l:List Int) (i n c:Nat) (k:Int):
 Does (C:=C0) Tryz.prog (.fn 92) [⟨bF,qF,4,false,none,.one []⟩,⟨b,q,1,false,some o,.rows 3 l⟩] [.agg [.ptr 0 0 0,.sl 1 i n c,.int .i64 k]]
  [⟨Nat,fun y=>True,fun y=>.fn (.func 119) [] [.ptr 2 0 0],fun y=>[⟨bF,qF,4,false,none,.one []⟩,⟨b,q,1,false,some o,.rows 3 l⟩,⟨y,0,3,true,none,.one [.ptr 0 0 0,.sl 1 i n c,.int .i64 k]⟩]⟩]:=by
 refine loc_fn (P:=Tryz.prog) (E:=⟨[],[],4,[],[],[],none⟩) (L:=[]) mix Tryz.func92 rfl (by kernel_rfl) (by kernel_rfl) rfl rfl ?_
 ((conv=>arg 1;reduce);with_reducible repeat' first | exact ty | refine ta ?_ ?_ | refine ti fun _ => ?_ | refine tf fun _ => ?_ | refine tl ?_)
 all_goals try exact vlf
 rename_i y
 refine Ends.one y trivial ?_
 exact vgo
def fcChien:Fc Tryz.prog C0 where
 tg:=.fn 92
 X:=(Nat×Nat)×Sl3×Int
 args:=fun (_,(o,b,q,l,i,n,c),k)=>[.agg [.ptr 0 0 0,.sl 1 i n c,.int .i64 k]]
 mem:=fun ((bF,qF),(o,b,q,l,i,n,c),k)=>[⟨bF,qF,4,false,none,.one []⟩,⟨b,q,1,false,some o,.rows 3 l⟩]
 pre _:=True
 alts:=fun ((bF,qF),(o,b,q,l,i,n,c),k)=>[⟨Nat,fun y=>True,fun y=>.fn (.func 119) [] [.ptr 2 0 0],fun y=>[⟨bF,qF,4,false,none,.one []⟩,⟨b,q,1,false,some o,.rows 3 l⟩,⟨y,0,3,true,none,.one [.ptr 0 0 0,.sl 1 i n c,.int .i64 k]⟩]⟩]
 mat vs m:=match vs with
  | [.agg [.ptr f _ _,.sl s i n c,.int _ k]]=>match nth m f,nth m s with
    | ⟨bF,qF,_,_,_,_⟩,⟨b,q,_,_,o,.rows 3 l⟩=>some (((bF,qF),(onOf o,b,q,l,i,n,c),k),[f,s])
    | _,_=>none
  | _=>none
 ok:=fun ((bF,qF),(o,b,q,l,i,n,c),k) _=>chien_ok bF qF o b q l i n c k
end
end
end Go.Vx
namespace Go.Vx
open Go Go.Proofs
noncomputable section
variable [Gl]
section
variable (F:Gf)
def tv (P:List Int) (i k:Nat):El F:=cf (els F P) k*Fd.pw (exF F (-(k:Int))) i
@[irreducible] def tI (P:List Int) (i j:Nat):List Int:=(xj P.length).map fun k=>if k<j then vi (tv F P (i+1) k) else vi (tv F P i k)
@[irreducible] def yS (P:List Int) (i j:Nat):Int:=vi (Fd.sm j fun k=>tv F P i k)
@[irreducible] def rtL (P:List Int) (i:Nat):List Int:=((xj i).filter fun a:Nat=>decide (yS F P a P.length=0)).map fun a:Nat=>(a:Int)
variable {F}
theorem tI_len {P:List Int} {i j:Nat}:(tI F P i j).length=P.length:=by unfold tI;simp
theorem tI_zero {P:List Int} (h:vis (els F P)=P):tI F P 0 0=P:=by
 unfold tI
 refine wn (by simp) fun k h1 h2 => ?_
 simp only [th,sj,wy,if_false]
 have:P.getD k 0=vi (cf (els F P) k):=by rw [← vis_getD,h]
 rw [zy,zt h2] at this
 rw [show P[k]=_ from this]
 unfold tv
 show vi (cf (els F P) k*Fd.un)=_
 rw [Fd.mulC,Fd.umul]
theorem tI_next {P:List Int} {i:Nat}:tI F P i P.length=tI F P (i+1) 0:=by
 unfold tI
 refine xh fun k hk => ?_
 rw [if_pos (List.mem_range.1 hk),if_neg (wy k)]
theorem tI_at {P:List Int} {i j:Nat} {sp:List Int} (h:j<P.length):(tI F P i j ++ sp).getD j 0=vi (tv F P i j):=by
 simp only [zy,List.getElem?_append_left (show j<(tI F P i j).length by rw [tI_len];exact h)]
 unfold tI
 simp only [zh,wq h,yk,xy,if_neg (ua j)]
theorem tI_set {P:List Int} {i j:Nat} {sp:List Int} (h:j<P.length):(tI F P i j ++ sp).set j (muI F (vi (tv F P i j)) (vi (exF F (-(j:Int)))))=tI F P i (j+1) ++ sp:=by
 rw [List.set_append_left _ _ (by rw [tI_len];exact h)]
 congr 1
 unfold tI
 rw [set_map h]
 refine xh fun k _ => ?_
 by_cases hk:k=j
 · subst hk
   rw [if_pos rfl,if_pos (by omega),muI_eq,el_vi,el_vi]
   unfold tv
   rw [Fd.mulA]
   rfl
 · rw [if_neg hk]
   by_cases h2:k<j
   · rw [if_pos h2,if_pos (by omega)]
   · rw [if_neg h2,if_neg (by omega)]
theorem yS_zero {P:List Int} {i:Nat}:yS F P i 0=0:=by unfold yS;rfl
theorem yS_succ {P:List Int} {i j:Nat}:ibit .xor .i64 (yS F P i j) (vi (tv F P i j))=yS F P i (j+1):=by
 unfold yS
 rw [xor_vi]
 rfl
theorem rtL_yes {P:List Int} {i:Nat} (h:yS F P i P.length=0):rtL F P (i+1)=rtL F P i ++ [(i:Int)]:=by
 unfold rtL
 rw [ue,sk,vk]
 simp [h]
theorem rtL_no {P:List Int} {i:Nat} (h:yS F P i P.length≠0):rtL F P (i+1)=rtL F P i:=by
 unfold rtL
 rw [ue,sk,vk]
 simp [h]
theorem rtL_len {P:List Int} {i:Nat}:(rtL F P i).length≤i:=by
 unfold rtL
 rw [zm]
 exact xk (qr _ _) (by simp)
theorem rtL_zero {P:List Int}:rtL F P 0=[]:=by unfold rtL;rfl
variable (F)
abbrev Oq:=Bool×Nat×Nat×List Int×Nat
structure Oqw (L:List Int) (y:Oq):Prop where
 eq:y.2.2.2.1.take L.length=L
 cap:L.length≤y.2.2.2.2
 len:y.2.2.2.2≤y.2.2.2.1.length
 nil:y.1=false→L.length=0∧y.2.2.2.2=0
abbrev oqC (wr:Bool) (y:Oq):Ck C0:=⟨y.2.1,y.2.2.1,1,wr,some y.1,.rows 3 y.2.2.2.1⟩
def Ch2n (P:List Int) (N:Nat):Inv' C0:=⟨2,Nat×List Int,fun x=>[(14,.int .i64 (x.1:Int))],fun x m=>match m with
 | a0 :: a1 :: a2 :: a3 :: a4 :: bs :: a6 :: tr :: _=>[a0,a1,a2,a3,a4,⟨bs.block,bs.base,bs.sz,bs.wr,bs.gl,.one [.nils]⟩,a6,⟨tr.block,tr.base,1,true,tr.gl,.rows 3 (tI F P x.1 0 ++ x.2)⟩]
 | m=>m,fun x=>x.1≤N∧rtL F P x.1=[]∧(P.length=0→x.2.length=0),fun x=>N - x.1⟩
def Ch2s (P:List Int) (N:Nat):Inv' C0:=⟨2,Nat×List Int×Oq,fun x=>[(14,.int .i64 (x.1:Int))],fun x m=>match m with
 | a0 :: a1 :: a2 :: a3 :: a4 :: bs :: a6 :: tr :: _=>[a0,a1,a2,a3,a4,⟨bs.block,bs.base,bs.sz,bs.wr,bs.gl,.one [.sl 8 0 (rtL F P x.1).length x.2.2.2.2.2.2]⟩,a6,⟨tr.block,tr.base,1,true,tr.gl,.rows 3 (tI F P x.1 0 ++ x.2.1)⟩,⟨x.2.2.2.1,x.2.2.2.2.1,1,true,none,.rows 3 x.2.2.2.2.2.1⟩]
 | m=>m,fun x=>x.1≤N∧Oqw (rtL F P x.1) (true,x.2.2.2)∧(P.length=0→x.2.1.length=0)∧rtL F P x.1≠[],fun x=>N - x.1⟩
def Ch6n (P:List Int) (N:Nat):Inv' C0:=⟨6,Nat×Nat×List Int,fun x=>[(14,.int .i64 (x.1:Int)),(4,.int .i64 (x.1:Int)),(19,.int .i64 (x.2.1:Int)),(5,.int .i64 (yS F P x.1 x.2.1))],fun x m=>match m with
 | a0 :: a1 :: a2 :: a3 :: a4 :: bs :: a6 :: tr :: _=>[a0,a1,a2,a3,a4,⟨bs.block,bs.base,bs.sz,bs.wr,bs.gl,.one [.nils]⟩,a6,⟨tr.block,tr.base,1,true,tr.gl,.rows 3 (tI F P x.1 x.2.1 ++ x.2.2)⟩]
 | m=>m,fun x=>x.1<N∧x.2.1≤P.length∧rtL F P x.1=[]∧(P.length=0→x.2.2.length=0),fun x=>P.length - x.2.1⟩
def Ch6s (P:List Int) (N:Nat):Inv' C0:=⟨6,Nat×Nat×List Int×Oq,fun x=>[(14,.int .i64 (x.1:Int)),(4,.int .i64 (x.1:Int)),(19,.int .i64 (x.2.1:Int)),(5,.int .i64 (yS F P x.1 x.2.1))],fun x m=>match m with
 | a0 :: a1 :: a2 :: a3 :: a4 :: bs :: a6 :: tr :: _=>[a0,a1,a2,a3,a4,⟨bs.block,bs.base,bs.sz,bs.wr,bs.gl,.one [.sl 8 0 (rtL F P x.1).length x.2.2.2.2.2.2.2]⟩,a6,⟨tr.block,tr.base,1,true,tr.gl,.rows 3 (tI F P x.1 x.2.1 ++ x.2.2.1)⟩,⟨x.2.2.2.2.1,x.2.2.2.2.2.1,1,true,none,.rows 3 x.2.2.2.2.2.2.1⟩]
 | m=>m,fun x=>x.1<N∧x.2.1≤P.length∧Oqw (rtL F P x.1) (true,x.2.2.2.2)∧(P.length=0→x.2.2.1.length=0)∧rtL F P x.1≠[],fun x=>P.length - x.2.1⟩
def itChien (P:List Int) (N:Nat):It Tryz.prog C0:=⟨119,Tryz.f119,_,⟨[],[pcExp F,pcMul F],46,[(9,[6],[.p 0,.p 1,.p 2,.p 3,.p 4,.p 5,.p 6,.p 7,.p 8,.e 9,.e 10,.p 11,.e 12])],[],[],none⟩,[Ch2n F P N,Ch2s F P N,Ch6n F P N,Ch6s F P N],Tryz.func119,rfl,(by kernel_rfl),(by kernel_rfl)⟩
set_option maxHeartbeats 4000000 in
theorem roots_ok (bF qF be qe bl ql:Nat) (o:Bool) (b q:Nat) (l:List Int) (i n c:Nat) (h:i+n≤l.length) (hn:n<1000000000) (ho:o=false→n=0∧c=0) (k:Int) (hk:k<1000000000) (P:List Int) (hP:(l.drop i).take n=P) (hv:vis (els F P)=P):
 Does (C:=C0) Tryz.prog (.fn 91) [fld F bF qF,xCk F be qe,lCk F bl ql,⟨b,q,1,false,some o,.rows 3 l⟩] [.agg [.ptr 0 0 0,.sl 3 i n c,.int .i64 k],.fn (.func 92) [] []]
  [⟨Oq,fun y=>Oqw (rtL F P (max 0 k).toNat) y,fun y=>.sl 4 0 (rtL F P (max 0 k).toNat).length y.2.2.2.2,fun y=>[fld F bF qF,xCk F be qe,lCk F bl ql,⟨b,q,1,false,some o,.rows 3 l⟩,oqC true y]⟩]:=by
 have by3:Tryz.prog.types[3].bytes=8:=by kernel_rfl
 have lI:=fun a b=>tI_len (F:=F) (P:=P) (i:=a) (j:=b)
 have hL:P.length=n:=by rw [← hP];exact row_len h
 have key:∀ {a b:Nat} {Q:Prop},(a:Int)=(b:Int)→rtL F P a=[]→rtL F P b≠[]→Q:=fun e h1 h2=>by
  rw [Int.ofNat.inj e] at h1;exact absurd h1 h2
 have key':∀ {a b:Nat} {Q:Prop},(a:Int)=(b:Int)→rtL F P a≠[]→rtL F P b=[]→Q:=fun e h1 h2=>by
  rw [Int.ofNat.inj e] at h1;exact absurd h2 h1
 refine loc_fnR (P:=Tryz.prog) (E:=⟨[fcChien],[],20,[],[],[],none⟩) (L:=[]) mix [itChien F P (max 0 k).toNat] Tryz.func91 rfl (by kernel_rfl) (by kernel_rfl) rfl rfl ?_
 ((conv=>arg 1;reduce);with_reducible repeat' first | exact ty | refine ta ?_ ?_ | refine ti fun _ => ?_ | refine tf fun _ => ?_ | refine tl ?_)
 all_goals try exact vlf
 all_goals try exact key (by assumption) (‹(Ch2n F P (max 0 k).toNat).inv _›).2.1 (‹(Ch6s F P (max 0 k).toNat).inv _›).2.2.2.2
 all_goals try exact key' (by assumption) (‹(Ch2s F P (max 0 k).toNat).inv _›).2.2.2 (‹(Ch6n F P (max 0 k).toNat).inv _›).2.2.1
 · exact ⟨h,by rw [by3];omega⟩
 · exact fun h0=>⟨(ho h0).1,(ho h0).1⟩
 · rename_i g1 g2 yy hyy g3 g4 sp hsp
   change List Int at sp
   refine Stands.one ((0,sp):Nat×List Int) ⟨⟨ze _,rtL_zero,fun h0=>hsp (by omega)⟩,?_⟩
   ((conv=>arg 1;reduce);with_reducible repeat' first | exact ty | refine ta ?_ ?_ | refine ti fun _ => ?_ | refine tf fun _ => ?_ | refine tl ?_)
   all_goals first | exact vlf | (show tI F P 0 0 ++ sp=(l.drop i).take n ++ sp;rw [tI_zero hv,hP])
 all_goals try (
  rename_i g1 g2 yy hyy g3 g4 sp hsp x hx d1
  change Nat×List Int at x
  obtain ⟨i0,sq0⟩:=x
  obtain ⟨k1,k2,k3⟩:i0≤(max 0 k).toNat∧rtL F P i0=[]∧(P.length=0→sq0.length=0):=hx
  have d1:(i0:Int)<max 0 k:=ng d1
  refine Stands.one ((i0,0,sq0):Nat×Nat×List Int) ⟨⟨by show i0<(max 0 k).toNat;omega,ze _,k2,k3⟩,?_⟩
  ((conv=>arg 1;reduce);with_reducible repeat' first | exact ty | refine ta ?_ ?_ | refine ti fun _ => ?_ | refine tf fun _ => ?_ | refine tl ?_)
  all_goals first | exact vlf | exact yS_zero.symm)
 all_goals try (
  rename_i g1 g2 yy hyy g3 g4 sp hsp x hx d1 z hz e1 e2 d2
  change Nat×List Int at x
  obtain ⟨i0,sq0⟩:=x
  obtain ⟨k1,k2,k3⟩:i0≤(max 0 k).toNat∧rtL F P i0=[]∧(P.length=0→sq0.length=0):=hx
  change Nat×Nat×List Int at z
  obtain ⟨i,j,sq⟩:=z
  obtain ⟨m1,m2,m3,m4⟩:i<(max 0 k).toNat∧j≤P.length∧rtL F P i=[]∧(P.length=0→sq.length=0):=hz
  have e1:(i0:Int)=(i:Int):=e1
  have d2:(j:Int)<(n:Int):=ng d2
  first
  | exact blt_on (by omega)
  | exact d2
  | (show (j:Int).toNat+0<(tI F P i j ++ sq).length;rw [zu,lI];omega)
  | exact inR64 (n:=0 - (j:Int)) (by omega) (by omega)
  | exact inR64 (n:=(j:Int)+1) (by omega) (by omega)
  | (show -4611686018427387904≤0 - (j:Int)∧0 - (j:Int)≤4611686018427387904;omega)
  | (refine Stands.one ((i,j+1,sq):Nat×Nat×List Int) ⟨⟨m1,by show j+1≤P.length;omega,m3,m4⟩,by show P.length - (j+1)<P.length - j;omega,?_⟩
     ((conv=>arg 1;reduce);with_reducible repeat' first | exact ty | refine ta ?_ ?_ | refine ti fun _ => ?_ | refine tf fun _ => ?_ | refine tl ?_)
     all_goals first
      | exact vlf
      | (show ibit .xor .i64 (yS F P i j) ((tI F P i j ++ sq).getD ((j:Int).toNat+0) 0)=yS F P i (j+1)
         rw [zo,yx j,tI_at (P:=P) (j:=j) (by omega),yS_succ])
      | (show tI F P i (j+1) ++ sq=(tI F P i j ++ sq).set ((j:Int).toNat+0) (muI F ((tI F P i j ++ sq).getD ((j:Int).toNat+0) 0) (vi (exF F (0 - (j:Int)))))
         rw [zo,yx j,tI_at (P:=P) (j:=j) (by omega),Int.zero_sub,tI_set (P:=P) (j:=j) (by omega)])))
 all_goals try (
  rename_i g1 g2 yy hyy g3 g4 sp hsp x hx d1 z hz e1 e2 d2 d3
  change Nat×List Int at x
  obtain ⟨i0,sq0⟩:=x
  obtain ⟨k1,k2,k3⟩:i0≤(max 0 k).toNat∧rtL F P i0=[]∧(P.length=0→sq0.length=0):=hx
  change Nat×Nat×List Int at z
  obtain ⟨i,j,sq⟩:=z
  obtain ⟨m1,m2,m3,m4⟩:i<(max 0 k).toNat∧j≤P.length∧rtL F P i=[]∧(P.length=0→sq.length=0):=hz
  have e1:(i0:Int)=(i:Int):=e1
  have d2:¬ (j:Int)<(n:Int):=nf d2
  have d3:¬ yS F P i j=0:=nf d3
  obtain rfl:j=P.length:=by omega
  first
  | exact inR64 (n:=(i:Int)+1) (by omega) (by omega)
  | (have rr:=rtL_no d3
     refine Stands.one ((i+1,sq):Nat×List Int) ⟨⟨by show i+1≤(max 0 k).toNat;omega,by rw [rr];exact m3,m4⟩,by show (max 0 k).toNat - (i+1)<(max 0 k).toNat - i0;omega,?_⟩
     ((conv=>arg 1;reduce);with_reducible repeat' first | exact ty | refine ta ?_ ?_ | refine ti fun _ => ?_ | refine tf fun _ => ?_ | refine tl ?_)
     all_goals first | exact vlf | (show tI F P (i+1) 0 ++ sq=tI F P i P.length ++ sq;rw [tI_next]) | (show (rtL F P i).length=(rtL F P (i+1)).length;rw [rr]) | (show (rtL F P (i+1)).length=(rtL F P i).length;rw [rr]) | (show (i0:Int)+1=((i+1:Nat):Int);omega) | (show (i:Int)+1=((i+1:Nat):Int);omega)))
 all_goals try (
  rename_i g1 g2 yy hyy g3 g4 sp hsp x hx d1 z hz e1 e2 d2 d3 g5
  change Nat×List Int at x
  obtain ⟨i0,sq0⟩:=x
  obtain ⟨k1,k2,k3⟩:i0≤(max 0 k).toNat∧rtL F P i0=[]∧(P.length=0→sq0.length=0):=hx
  change Nat×Nat×List Int at z
  obtain ⟨i,j,sq⟩:=z
  obtain ⟨m1,m2,m3,m4⟩:i<(max 0 k).toNat∧j≤P.length∧rtL F P i=[]∧(P.length=0→sq.length=0):=hz
  have e1:(i0:Int)=(i:Int):=e1
  have r1:=rtL_len (F:=F) (P:=P) (i:=i)
  first
  | exact ⟨zx 1,by rw [by3];omega⟩
  | exact ⟨m3.cap,by have h9:yc≤yl.length:=m3.len;show 0+yc≤yl.length;omega,zx 1,by rw [by3];show ((rtL F P i).length+1)*8≤_;omega⟩)
 all_goals try (
  rename_i g1 g2 yy hyy g3 g4 sp hsp x hx d1 z hz e1 e2 d2 d3 g5 g6 s2 hs2
  change Nat×List Int at x
  obtain ⟨i0,sq0⟩:=x
  obtain ⟨k1,k2,k3⟩:i0≤(max 0 k).toNat∧rtL F P i0=[]∧(P.length=0→sq0.length=0):=hx
  change Nat×Nat×List Int at z
  obtain ⟨i,j,sq⟩:=z
  obtain ⟨m1,m2,m3,m4⟩:i<(max 0 k).toNat∧j≤P.length∧rtL F P i=[]∧(P.length=0→sq.length=0):=hz
  have e1:(i0:Int)=(i:Int):=e1
  have d2:¬ (j:Int)<(n:Int):=nf d2
  have d3:yS F P i j=0:=ng d3
  change List Int at s2
  obtain rfl:j=P.length:=by omega
  first
  | exact inR64 (n:=(i:Int)+1) (by omega) (by omega)
  | (have rr:=rtL_yes d3
     refine Stands.next (Stands.one ((i+1,sq,(true,g6,0,(i:Int) :: s2,1+s2.length)):Nat×List Int×Oq) ⟨⟨by show i+1≤(max 0 k).toNat;omega,⟨by rw [rr,m3];rfl,by rw [rr,m3];show 1≤1+s2.length;omega,by show 1+s2.length≤((i:Int) :: s2).length;rw [xq];omega,fun h=>by cases h⟩,m4,by show rtL F P (i+1)≠[];rw [rr];simp⟩,by show (max 0 k).toNat - (i+1)<(max 0 k).toNat - i0;omega,?_⟩)
     ((conv=>arg 1;reduce);with_reducible repeat' first | exact ty | refine ta ?_ ?_ | refine ti fun _ => ?_ | refine tf fun _ => ?_ | refine tl ?_)
     all_goals first | exact vlf | (show tI F P (i+1) 0 ++ sq=tI F P i P.length ++ sq;rw [tI_next]) | (show (rtL F P (i+1)).length=1;rw [rr,m3];rfl) | (show (rtL F P (i+1)).length=(rtL F P i).length+1;rw [rr,zu];rfl) | (show (i0:Int)+1=((i+1:Nat):Int);omega) | (show (i:Int)+1=((i+1:Nat):Int);omega) | rfl))
 all_goals try (
  rename_i g1 g2 yy hyy g3 g4 sp hsp x hx d1
  change Nat×List Int at x
  obtain ⟨i0,sq0⟩:=x
  obtain ⟨k1,k2,k3⟩:i0≤(max 0 k).toNat∧rtL F P i0=[]∧(P.length=0→sq0.length=0):=hx
  have d1:¬ (i0:Int)<max 0 k:=nf d1
  have ei:i0=(max 0 k).toNat:=by omega
  refine Ends.one ((false,0,0,[],0):Oq) (by show Oqw (rtL F P (max 0 k).toNat) _;rw [← ei,k2];exact ⟨rfl,zx _,zx _,fun _=>⟨rfl,rfl⟩⟩) ?_
  ((conv=>arg 1;reduce);with_reducible repeat' first | exact ty | refine ta ?_ ?_ | refine ti fun _ => ?_ | refine tf fun _ => ?_ | refine tl ?_)
  all_goals first | exact vlf | (rw [← ei,k2];rfl) | (rw [← ei]))
 all_goals try (
  rename_i g1 g2 yy hyy g3 g4 sp hsp x hx d1
  change Nat×List Int×Oq at x
  obtain ⟨i0,sq0,yo0,yb0,yq0,yl0,yc0⟩:=x
  obtain ⟨k1,k2,k3,k4⟩:i0≤(max 0 k).toNat∧Oqw (rtL F P i0) (true,yb0,yq0,yl0,yc0)∧(P.length=0→sq0.length=0)∧rtL F P i0≠[]:=hx
  have d1:(i0:Int)<max 0 k:=ng d1
  refine Stands.next (Stands.one ((i0,0,sq0,(true,yb0,yq0,yl0,yc0)):Nat×Nat×List Int×Oq) ⟨⟨by show i0<(max 0 k).toNat;omega,ze _,k2,k3,k4⟩,?_⟩)
  ((conv=>arg 1;reduce);with_reducible repeat' first | exact ty | refine ta ?_ ?_ | refine ti fun _ => ?_ | refine tf fun _ => ?_ | refine tl ?_)
  all_goals first | exact vlf | exact yS_zero.symm)
 all_goals try (
  rename_i g1 g2 yy hyy g3 g4 sp hsp x hx d1 z hz e1 e2 d2
  change Nat×List Int×Oq at x
  obtain ⟨i0,sq0,yo0,yb0,yq0,yl0,yc0⟩:=x
  obtain ⟨k1,k2,k3,k4⟩:i0≤(max 0 k).toNat∧Oqw (rtL F P i0) (true,yb0,yq0,yl0,yc0)∧(P.length=0→sq0.length=0)∧rtL F P i0≠[]:=hx
  change Nat×Nat×List Int×Oq at z
  obtain ⟨i,j,sq,yo,yb,yq,yl,yc⟩:=z
  obtain ⟨m1,m2,m3,m4,m5⟩:i<(max 0 k).toNat∧j≤P.length∧Oqw (rtL F P i) (true,yb,yq,yl,yc)∧(P.length=0→sq.length=0)∧rtL F P i≠[]:=hz
  have e1:(i0:Int)=(i:Int):=e1
  have d2:(j:Int)<(n:Int):=ng d2
  first
  | exact blt_on (by omega)
  | exact d2
  | (show (j:Int).toNat+0<(tI F P i j ++ sq).length;rw [zu,lI];omega)
  | exact inR64 (n:=0 - (j:Int)) (by omega) (by omega)
  | exact inR64 (n:=(j:Int)+1) (by omega) (by omega)
  | (show -4611686018427387904≤0 - (j:Int)∧0 - (j:Int)≤4611686018427387904;omega)
  | (refine Stands.next (Stands.one ((i,j+1,sq,(true,yb,yq,yl,yc)):Nat×Nat×List Int×Oq) ⟨⟨m1,by show j+1≤P.length;omega,m3,m4,m5⟩,by show P.length - (j+1)<P.length - j;omega,?_⟩)
     ((conv=>arg 1;reduce);with_reducible repeat' first | exact ty | refine ta ?_ ?_ | refine ti fun _ => ?_ | refine tf fun _ => ?_ | refine tl ?_)
     all_goals first
      | exact vlf
      | (show ibit .xor .i64 (yS F P i j) ((tI F P i j ++ sq).getD ((j:Int).toNat+0) 0)=yS F P i (j+1)
         rw [zo,yx j,tI_at (P:=P) (j:=j) (by omega),yS_succ])
      | (show tI F P i (j+1) ++ sq=(tI F P i j ++ sq).set ((j:Int).toNat+0) (muI F ((tI F P i j ++ sq).getD ((j:Int).toNat+0) 0) (vi (exF F (0 - (j:Int)))))
         rw [zo,yx j,tI_at (P:=P) (j:=j) (by omega),Int.zero_sub,tI_set (P:=P) (j:=j) (by omega)])))
 all_goals try (
  rename_i g1 g2 yy hyy g3 g4 sp hsp x hx d1 z hz e1 e2 d2 d3
  change Nat×List Int×Oq at x
  obtain ⟨i0,sq0,yo0,yb0,yq0,yl0,yc0⟩:=x
  obtain ⟨k1,k2,k3,k4⟩:i0≤(max 0 k).toNat∧Oqw (rtL F P i0) (true,yb0,yq0,yl0,yc0)∧(P.length=0→sq0.length=0)∧rtL F P i0≠[]:=hx
  change Nat×Nat×List Int×Oq at z
  obtain ⟨i,j,sq,yo,yb,yq,yl,yc⟩:=z
  obtain ⟨m1,m2,m3,m4,m5⟩:i<(max 0 k).toNat∧j≤P.length∧Oqw (rtL F P i) (true,yb,yq,yl,yc)∧(P.length=0→sq.length=0)∧rtL F P i≠[]:=hz
  have e1:(i0:Int)=(i:Int):=e1
  have d2:¬ (j:Int)<(n:Int):=nf d2
  have d3:¬ yS F P i j=0:=nf d3
  obtain rfl:j=P.length:=by omega
  first
  | exact inR64 (n:=(i:Int)+1) (by omega) (by omega)
  | (have rr:=rtL_no d3
     refine Stands.next (Stands.one ((i+1,sq,(true,yb,yq,yl,yc)):Nat×List Int×Oq) ⟨⟨by show i+1≤(max 0 k).toNat;omega,(show Oqw (rtL F P (i+1)) (true,yb,yq,yl,yc) by rw [rr];exact m3),m4,(show rtL F P (i+1)≠[] by rw [rr];exact m5)⟩,by show (max 0 k).toNat - (i+1)<(max 0 k).toNat - i0;omega,?_⟩)
     ((conv=>arg 1;reduce);with_reducible repeat' first | exact ty | refine ta ?_ ?_ | refine ti fun _ => ?_ | refine tf fun _ => ?_ | refine tl ?_)
     all_goals first | exact vlf | (show tI F P (i+1) 0 ++ sq=tI F P i P.length ++ sq;rw [tI_next]) | (show (rtL F P i).length=(rtL F P (i+1)).length;rw [rr]) | (show (rtL F P (i+1)).length=(rtL F P i).length;rw [rr]) | (show (i0:Int)+1=((i+1:Nat):Int);omega) | (show (i:Int)+1=((i+1:Nat):Int);omega)))
 all_goals try (
  rename_i g1 g2 yy hyy g3 g4 sp hsp x hx d1 z hz e1 e2 d2 d3 g5
  change Nat×List Int×Oq at x
  obtain ⟨i0,sq0,yo0,yb0,yq0,yl0,yc0⟩:=x
  obtain ⟨k1,k2,k3,k4⟩:i0≤(max 0 k).toNat∧Oqw (rtL F P i0) (true,yb0,yq0,yl0,yc0)∧(P.length=0→sq0.length=0)∧rtL F P i0≠[]:=hx
  change Nat×Nat×List Int×Oq at z
  obtain ⟨i,j,sq,yo,yb,yq,yl,yc⟩:=z
  obtain ⟨m1,m2,m3,m4,m5⟩:i<(max 0 k).toNat∧j≤P.length∧Oqw (rtL F P i) (true,yb,yq,yl,yc)∧(P.length=0→sq.length=0)∧rtL F P i≠[]:=hz
  have e1:(i0:Int)=(i:Int):=e1
  have r1:=rtL_len (F:=F) (P:=P) (i:=i)
  first
  | exact ⟨zx 1,by rw [by3];omega⟩
  | exact ⟨m3.cap,by have h9:yc≤yl.length:=m3.len;show 0+yc≤yl.length;omega,zx 1,by rw [by3];show ((rtL F P i).length+1)*8≤_;omega⟩)
 all_goals try (
  rename_i g1 g2 yy hyy g3 g4 sp hsp x hx d1 z hz e1 e2 d2 d3 g5 g6 g7 s2 c2 h1 h2
  change Nat×List Int×Oq at x
  obtain ⟨i0,sq0,yo0,yb0,yq0,yl0,yc0⟩:=x
  obtain ⟨k1,k2,k3,k4⟩:i0≤(max 0 k).toNat∧Oqw (rtL F P i0) (true,yb0,yq0,yl0,yc0)∧(P.length=0→sq0.length=0)∧rtL F P i0≠[]:=hx
  change Nat×Nat×List Int×Oq at z
  obtain ⟨i,j,sq,yo,yb,yq,yl,yc⟩:=z
  obtain ⟨m1,m2,m3,m4,m5⟩:i<(max 0 k).toNat∧j≤P.length∧Oqw (rtL F P i) (true,yb,yq,yl,yc)∧(P.length=0→sq.length=0)∧rtL F P i≠[]:=hz
  have e1:(i0:Int)=(i:Int):=e1
  have d2:¬ (j:Int)<(n:Int):=nf d2
  have d3:yS F P i j=0:=ng d3
  change List Int at s2
  obtain rfl:j=P.length:=by omega
  first
  | exact inR64 (n:=(i:Int)+1) (by omega) (by omega)
  | (have rr:=rtL_yes d3
     refine Stands.next (Stands.one ((i+1,sq,(true,g6,g7,yl.take (rtL F P i).length ++ [(i:Int)] ++ s2,c2)):Nat×List Int×Oq) ⟨⟨by show i+1≤(max 0 k).toNat;omega,⟨by rw [rr,zu];show (yl.take (rtL F P i).length ++ [(i:Int)] ++ s2).take ((rtL F P i).length+1)=_;rw [m3.eq,vh (by simp)],by rw [rr,zu];exact h1,by rw [zu,zu,m3.eq];exact h2,fun h=>by cases h⟩,m4,by show rtL F P (i+1)≠[];rw [rr];simp⟩,by show (max 0 k).toNat - (i+1)<(max 0 k).toNat - i0;omega,?_⟩)
     ((conv=>arg 1;reduce);with_reducible repeat' first | exact ty | refine ta ?_ ?_ | refine ti fun _ => ?_ | refine tf fun _ => ?_ | refine tl ?_)
     all_goals first | exact vlf | (show tI F P (i+1) 0 ++ sq=tI F P i P.length ++ sq;rw [tI_next]) | (show (rtL F P (i+1)).length=1;rw [rr,m3];rfl) | (show (rtL F P (i+1)).length=(rtL F P i).length+1;rw [rr,zu];rfl) | (show (i0:Int)+1=((i+1:Nat):Int);omega) | (show (i:Int)+1=((i+1:Nat):Int);omega) | rfl))
 all_goals try (
  rename_i g1 g2 yy hyy g3 g4 sp hsp x hx d1
  change Nat×List Int×Oq at x
  obtain ⟨i0,sq0,yo0,yb0,yq0,yl0,yc0⟩:=x
  obtain ⟨k1,k2,k3,k4⟩:i0≤(max 0 k).toNat∧Oqw (rtL F P i0) (true,yb0,yq0,yl0,yc0)∧(P.length=0→sq0.length=0)∧rtL F P i0≠[]:=hx
  have d1:¬ (i0:Int)<max 0 k:=nf d1
  have ei:i0=(max 0 k).toNat:=by omega
  refine Ends.one ((true,yb0,yq0,yl0,yc0):Oq) (by show Oqw (rtL F P (max 0 k).toNat) _;rw [← ei];exact k2) ?_
  ((conv=>arg 1;reduce);with_reducible repeat' first | exact ty | refine ta ?_ ?_ | refine ti fun _ => ?_ | refine tf fun _ => ?_ | refine tl ?_)
  all_goals first | exact vlf | (rw [← ei,k2];rfl) | (rw [← ei]))
end
end
end Go.Vx
namespace Go.Vx
open Go Go.Proofs
noncomputable section
variable [Gl]
section
variable (F:Gf)
def fcRoots:Fc Tryz.prog C0 where
 tg:=.fn 91
 X:=(Nat×Nat×Nat×Nat×Nat×Nat)×Sl3×Int
 args:=fun (_,(o,b,q,l,i,n,c),k)=>[.agg [.ptr 0 0 0,.sl 3 i n c,.int .i64 k],.fn (.func 92) [] []]
 mem:=fun ((bF,qF,be,qe,bl,ql),(o,b,q,l,i,n,c),k)=>[fld F bF qF,xCk F be qe,lCk F bl ql,⟨b,q,1,false,some o,.rows 3 l⟩]
 pre:=fun (_,(o,b,q,l,i,n,c),k)=>Sl3.pre (o,b,q,l,i,n,c)∧k<1000000000∧vis (els F ((l.drop i).take n))=(l.drop i).take n
 alts:=fun ((bF,qF,be,qe,bl,ql),(o,b,q,l,i,n,c),k)=>[⟨Oq,fun y=>Oqw (rtL F ((l.drop i).take n) (max 0 k).toNat) y,fun y=>.sl 4 0 (rtL F ((l.drop i).take n) (max 0 k).toNat).length y.2.2.2.2,fun y=>[fld F bF qF,xCk F be qe,lCk F bl ql,⟨b,q,1,false,some o,.rows 3 l⟩,oqC true y]⟩]
 mat vs m:=match vs with
  | [.agg [.ptr f _ _,.sl s i n c,.int _ k],_]=>match nth m f with
    | ⟨bF,qF,_,_,_,.one (_ :: _ :: .sl x _ _ _ :: .sl g _ _ _ :: _)⟩=>match nth m x,nth m g,nth m s with
      | ⟨be,qe,_,_,_,_⟩,⟨bl,ql,_,_,_,_⟩,⟨b,q,_,_,o,.rows 3 l⟩=>some (((bF,qF,be,qe,bl,ql),(onOf o,b,q,l,i,n,c),k),[f,x,g,s])
      | _,_,_=>none
    | _=>none
  | _=>none
 ok:=fun ((bF,qF,be,qe,bl,ql),(o,b,q,l,i,n,c),k) h=>roots_ok F bF qF be qe bl ql o b q l i n c h.1.1 h.1.2.1 h.1.2.2 k h.2.1 _ rfl h.2.2
@[irreducible] def srL (P:List Int) (k:Int):List Int:=rtL F (trL F P) (max 0 (min k ((szF F:Int) - 1))).toNat
theorem trL_vis (P:List Int):vis (els F (trL F P))=trL F P:=by
 unfold trL
 rw [els_vis]
theorem trL_le (P:List Int):(trL F P).length≤P.length:=by
 rw [trL_len];exact trN_le
theorem search_ok (bF qF be qe bl ql:Nat) (o:Bool) (b q:Nat) (l:List Int) (i n c:Nat) (h:i+n≤l.length) (hn:n<1000000000) (hc:n≤c) (ho:o=false→n=0∧c=0) (k:Int):
 Does (C:=C0) Tryz.prog (.fn 62) [fld F bF qF,xCk F be qe,lCk F bl ql,⟨b,q,1,false,some o,.rows 3 l⟩] [.ptr 0 0 0,.sl 3 i n c,.int .i64 k]
  [⟨Oq,fun y=>Oqw (srL F ((l.drop i).take (min n 2048)) k) y,fun y=>.sl 4 0 (srL F ((l.drop i).take (min n 2048)) k).length y.2.2.2.2,fun y=>[fld F bF qF,xCk F be qe,lCk F bl ql,⟨b,q,1,false,some o,.rows 3 l⟩,oqC true y]⟩]:=by
 refine loc_fn (P:=Tryz.prog) (E:=⟨[fcBegun F,fcRoots F],[],12,[],[],[],none⟩) (L:=[]) mix Tryz.func62 rfl (by kernel_rfl) (by kernel_rfl) rfl rfl ?_
 ((conv=>arg 1;reduce);with_reducible repeat' first | exact ty | refine ta ?_ ?_ | refine ti fun _ => ?_ | refine tf fun _ => ?_ | refine tl ?_)
 all_goals try exact vlf
 · exact ⟨⟨h,hn,ho⟩,hc⟩
 · rename_i y hy
   obtain ⟨yo,yb,yl,yc⟩:=y
   have hy:Ow (trL F ((l.drop i).take (min n 2048))) (yo,yb,yl,yc):=hy
   have h1:(trL F ((l.drop i).take (min n 2048))).length≤yc:=hy.cap
   have h2:yc≤yl.length:=hy.len
   have h3:=trL_le F ((l.drop i).take (min n 2048))
   rw [row_len (show i+min n 2048≤l.length by omega)] at h3
   have h4:yl.take (trL F ((l.drop i).take (min n 2048))).length=trL F ((l.drop i).take (min n 2048)):=hy.eq
   obtain ⟨hs,h7,hh⟩:=nF_sz F
   refine ⟨⟨by show 0+(trL F ((l.drop i).take (min n 2048))).length≤yl.length;omega,by show (trL F ((l.drop i).take (min n 2048))).length<1000000000;omega,hy.nil⟩,by show min k ((szF F:Int) - 1)<1000000000;omega,?_⟩
   show vis (els F ((yl.drop 0).take (trL F ((l.drop i).take (min n 2048))).length))=(yl.drop 0).take (trL F ((l.drop i).take (min n 2048))).length
   rw [zq,h4,trL_vis]
 · rename_i y hy z hz
   obtain ⟨yo,yb,yl,yc⟩:=y
   have hy:Ow (trL F ((l.drop i).take (min n 2048))) (yo,yb,yl,yc):=hy
   have h4:yl.take (trL F ((l.drop i).take (min n 2048))).length=trL F ((l.drop i).take (min n 2048)):=hy.eq
   have hz:Oqw (rtL F ((yl.drop 0).take (trL F ((l.drop i).take (min n 2048))).length) (max 0 (min k ((szF F:Int) - 1))).toNat) z:=hz
   have e:rtL F ((yl.drop 0).take (trL F ((l.drop i).take (min n 2048))).length) (max 0 (min k ((szF F:Int) - 1))).toNat=srL F ((l.drop i).take (min n 2048)) k:=by
    rw [zq,h4];unfold srL;rfl
   rw [e] at hz
   refine Ends.one z hz ?_
   ((conv=>arg 1;reduce);with_reducible repeat' first | exact ty | refine ta ?_ ?_ | refine ti fun _ => ?_ | refine tf fun _ => ?_ | refine tl ?_)
   all_goals first | exact vlf | exact congrArg wh e | exact (congrArg wh e).symm
def fcSearch:Fc Tryz.prog C0 where
 tg:=.fn 62
 X:=(Nat×Nat×Nat×Nat×Nat×Nat)×Sl3×Int
 args:=fun (_,(o,b,q,l,i,n,c),k)=>[.ptr 0 0 0,.sl 3 i n c,.int .i64 k]
 mem:=fun ((bF,qF,be,qe,bl,ql),(o,b,q,l,i,n,c),k)=>[fld F bF qF,xCk F be qe,lCk F bl ql,⟨b,q,1,false,some o,.rows 3 l⟩]
 pre:=fun (_,x,k)=>Sl3.pre x∧x.2.2.2.2.2.1≤x.2.2.2.2.2.2
 alts:=fun ((bF,qF,be,qe,bl,ql),(o,b,q,l,i,n,c),k)=>[⟨Oq,fun y=>Oqw (srL F ((l.drop i).take (min n 2048)) k) y,fun y=>.sl 4 0 (srL F ((l.drop i).take (min n 2048)) k).length y.2.2.2.2,fun y=>[fld F bF qF,xCk F be qe,lCk F bl ql,⟨b,q,1,false,some o,.rows 3 l⟩,oqC true y]⟩]
 mat vs m:=match vs with
  | [.ptr f _ _,.sl s i n c,.int _ k]=>match nth m f with
    | ⟨bF,qF,_,_,_,.one (_ :: _ :: .sl x _ _ _ :: .sl g _ _ _ :: _)⟩=>match nth m x,nth m g,nth m s with
      | ⟨be,qe,_,_,_,_⟩,⟨bl,ql,_,_,_,_⟩,⟨b,q,_,_,o,.rows 3 l⟩=>some (((bF,qF,be,qe,bl,ql),(onOf o,b,q,l,i,n,c),k),[f,x,g,s])
      | _,_,_=>none
    | _=>none
  | _=>none
 ok:=fun ((bF,qF,be,qe,bl,ql),(o,b,q,l,i,n,c),k) h=>search_ok F bF qF be qe bl ql o b q l i n c h.1.1 h.1.2.1 h.2 h.1.2.2 k
end
end
end Go.Vx
namespace Go.Vx
open Go Go.Proofs
noncomputable section
variable [Gl]
section
@[irreducible] def clnB (P:List Int):Bool:=P.all fun x=>decide (x=0)
theorem clnB_iff {P:List Int}:clnB P=true↔∀ x∈P,x=0:=by unfold clnB;simp
theorem clnB_yes {P:List Int} (h:∀ a,a<P.length→P.getD a 0=0):clnB P=true:=by
 refine clnB_iff.2 fun x hx => ?_
 obtain ⟨a,ha,rfl⟩:=List.mem_iff_getElem.1 hx
 have:=h a ha
 rwa [zy,zt ha] at this
theorem clnB_no {P:List Int} {a:Nat} (ha:a<P.length) (h:P.getD a 0≠0):clnB P=false:=by
 refine Bool.eq_false_iff.2 fun e=>h ?_
 rw [zy,zt ha]
 exact clnB_iff.1 e _ (xi ha)
def Cl2 (P:List Int):Inv' C0:=⟨2,Nat,fun i=>[(7,.int .i64 (i:Int))],fun i m=>m,fun i=>i≤P.length∧∀ j,j<i→P.getD j 0=0,fun i=>P.length - i⟩
theorem clean_ok (o:Bool) (b q:Nat) (l:List Int) (i n c:Nat) (h:i+n≤l.length) (hn:n<1000000000) (ho:o=false→n=0∧c=0) (P:List Int) (hP:(l.drop i).take n=P):
 Tells (C:=C0) Tryz.prog (.fn 58) [⟨b,q,1,false,some o,.rows 3 l⟩] [.sl 0 i n c] (.bool (SB.tm (clnB P))):=by
 have hL:P.length=n:=by rw [← hP];exact row_len h
 have pv:∀ j,j<n→l.getD (j+i) 0=P.getD j 0:=by rw [← hP];exact row_at
 refine loc_pc (P:=Tryz.prog) (E:=⟨[],[],14,[],[],[],none⟩) (L:=[Cl2 P]) mix Tryz.func58 rfl (by kernel_rfl) (by kernel_rfl) rfl rfl ?_
 ((conv=>arg 1;reduce);with_reducible repeat' first | exact ty | refine ta ?_ ?_ | refine ti fun _ => ?_ | refine tf fun _ => ?_ | refine tl ?_)
 all_goals try exact vlf
 · refine Stands.one (0:Nat) ⟨⟨ze _,fun j hj=>absurd hj (wy j)⟩,?_⟩
   exact vgo
 all_goals try (
  rename_i j hj d
  change Nat at j
  obtain ⟨k1,k2⟩:j≤P.length∧∀ a,a<j→P.getD a 0=0:=hj
  have d:(j:Int)<(n:Int):=ng d
  first
  | exact on_of ho (by omega)
  | exact d
  | (show (j:Int).toNat+i<l.length;omega))
 all_goals try (
  rename_i j hj d e
  change Nat at j
  obtain ⟨k1,k2⟩:j≤P.length∧∀ a,a<j→P.getD a 0=0:=hj
  have d:(j:Int)<(n:Int):=ng d
  first
  | exact inR64 (n:=(j:Int)+1) (by omega) (by omega)
  | (have e:l.getD ((j:Int).toNat+i) 0≠0:=ng e
     rw [zo,pv j (by omega)] at e
     exact (clnB_no (by omega) e).symm)
  | (have e:¬ l.getD ((j:Int).toNat+i) 0≠0:=nf e
     rw [zo,pv j (by omega)] at e
     have e:=Classical.not_not.1 e
     refine Stands.one (j+1:Nat) ⟨⟨by show j+1≤P.length;omega,fun a ha => ?_⟩,by show P.length - (j+1)<P.length - j;omega,?_⟩
     · by_cases h9:a=j
       · rw [h9];exact e
       · exact k2 a (by omega)
     exact vgo))
 · rename_i j hj d
   change Nat at j
   obtain ⟨k1,k2⟩:j≤P.length∧∀ a,a<j→P.getD a 0=0:=hj
   have d:¬ (j:Int)<(n:Int):=nf d
   exact (clnB_yes fun a ha=>k2 a (by omega)).symm
def pcClean:Pc Tryz.prog C0 where
 tg:=.fn 58
 X:=Sl3
 args:=fun (o,b,q,l,i,n,c)=>[.sl 0 i n c]
 mem:=fun (o,b,q,l,i,n,c)=>[⟨b,q,1,false,some o,.rows 3 l⟩]
 pre:=Sl3.pre
 res:=fun (o,b,q,l,i,n,c)=>.bool (SB.tm (clnB ((l.drop i).take n)))
 mat vs m:=match vs with
  | [.sl s i n c]=>match nth m s with
    | ⟨b,q,_,_,g,.rows 3 l⟩=>some ((onOf g,b,q,l,i,n,c),[s])
    | _=>none
  | _=>none
 ok:=fun (o,b,q,l,i,n,c) h=>clean_ok o b q l i n c h.1 h.2.1 h.2.2 _ rfl
end
end
end Go.Vx
namespace Go.Vx
open Go Go.Proofs
noncomputable section
variable [Gl]
theorem coT_ok (b q:Nat) (v:Int):Tells (C:=C0) Tryz.prog (.fn 61) [⟨b,q,263,false,none,.one [.junk,.int .i64 v]⟩] [.ptr 0 0 0] (.int .i64 v):=by
 refine loc_pc (P:=Tryz.prog) (E:=⟨[],[],7,[],[],[],none⟩) (L:=[]) mix Tryz.func61 rfl (by kernel_rfl) (by kernel_rfl) rfl rfl ?_
 exact vgo
def pcCoT:Pc Tryz.prog C0 where
 tg:=.fn 61
 X:=Nat×Nat×Int
 args _:=[.ptr 0 0 0]
 mem:=fun (b,q,v)=>[⟨b,q,263,false,none,.one [.junk,.int .i64 v]⟩]
 pre _:=True
 res:=fun (b,q,v)=>.int .i64 v
 mat vs m:=match vs with
  | [.ptr c _ _]=>match nth m c with
    | ⟨b,q,_,_,_,.one (_ :: .int _ v :: _)⟩=>some ((b,q,v),[c])
    | _=>none
  | _=>none
 ok:=fun (b,q,v) _=>coT_ok b q v
theorem coData_ok (b q:Nat) (v:Int):Tells (C:=C0) Tryz.prog (.fn 31) [⟨b,q,263,false,none,.one [.junk,.junk,.int .i64 v]⟩] [.ptr 0 0 0] (.int .i64 v):=by
 refine loc_pc (P:=Tryz.prog) (E:=⟨[],[],7,[],[],[],none⟩) (L:=[]) mix Tryz.func31 rfl (by kernel_rfl) (by kernel_rfl) rfl rfl ?_
 exact vgo
def pcCoData:Pc Tryz.prog C0 where
 tg:=.fn 31
 X:=Nat×Nat×Int
 args _:=[.ptr 0 0 0]
 mem:=fun (b,q,v)=>[⟨b,q,263,false,none,.one [.junk,.junk,.int .i64 v]⟩]
 pre _:=True
 res:=fun (b,q,v)=>.int .i64 v
 mat vs m:=match vs with
  | [.ptr c _ _]=>match nth m c with
    | ⟨b,q,_,_,_,.one (_ :: _ :: .int _ v :: _)⟩=>some ((b,q,v),[c])
    | _=>none
  | _=>none
 ok:=fun (b,q,v) _=>coData_ok b q v
theorem coDegree_ok (b q:Nat) (v:Int):Tells (C:=C0) Tryz.prog (.fn 33) [⟨b,q,263,false,none,.one [.junk,.junk,.junk,.int .i64 v]⟩] [.ptr 0 0 0] (.int .i64 v):=by
 refine loc_pc (P:=Tryz.prog) (E:=⟨[],[],7,[],[],[],none⟩) (L:=[]) mix Tryz.func33 rfl (by kernel_rfl) (by kernel_rfl) rfl rfl ?_
 exact vgo
def pcCoDegree:Pc Tryz.prog C0 where
 tg:=.fn 33
 X:=Nat×Nat×Int
 args _:=[.ptr 0 0 0]
 mem:=fun (b,q,v)=>[⟨b,q,263,false,none,.one [.junk,.junk,.junk,.int .i64 v]⟩]
 pre _:=True
 res:=fun (b,q,v)=>.int .i64 v
 mat vs m:=match vs with
  | [.ptr c _ _]=>match nth m c with
    | ⟨b,q,_,_,_,.one (_ :: _ :: _ :: .int _ v :: _)⟩=>some ((b,q,v),[c])
    | _=>none
  | _=>none
 ok:=fun (b,q,v) _=>coDegree_ok b q v
theorem coParity_ok (b q:Nat) (v:Int):Tells (C:=C0) Tryz.prog (.fn 32) [⟨b,q,263,false,none,.one [.junk,.junk,.junk,.junk,.int .i64 v]⟩] [.ptr 0 0 0] (.int .i64 v):=by
 refine loc_pc (P:=Tryz.prog) (E:=⟨[],[],7,[],[],[],none⟩) (L:=[]) mix Tryz.func32 rfl (by kernel_rfl) (by kernel_rfl) rfl rfl ?_
 exact vgo
def pcCoParity:Pc Tryz.prog C0 where
 tg:=.fn 32
 X:=Nat×Nat×Int
 args _:=[.ptr 0 0 0]
 mem:=fun (b,q,v)=>[⟨b,q,263,false,none,.one [.junk,.junk,.junk,.junk,.int .i64 v]⟩]
 pre _:=True
 res:=fun (b,q,v)=>.int .i64 v
 mat vs m:=match vs with
  | [.ptr c _ _]=>match nth m c with
    | ⟨b,q,_,_,_,.one (_ :: _ :: _ :: _ :: .int _ v :: _)⟩=>some ((b,q,v),[c])
    | _=>none
  | _=>none
 ok:=fun (b,q,v) _=>coParity_ok b q v
theorem coBits_ok (b q:Nat) (v w:Int) (h1:0≤v) (h2:v<1000000000) (h3:0≤w) (h4:w<1000000000):Tells (C:=C0) Tryz.prog (.fn 49) [⟨b,q,263,false,none,.one [.junk,.junk,.int .i64 v,.int .i64 w]⟩] [.ptr 0 0 0] (.int .i64 (8*v+w)):=by
 refine loc_pc (P:=Tryz.prog) (E:=⟨[],[],13,[],[],[],none⟩) (L:=[]) mix Tryz.func49 rfl (by kernel_rfl) (by kernel_rfl) rfl rfl ?_
 ((conv=>arg 1;reduce);with_reducible repeat' first | exact ty | refine ta ?_ ?_ | refine ti fun _ => ?_ | refine tf fun _ => ?_ | refine tl ?_)
 all_goals try exact vlf
 all_goals first | exact inR64 (n:=8*v) (by omega) (by omega) | exact inR64 (n:=8*v+w) (by omega) (by omega)
def pcCoBits:Pc Tryz.prog C0 where
 tg:=.fn 49
 X:=Nat×Nat×Int×Int
 args _:=[.ptr 0 0 0]
 mem:=fun (b,q,v,w)=>[⟨b,q,263,false,none,.one [.junk,.junk,.int .i64 v,.int .i64 w]⟩]
 pre:=fun (b,q,v,w)=>0≤v∧v<1000000000∧0≤w∧w<1000000000
 res:=fun (b,q,v,w)=>.int .i64 (8*v+w)
 mat vs m:=match vs with
  | [.ptr c _ _]=>match nth m c with
    | ⟨b,q,_,_,_,.one (_ :: _ :: .int _ v :: .int _ w :: _)⟩=>some ((b,q,v,w),[c])
    | _=>none
  | _=>none
 ok:=fun (b,q,v,w) h=>coBits_ok b q v w h.1 h.2.1 h.2.2.1 h.2.2.2
theorem coField_ok (b q bF qF:Nat):Tells (C:=C0) Tryz.prog (.fn 60) [⟨b,q,263,false,none,.one [.ptr 1 0 0]⟩,⟨bF,qF,4,false,none,.one []⟩] [.ptr 0 0 0] (.ptr 1 0 0):=by
 refine loc_pc (P:=Tryz.prog) (E:=⟨[],[],7,[],[],[],none⟩) (L:=[]) mix Tryz.func60 rfl (by kernel_rfl) (by kernel_rfl) rfl rfl ?_
 exact vgo
def pcCoField:Pc Tryz.prog C0 where
 tg:=.fn 60
 X:=Nat×Nat×Nat×Nat
 args _:=[.ptr 0 0 0]
 mem:=fun (b,q,bF,qF)=>[⟨b,q,263,false,none,.one [.ptr 1 0 0]⟩,⟨bF,qF,4,false,none,.one []⟩]
 pre _:=True
 res _:=.ptr 1 0 0
 mat vs m:=match vs with
  | [.ptr c _ _]=>match nth m c with
    | ⟨b,q,_,_,_,.one (.ptr f _ _ :: _)⟩=>match nth m f with
      | ⟨bF,qF,_,_,_,_⟩=>some ((b,q,bF,qF),[c,f])
    | _=>none
  | _=>none
 ok:=fun (b,q,bF,qF) _=>coField_ok b q bF qF
end
end Go.Vx
namespace Go.Vx
open Go Go.Proofs
noncomputable section
variable [Gl]
section
variable (F:Gf)
def sS (A:List Int) (a i:Nat):El F:=Fd.su (A.take a) fun p=>Fd.pw (exF F p) (i+1)
@[irreducible] def sI (A:List Int) (T a j:Nat):List Int:=(xj T).map fun i=>if i<j then vi (sS F A (a+1) i) else vi (sS F A a i)
@[irreducible] def svL (A:List Int) (T:Nat):List Int:=(xj T).map fun i=>vi (Fd.su A fun p=>Fd.pw (exF F p) (i+1))
@[irreducible] def xI (A:List Int) (a j:Nat):Int:=vi (Fd.pw (exF F (A.getD a 0)) j)
variable {F}
theorem sI_len {A:List Int} {T a j:Nat}:(sI F A T a j).length=T:=by unfold sI;simp
theorem sI_zero {A:List Int} {T:Nat}:zw T (0:Int)=sI F A T 0 0:=by
 unfold sI
 refine wn (by simp) fun i h1 h2 => ?_
 simp only [List.getElem_replicate,th,sj,wy,if_false]
 rfl
theorem sI_next {A:List Int} {T a:Nat}:sI F A T a T=sI F A T (a+1) 0:=by
 unfold sI
 refine xh fun k hk => ?_
 rw [if_pos (List.mem_range.1 hk),if_neg (wy k)]
theorem sI_end {A:List Int} {T:Nat}:sI F A T A.length 0=svL F A T:=by
 unfold sI svL
 refine xh fun k hk => ?_
 rw [if_neg (wy k)]
 unfold sS
 rw [List.take_length]
theorem xI_zero {A:List Int} {a:Nat}:xI F A a 0=1:=by unfold xI;rfl
theorem xI_succ {A:List Int} {a j:Nat}:muI F (xI F A a j) (vi (exF F (A.getD a 0)))=xI F A a (j+1):=by
 unfold xI
 rw [muI_eq,el_vi,el_vi]
 rfl
theorem sS_succ {A:List Int} {a i:Nat} (h:a<A.length):sS F A (a+1) i=sS F A a i+Fd.pw (exF F (A.getD a 0)) (i+1):=by
 unfold sS
 rw [List.take_add_one,Fd.su_app]
 congr 1
 rw [zy,zt h]
 show Fd.pw _ _+Fd.zr=_
 rw [Fd.add0]
 rfl
theorem sI_set {A:List Int} {T a j:Nat} (h:j<T) (ha:a<A.length):(sI F A T a j).set j (loI F (ibit .xor .i64 ((sI F A T a j).getD j 0) (xI F A a (j+1))))=sI F A T a (j+1):=by
 have e:(sI F A T a j).getD j 0=vi (sS F A a j):=by
  unfold sI
  simp only [zy,zh,wq h,yk,xy,if_neg (ua j)]
 rw [e,lo_xor]
 unfold xI
 rw [el_vi,el_vi,← sS_succ ha]
 unfold sI
 rw [set_map h]
 refine xh fun k _ => ?_
 by_cases hk:k=j
 · subst hk
   rw [if_pos rfl,if_pos (by omega)]
 · rw [if_neg hk]
   by_cases h2:k<j
   · rw [if_pos h2,if_pos (by omega)]
   · rw [if_neg h2,if_neg (by omega)]
variable (F)
def Sv5 (A:List Int) (T:Nat):Inv' C0:=⟨5,Nat,fun a=>[(23,.int .i64 (a:Int))],fun a m=>match m with
 | [a0,a1,a2,a3,a4,x]=>[a0,a1,a2,a3,a4,⟨x.block,x.base,1,true,none,.rows 3 (sI F A T a 0)⟩]
 | m=>m,fun a=>a≤A.length,fun a=>A.length - a⟩
def Sv10 (A:List Int) (T:Nat):Inv' C0:=⟨10,Nat×Nat,fun x=>[(23,.int .i64 (x.1:Int)),(32,.int .i64 (x.2:Int)),(11,.int .i64 (xI F A x.1 x.2)),(10,.int .i64 (vi (exF F (A.getD x.1 0))))],fun x m=>match m with
 | [a0,a1,a2,a3,a4,s]=>[a0,a1,a2,a3,a4,⟨s.block,s.base,1,true,none,.rows 3 (sI F A T x.1 x.2)⟩]
 | m=>m,fun x=>x.1<A.length∧x.2≤T,fun x=>T - x.2⟩
set_option maxHeartbeats 4000000 in
theorem values_ok (bC qC bF qF be qe bl ql:Nat) (t:Nat) (ht:t<1000000) (o:Bool) (b q:Nat) (l:List Int) (i n c:Nat) (h:i+n≤l.length) (hn:n<1000000000) (ho:o=false→n=0∧c=0) (A:List Int) (hA:(l.drop i).take n=A) (hb:∀ a,a<n→0≤A.getD a 0∧A.getD a 0<1000000000):
 Does (C:=C0) Tryz.prog (.fn 83) ([⟨bC,qC,263,false,none,.one [.ptr 1 0 0,.int .i64 (t:Int)]⟩] ++ [⟨bF,qF,4,false,none,.one [.int .i64 (F.m:Int),.int .i64 (szF F:Int),.sl 2 0 (nF F) (nF F),.sl 3 0 (szF F) (szF F)]⟩,xCk F be qe,lCk F bl ql] ++ [⟨b,q,1,false,some o,.rows 3 l⟩]) [.ptr 0 0 0,.sl 4 i n c]
  [⟨Nat,fun _=>True,fun y=>.sl 5 0 (2*t) (2*t),fun y=>[⟨bC,qC,263,false,none,.one [.ptr 1 0 0,.int .i64 (t:Int)]⟩] ++ [⟨bF,qF,4,false,none,.one [.int .i64 (F.m:Int),.int .i64 (szF F:Int),.sl 2 0 (nF F) (nF F),.sl 3 0 (szF F) (szF F)]⟩,xCk F be qe,lCk F bl ql] ++ [⟨b,q,1,false,some o,.rows 3 l⟩,⟨y,0,1,true,none,.rows 3 (svL F A (2*t))⟩]⟩]:=by
 have hby:(Tryz.prog.types[3].bytes:Int)=8:=by kernel_rfl
 have lI:=fun a j=>sI_len (F:=F) (A:=A) (T:=2*t) (a:=a) (j:=j)
 have hL:A.length=n:=by rw [← hA];exact row_len h
 have pv:∀ j,j<n→l.getD (j+i) 0=A.getD j 0:=by rw [← hA];exact row_at
 refine loc_fn (P:=Tryz.prog) (E:=⟨[],[pcCoT,pcCoField,pcExp F,pcMul F,pcAdd F],52,[],[],[],none⟩) (L:=[Sv5 F A (2*t),Sv10 F A (2*t)]) mix Tryz.func83 rfl (by kernel_rfl) (by kernel_rfl) rfl rfl ?_
 ((conv=>arg 1;reduce);with_reducible repeat' first | exact ty | refine ta ?_ ?_ | refine ti fun _ => ?_ | refine tf fun _ => ?_ | refine tl ?_)
 all_goals try exact vlf
 · exact ⟨by omega,by omega,by rw [hby];omega,by omega⟩
 · refine Stands.one (0:Nat) ⟨ze _,?_⟩
   ((conv=>arg 1;reduce);with_reducible repeat' first | exact ty | refine ta ?_ ?_ | refine ti fun _ => ?_ | refine tf fun _ => ?_ | refine tl ?_)
   all_goals first | exact vlf | (show sI F A (2*t) 0 0=zw (2*(t:Int)).toNat (0:Int);rw [show (2*(t:Int)).toNat=2*t by omega,sI_zero])
 all_goals try (
  rename_i y a ha d
  change Nat at a
  have ha:a≤A.length:=ha
  have d:(a:Int)<(n:Int):=ng d
  first
  | exact on_of ho (by omega)
  | exact d
  | (show (a:Int).toNat+i<l.length;omega)
  | (have h9:=hb a (by omega)
     show -4611686018427387904≤l.getD ((a:Int).toNat+i) 0∧l.getD ((a:Int).toNat+i) 0≤4611686018427387904
     rw [zo,pv a (by omega)]
     omega)
  | (refine Stands.one ((a,0):Nat×Nat) ⟨⟨by show a<A.length;omega,ze _⟩,?_⟩
     ((conv=>arg 1;reduce);with_reducible repeat' first | exact ty | refine ta ?_ ?_ | refine ti fun _ => ?_ | refine tf fun _ => ?_ | refine tl ?_)
     all_goals first
      | exact vlf
      | exact xI_zero.symm
      | (show vi (exF F (l.getD ((a:Int).toNat+i) 0))=vi (exF F (A.getD a 0));rw [zo,pv a (by omega)])))
 all_goals try (
  rename_i y a ha d z hz e1 e2 d2
  change Nat at a
  change Nat×Nat at z
  obtain ⟨a',j⟩:=z
  obtain ⟨k1,k2⟩:a'<A.length∧j≤2*t:=hz
  have ha:a≤A.length:=ha
  have e1:(a:Int)=(a':Int):=e1
  obtain rfl:a=a':=by omega
  have d2:(j:Int)<((2*(t:Int)).toNat:Int):=ng d2
  first
  | exact d2
  | (show (j:Int).toNat+0<(sI F A (2*t) a j).length;rw [lI];omega)
  | exact inR64 (n:=(j:Int)+1) (by omega) (by omega)
  | (have e2:vi (exF F (l.getD ((a:Int).toNat+i) 0))=vi (exF F (A.getD a 0)):=e2
     refine Stands.one ((a,j+1):Nat×Nat) ⟨⟨k1,by show j+1≤2*t;omega⟩,by show 2*t - (j+1)<2*t - j;omega,?_⟩
     ((conv=>arg 1;reduce);with_reducible repeat' first | exact ty | refine ta ?_ ?_ | refine ti fun _ => ?_ | refine tf fun _ => ?_ | refine tl ?_)
     all_goals first
      | exact vlf
      | (show muI F (xI F A a j) (vi (exF F (A.getD a 0)))=xI F A a (j+1);rw [xI_succ])
      | (show muI F (xI F A a j) (vi (exF F (l.getD ((a:Int).toNat+i) 0)))=xI F A a (j+1);rw [e2,xI_succ])
      | (show sI F A (2*t) a (j+1)=(sI F A (2*t) a j).set ((j:Int).toNat+0) (loI F (ibit .xor .i64 ((sI F A (2*t) a j).getD ((j:Int).toNat+0) 0) (muI F (xI F A a j) (vi (exF F (A.getD a 0))))))
         rw [xI_succ,zo,yx j,sI_set (A:=A) (T:=2*t) (a:=a) (j:=j) (by omega) k1])))
 all_goals try (
  rename_i y a ha d z hz e1 e2 d2
  change Nat at a
  change Nat×Nat at z
  obtain ⟨a',j⟩:=z
  obtain ⟨k1,k2⟩:a'<A.length∧j≤2*t:=hz
  have ha:a≤A.length:=ha
  have e1:(a:Int)=(a':Int):=e1
  obtain rfl:a=a':=by omega
  have d2:¬ (j:Int)<((2*(t:Int)).toNat:Int):=nf d2
  obtain rfl:j=2*t:=by omega
  first
  | exact inR64 (n:=(a:Int)+1) (by omega) (by omega)
  | (refine Stands.next (Stands.one (a+1:Nat) ⟨by show a+1≤A.length;omega,by show A.length - (a+1)<A.length - a;omega,?_⟩)
     ((conv=>arg 1;reduce);with_reducible repeat' first | exact ty | refine ta ?_ ?_ | refine ti fun _ => ?_ | refine tf fun _ => ?_ | refine tl ?_)
     all_goals first | exact vlf | exact sI_next.symm | exact sI_next)
  | (refine Stands.one (a+1:Nat) ⟨by show a+1≤A.length;omega,by show A.length - (a+1)<A.length - a;omega,?_⟩
     ((conv=>arg 1;reduce);with_reducible repeat' first | exact ty | refine ta ?_ ?_ | refine ti fun _ => ?_ | refine tf fun _ => ?_ | refine tl ?_)
     all_goals first | exact vlf | exact sI_next.symm | exact sI_next))
 · rename_i y a ha d
   change Nat at a
   have ha:a≤A.length:=ha
   have d:¬ (a:Int)<(n:Int):=nf d
   obtain rfl:a=A.length:=by omega
   refine Ends.one y trivial ?_
   ((conv=>arg 1;reduce);with_reducible repeat' first | exact ty | refine ta ?_ ?_ | refine ti fun _ => ?_ | refine tf fun _ => ?_ | refine tl ?_)
   all_goals first | exact vlf | exact sI_end.symm | exact sI_end | (show 2*t=(2*(t:Int)).toNat;omega) | (show (2*(t:Int)).toNat=2*t;omega)
def fcValues:Fc Tryz.prog C0 where
 tg:=.fn 83
 X:=(Nat×Nat×Nat)×(Nat×Nat×Nat×Nat×Nat×Nat)×Sl3
 args:=fun (_,_,(o,b,q,l,i,n,c))=>[.ptr 0 0 0,.sl 4 i n c]
 mem:=fun ((bC,qC,t),(bF,qF,be,qe,bl,ql),(o,b,q,l,i,n,c))=>[⟨bC,qC,263,false,none,.one [.ptr 1 0 0,.int .i64 (t:Int)]⟩] ++ [⟨bF,qF,4,false,none,.one [.int .i64 (F.m:Int),.int .i64 (szF F:Int),.sl 2 0 (nF F) (nF F),.sl 3 0 (szF F) (szF F)]⟩,xCk F be qe,lCk F bl ql] ++ [⟨b,q,1,false,some o,.rows 3 l⟩]
 pre:=fun ((_,_,t),_,(o,b,q,l,i,n,c))=>t<1000000∧Sl3.pre (o,b,q,l,i,n,c)∧∀ a,a<n→0≤((l.drop i).take n).getD a 0∧((l.drop i).take n).getD a 0<1000000000
 alts:=fun ((bC,qC,t),(bF,qF,be,qe,bl,ql),(o,b,q,l,i,n,c))=>[⟨Nat,fun _=>True,fun y=>.sl 5 0 (2*t) (2*t),fun y=>[⟨bC,qC,263,false,none,.one [.ptr 1 0 0,.int .i64 (t:Int)]⟩] ++ [⟨bF,qF,4,false,none,.one [.int .i64 (F.m:Int),.int .i64 (szF F:Int),.sl 2 0 (nF F) (nF F),.sl 3 0 (szF F) (szF F)]⟩,xCk F be qe,lCk F bl ql] ++ [⟨b,q,1,false,some o,.rows 3 l⟩,⟨y,0,1,true,none,.rows 3 (svL F ((l.drop i).take n) (2*t))⟩]⟩]
 mat vs m:=match vs with
  | [.ptr p _ _,.sl s i n c]=>match nth m p with
    | ⟨bC,qC,_,_,_,.one (.ptr f _ _ :: .int _ (t:Nat) :: _)⟩=>match nth m f with
      | ⟨bF,qF,_,_,_,.one (_ :: _ :: .sl x _ _ _ :: .sl g _ _ _ :: _)⟩=>match nth m x,nth m g,nth m s with
        | ⟨be,qe,_,_,_,_⟩,⟨bl,ql,_,_,_,_⟩,⟨b,q,_,_,o,.rows 3 l⟩=>some (((bC,qC,t),(bF,qF,be,qe,bl,ql),(onOf o,b,q,l,i,n,c)),[p,f,x,g,s])
        | _,_,_=>none
      | _=>none
    | _=>none
  | [.ptr p _ _,.nils]=>match nth m p with
    | ⟨bC,qC,_,_,_,.one (.ptr f _ _ :: .int _ (t:Nat) :: _)⟩=>match nth m f with
      | ⟨bF,qF,_,_,_,.one (_ :: _ :: .sl x _ _ _ :: .sl g _ _ _ :: _)⟩=>match nth m x,nth m g with
        | ⟨be,qe,_,_,_,_⟩,⟨bl,ql,_,_,_,_⟩=>some (((bC,qC,t),(bF,qF,be,qe,bl,ql),(false,0,0,[],0,0,0)),[p,f,x,g,m.length])
      | _=>none
    | _=>none
  | _=>none
 ok:=fun ((bC,qC,t),(bF,qF,be,qe,bl,ql),(o,b,q,l,i,n,c)) h=>values_ok F bC qC bF qF be qe bl ql t h.1 o b q l i n c h.2.1.1 h.2.1.2.1 h.2.1.2.2 _ rfl h.2.2
end
end
end Go.Vx
namespace Go.Vx
open Go Go.Proofs
noncomputable section
variable [Gl]
section
def wdB (g:Nat) (D R:List Int) (j:Nat):Bool:=if j<g then bt R j else bt D (j - g)
@[irreducible] def psL (g:Nat) (D R:List Int) (i:Nat):List Int:=((xj i).filter fun a:Nat=>wdB g D R a).map fun a:Nat=>(a:Int)
section
variable {g i:Nat} {D R:List Int}
theorem psL_zero:psL g D R 0=[]:=by unfold psL;rfl
theorem psL_yes (h:wdB g D R i=true):psL g D R (i+1)=psL g D R i ++ [(i:Int)]:=by
 unfold psL
 rw [ue,sk,vk]
 simp [h]
theorem psL_no (h:wdB g D R i=false):psL g D R (i+1)=psL g D R i:=by
 unfold psL
 rw [ue,sk,vk]
 simp [h]
theorem psL_len:(psL g D R i).length≤i:=by
 unfold psL
 rw [zm]
 exact xk (qr _ _) (by simp)
theorem psL_in:∀ a,a<(psL g D R i).length→0≤(psL g D R i).getD a 0∧(psL g D R i).getD a 0<(i:Int):=by
 intro a ha
 rw [zy,zt ha,xy]
 have hm:=xi ha
 unfold psL at hm
 obtain ⟨k,hk,e⟩:=List.mem_map.1 hm
 have hk:=List.mem_range.1 (List.mem_filter.1 hk).1
 have e2:(psL g D R i)[a]=(k:Int):=by rw [e];unfold psL;rfl
 rw [e2]
 omega
end
end
theorem bit8 {x:Int} (h:0≤x∧x<256) {s:Nat} (hs:s<8):decide (0<ibit .and .u8 (ishr .u8 x (s:Int)) 1)=x.toNat.testBit s:=by
 obtain ⟨a,rfl⟩:=yh h.1
 have h3:a / 2 ^ s≤a:=si _ _
 have e:=and8 (a:=a / 2 ^ s) (b:=1) (by omega) (by omega)
 rw [shr8 .u8 a s (show s≤8 by omega)]
 rw [show ibit .and .u8 ((a / 2 ^ s:Nat):Int) 1=((a / 2 ^ s &&& 1:Nat):Int) from e,rp,zo,xb]
 refine decide_eq_decide.2 ?_
 omega
theorem bitv {l:List Int} {i n:Nat} {W:List Int} {z:Int} {a:Nat} (hW:(l.drop i).take n=W) (kW:Byt8 W) (hz:z=(a:Int)) (ha:a / 8<n) (hl:i+n≤l.length):
 decide (0<ibit .and .u8 (ishr .u8 (l.getD ((z.tdiv 8).toNat+i) 0) (z.tmod 8)) 1)=bt W a:=by
 subst hz
 rw [show (a:Int).tdiv 8=((a / 8:Nat):Int) from (ym a 8).symm,show (a:Int).tmod 8=((a % 8:Nat):Int) from (zb a 8).symm,zo,row_at (n:=n) (a / 8) ha,hW]
 have hL:W.length=n:=by rw [← hW];exact row_len hl
 have hx:0≤W.getD (a / 8) 0∧W.getD (a / 8) 0<256:=by
  rw [zy,zt (by omega),xy]
  exact kW _ (xi _)
 exact bit8 hx (zc _ (by omega))
section
variable (F:Gf)
abbrev coC (F:Gf) (bC qC t d g r bF qF be qe bl ql:Nat):List (Ck C0):=[⟨bC,qC,263,false,none,.one [.ptr 1 0 0,.int .i64 (t:Int),.int .i64 (d:Int),.int .i64 (g:Int),.int .i64 (r:Int)]⟩,⟨bF,qF,4,false,none,.one [.int .i64 (F.m:Int),.int .i64 (szF F:Int),.sl 2 0 (nF F) (nF F),.sl 3 0 (szF F) (szF F)]⟩,xCk F be qe,lCk F bl ql]
def Of5n (g:Nat) (D R:List Int) (N:Nat):Inv' C0:=⟨5,Nat,fun i=>[(27,.int .i64 (i:Int)),(8,.nils)],fun i m=>m,fun i=>i≤N∧psL g D R i=[],fun i=>N - i⟩
def Of5s (g:Nat) (D R:List Int) (N:Nat):Inv' C0:=⟨5,Nat×Oq,fun x=>[(27,.int .i64 (x.1:Int)),(8,.sl 6 0 (psL g D R x.1).length x.2.2.2.2.2)],fun x m=>match m with
 | a0 :: a1 :: a2 :: a3 :: a4 :: a5 :: _=>[a0,a1,a2,a3,a4,a5,⟨x.2.2.1,x.2.2.2.1,1,true,none,.rows 3 x.2.2.2.2.1⟩]
 | m=>m,fun x=>x.1≤N∧Oqw (psL g D R x.1) (true,x.2.2),fun x=>N - x.1⟩
set_option maxHeartbeats 4000000 in
theorem of_ok (bC qC t d g r bF qF be qe bl ql:Nat) (ht:t<1000000) (hd:d<100000) (hg:g<100000) (hr:g≤8*r) (o:Bool) (b q:Nat) (l:List Int) (i n c:Nat) (h:i+n≤l.length) (ho:o=false→n=0∧c=0) (o':Bool) (b' q':Nat) (l':List Int) (i' n' c':Nat) (h':i'+n'≤l'.length) (ho':o'=false→n'=0∧c'=0) (hn:n=d) (hn':n'=r) (hrr:r<100000) (D R:List Int) (hD:(l.drop i).take n=D) (hR:(l'.drop i').take n'=R) (kD:Byt8 D) (kR:Byt8 R):
 Does (C:=C0) Tryz.prog (.fn 57) (coC F bC qC t d g r bF qF be qe bl ql ++ [⟨b,q,1,false,some o,.rows 5 l⟩,⟨b',q',1,false,some o',.rows 5 l'⟩]) [.ptr 0 0 0,.sl 4 i n c,.sl 5 i' n' c']
  [⟨Nat,fun _=>True,fun y=>.tup [.sl 6 0 (2*t) (2*t),.nili],fun y=>coC F bC qC t d g r bF qF be qe bl ql ++ [⟨b,q,1,false,some o,.rows 5 l⟩,⟨b',q',1,false,some o',.rows 5 l'⟩,⟨y,0,1,true,none,.rows 3 (svL F (psL g D R (8*d+g)) (2*t))⟩]⟩]:=by
 have by3:Tryz.prog.types[3].bytes=8:=by kernel_rfl
 refine loc_fn (P:=Tryz.prog) (E:=⟨[fcValues F],[pcCoData,pcCoParity,pcCoDegree,pcCoBits],59,[],[],[],none⟩) (L:=[Of5n g D R (8*d+g),Of5s g D R (8*d+g)]) mix Tryz.func57 rfl (by kernel_rfl) (by kernel_rfl) rfl rfl ?_
 ((conv=>arg 1;reduce);with_reducible repeat' first | exact ty | refine ta ?_ ?_ | refine ti fun _ => ?_ | refine tf fun _ => ?_ | refine tl ?_)
 all_goals try exact vlf
 · rename_i d0
   exfalso
   simp only [xw,decide_eq_true_eq,SB.val] at d0
   omega
 · exact ⟨vy d,by omega,vy g,by omega⟩
 · refine Stands.one (0:Nat) ⟨⟨ze _,psL_zero⟩,?_⟩
   exact vgo
 all_goals try (
  rename_i hh x hx d1 d2
  change Nat at x
  obtain ⟨j,ej⟩:∃ j:Nat,j=x:=⟨x,rfl⟩
  subst ej
  obtain ⟨k1,k2⟩:j≤8*d+g∧psL g D R j=[]:=hx
  have d1:(j:Int)<8*(d:Int)+(g:Int):=ng d1
  have d2:(g:Int)≤(j:Int):=ng d2
  have ez:(j:Int) - (g:Int)=((j - g:Nat):Int):=by omega
  have eq1:((j:Int) - (g:Int)).tdiv 8=(((j - g) / 8:Nat):Int):=by rw [ez];exact (ym (j - g) 8).symm
  have eq2:((j:Int) - (g:Int)).tmod 8=(((j - g) % 8:Nat):Int):=by rw [ez];exact (zb (j - g) 8).symm
  have ew:wdB g D R j=bt D (j - g):=by unfold wdB;rw [if_neg (by omega)]
  have eb:=bitv (z:=(j:Int) - (g:Int)) hD kD ez (show (j - g) / 8<n by omega) h
  first
  | exact on_of ho (by omega)
  | (show inR .i64 (((j:Int) - (g:Int)).tdiv 8);rw [eq1];exact inR64 (n:=(((j - g) / 8:Nat):Int)) (by omega) (by omega))
  | exact inR64 (n:=((j:Int) - (g:Int))) (by omega) (by omega)
  | (show 0≤((j:Int) - (g:Int)).tdiv 8;rw [eq1];omega)
  | (show ((j:Int) - (g:Int)).tdiv 8<(n:Int);rw [eq1];omega)
  | (show (((j:Int) - (g:Int)).tdiv 8).toNat+i<l.length;rw [eq1];omega)
  | (show 0≤((j:Int) - (g:Int)).tmod 8;rw [eq2];omega))
 all_goals try (
  rename_i hh x hx d1 d2 d3
  change Nat at x
  obtain ⟨j,ej⟩:∃ j:Nat,j=x:=⟨x,rfl⟩
  subst ej
  obtain ⟨k1,k2⟩:j≤8*d+g∧psL g D R j=[]:=hx
  have d1:(j:Int)<8*(d:Int)+(g:Int):=ng d1
  have d2:(g:Int)≤(j:Int):=ng d2
  have ez:(j:Int) - (g:Int)=((j - g:Nat):Int):=by omega
  have eq1:((j:Int) - (g:Int)).tdiv 8=(((j - g) / 8:Nat):Int):=by rw [ez];exact (ym (j - g) 8).symm
  have eq2:((j:Int) - (g:Int)).tmod 8=(((j - g) % 8:Nat):Int):=by rw [ez];exact (zb (j - g) 8).symm
  have ew:wdB g D R j=bt D (j - g):=by unfold wdB;rw [if_neg (by omega)]
  have eb:=bitv (z:=(j:Int) - (g:Int)) hD kD ez (show (j - g) / 8<n by omega) h
  have d3:wdB g D R j=false:=by rw [ew,← eb];exact d3
  have rr:=psL_no d3
  first
  | exact inR64 (n:=(j:Int)+1) (by omega) (by omega)
  | (refine Stands.one (j+1:Nat) ⟨⟨by show j+1≤8*d+g;omega,by rw [rr];exact k2⟩,by show 8*d+g - (j+1)<8*d+g - j;omega,?_⟩
     ((conv=>arg 1;reduce);with_reducible repeat' first | exact ty | refine ta ?_ ?_ | refine ti fun _ => ?_ | refine tf fun _ => ?_ | refine tl ?_)
     all_goals first | exact vlf | (show (psL g D R j).length=(psL g D R (j+1)).length;rw [rr]) | (show (psL g D R (j+1)).length=(psL g D R j).length;rw [rr])))
 all_goals try (
  rename_i hh x hx d1 d2 d3 g5
  change Nat at x
  obtain ⟨j,ej⟩:∃ j:Nat,j=x:=⟨x,rfl⟩
  subst ej
  obtain ⟨k1,k2⟩:j≤8*d+g∧psL g D R j=[]:=hx
  have r1:=psL_len (g:=g) (D:=D) (R:=R) (i:=j)
  first
  | exact ⟨zx 1,by rw [by3];omega⟩
  | exact ⟨k2.cap,by have h9:yc≤yl.length:=k2.len;show 0+yc≤yl.length;omega,zx 1,by rw [by3];show ((psL g D R j).length+1)*8≤_;omega⟩)
 all_goals try (
  rename_i hh x hx d1 d2 d3 g5 g6 s2 hs2
  change Nat at x
  obtain ⟨j,ej⟩:∃ j:Nat,j=x:=⟨x,rfl⟩
  subst ej
  obtain ⟨k1,k2⟩:j≤8*d+g∧psL g D R j=[]:=hx
  have d1:(j:Int)<8*(d:Int)+(g:Int):=ng d1
  have d2:(g:Int)≤(j:Int):=ng d2
  have ez:(j:Int) - (g:Int)=((j - g:Nat):Int):=by omega
  have eq1:((j:Int) - (g:Int)).tdiv 8=(((j - g) / 8:Nat):Int):=by rw [ez];exact (ym (j - g) 8).symm
  have eq2:((j:Int) - (g:Int)).tmod 8=(((j - g) % 8:Nat):Int):=by rw [ez];exact (zb (j - g) 8).symm
  have ew:wdB g D R j=bt D (j - g):=by unfold wdB;rw [if_neg (by omega)]
  have eb:=bitv (z:=(j:Int) - (g:Int)) hD kD ez (show (j - g) / 8<n by omega) h
  have d3:wdB g D R j=true:=by rw [ew,← eb];exact d3
  have rr:=psL_yes d3
  change List Int at s2
  first
  | exact inR64 (n:=(j:Int)+1) (by omega) (by omega)
  | (refine Stands.next (Stands.one ((j+1,(true,g6,0,(j:Int) :: s2,1+s2.length)):Nat×Oq) ⟨⟨by show j+1≤8*d+g;omega,by show Oqw (psL g D R (j+1)) _;rw [rr,k2];exact ⟨rfl,by show 1≤1+s2.length;omega,by show 1+s2.length≤((j:Int) :: s2).length;rw [xq];omega,fun h=>by cases h⟩⟩,by show 8*d+g - (j+1)<8*d+g - j;omega,?_⟩)
     ((conv=>arg 1;reduce);with_reducible repeat' first | exact ty | refine ta ?_ ?_ | refine ti fun _ => ?_ | refine tf fun _ => ?_ | refine tl ?_)
     all_goals first | exact vlf | (show (psL g D R (j+1)).length=1;rw [rr,k2];rfl) | (show (psL g D R (j+1)).length=(psL g D R j).length+1;rw [rr,zu];rfl) | (show 1=(psL g D R (j+1)).length;rw [rr,k2];rfl) | (show (psL g D R j).length+1=(psL g D R (j+1)).length;rw [rr,zu];rfl) | rfl))
 all_goals try (
  rename_i hh x hx d1 d2
  change Nat at x
  obtain ⟨j,ej⟩:∃ j:Nat,j=x:=⟨x,rfl⟩
  subst ej
  obtain ⟨k1,k2⟩:j≤8*d+g∧psL g D R j=[]:=hx
  have d1:(j:Int)<8*(d:Int)+(g:Int):=ng d1
  have d2:¬ (g:Int)≤(j:Int):=nf d2
  have eq1:(j:Int).tdiv 8=((j / 8:Nat):Int):=(ym j 8).symm
  have eq2:(j:Int).tmod 8=((j % 8:Nat):Int):=(zb j 8).symm
  have ew:wdB g D R j=bt R j:=by unfold wdB;rw [if_pos (by omega)]
  have eb:=bitv (z:=(j:Int)) hR kR rfl (show j / 8<n' by omega) h'
  first
  | exact on_of ho' (by omega)
  | (show inR .i64 ((j:Int).tdiv 8);rw [eq1];exact inR64 (n:=((j / 8:Nat):Int)) (by omega) (by omega))
  | exact inR64 (n:=(j:Int)) (by omega) (by omega)
  | (show 0≤(j:Int).tdiv 8;rw [eq1];omega)
  | (show (j:Int).tdiv 8<(n':Int);rw [eq1];omega)
  | (show ((j:Int).tdiv 8).toNat+i'<l'.length;rw [eq1];omega)
  | (show 0≤(j:Int).tmod 8;rw [eq2];omega))
 all_goals try (
  rename_i hh x hx d1 d2 d3
  change Nat at x
  obtain ⟨j,ej⟩:∃ j:Nat,j=x:=⟨x,rfl⟩
  subst ej
  obtain ⟨k1,k2⟩:j≤8*d+g∧psL g D R j=[]:=hx
  have d1:(j:Int)<8*(d:Int)+(g:Int):=ng d1
  have d2:¬ (g:Int)≤(j:Int):=nf d2
  have eq1:(j:Int).tdiv 8=((j / 8:Nat):Int):=(ym j 8).symm
  have eq2:(j:Int).tmod 8=((j % 8:Nat):Int):=(zb j 8).symm
  have ew:wdB g D R j=bt R j:=by unfold wdB;rw [if_pos (by omega)]
  have eb:=bitv (z:=(j:Int)) hR kR rfl (show j / 8<n' by omega) h'
  have d3:wdB g D R j=false:=by rw [ew,← eb];exact d3
  have rr:=psL_no d3
  first
  | exact inR64 (n:=(j:Int)+1) (by omega) (by omega)
  | (refine Stands.one (j+1:Nat) ⟨⟨by show j+1≤8*d+g;omega,by rw [rr];exact k2⟩,by show 8*d+g - (j+1)<8*d+g - j;omega,?_⟩
     ((conv=>arg 1;reduce);with_reducible repeat' first | exact ty | refine ta ?_ ?_ | refine ti fun _ => ?_ | refine tf fun _ => ?_ | refine tl ?_)
     all_goals first | exact vlf | (show (psL g D R j).length=(psL g D R (j+1)).length;rw [rr]) | (show (psL g D R (j+1)).length=(psL g D R j).length;rw [rr])))
 all_goals try (
  rename_i hh x hx d1 d2 d3 g5
  change Nat at x
  obtain ⟨j,ej⟩:∃ j:Nat,j=x:=⟨x,rfl⟩
  subst ej
  obtain ⟨k1,k2⟩:j≤8*d+g∧psL g D R j=[]:=hx
  have r1:=psL_len (g:=g) (D:=D) (R:=R) (i:=j)
  first
  | exact ⟨zx 1,by rw [by3];omega⟩
  | exact ⟨k2.cap,by have h9:yc≤yl.length:=k2.len;show 0+yc≤yl.length;omega,zx 1,by rw [by3];show ((psL g D R j).length+1)*8≤_;omega⟩)
 all_goals try (
  rename_i hh x hx d1 d2 d3 g5 g6 s2 hs2
  change Nat at x
  obtain ⟨j,ej⟩:∃ j:Nat,j=x:=⟨x,rfl⟩
  subst ej
  obtain ⟨k1,k2⟩:j≤8*d+g∧psL g D R j=[]:=hx
  have d1:(j:Int)<8*(d:Int)+(g:Int):=ng d1
  have d2:¬ (g:Int)≤(j:Int):=nf d2
  have eq1:(j:Int).tdiv 8=((j / 8:Nat):Int):=(ym j 8).symm
  have eq2:(j:Int).tmod 8=((j % 8:Nat):Int):=(zb j 8).symm
  have ew:wdB g D R j=bt R j:=by unfold wdB;rw [if_pos (by omega)]
  have eb:=bitv (z:=(j:Int)) hR kR rfl (show j / 8<n' by omega) h'
  have d3:wdB g D R j=true:=by rw [ew,← eb];exact d3
  have rr:=psL_yes d3
  change List Int at s2
  first
  | exact inR64 (n:=(j:Int)+1) (by omega) (by omega)
  | (refine Stands.next (Stands.one ((j+1,(true,g6,0,(j:Int) :: s2,1+s2.length)):Nat×Oq) ⟨⟨by show j+1≤8*d+g;omega,by show Oqw (psL g D R (j+1)) _;rw [rr,k2];exact ⟨rfl,by show 1≤1+s2.length;omega,by show 1+s2.length≤((j:Int) :: s2).length;rw [xq];omega,fun h=>by cases h⟩⟩,by show 8*d+g - (j+1)<8*d+g - j;omega,?_⟩)
     ((conv=>arg 1;reduce);with_reducible repeat' first | exact ty | refine ta ?_ ?_ | refine ti fun _ => ?_ | refine tf fun _ => ?_ | refine tl ?_)
     all_goals first | exact vlf | (show (psL g D R (j+1)).length=1;rw [rr,k2];rfl) | (show (psL g D R (j+1)).length=(psL g D R j).length+1;rw [rr,zu];rfl) | (show 1=(psL g D R (j+1)).length;rw [rr,k2];rfl) | (show (psL g D R j).length+1=(psL g D R (j+1)).length;rw [rr,zu];rfl) | rfl))
 all_goals try (
  rename_i hh x hx d1 d2
  change Nat×Oq at x
  obtain ⟨j,yo,yb,yq,yl,yc⟩:=x
  obtain ⟨k1,k2⟩:j≤8*d+g∧Oqw (psL g D R j) (true,yb,yq,yl,yc):=hx
  have d1:(j:Int)<8*(d:Int)+(g:Int):=ng d1
  have d2:(g:Int)≤(j:Int):=ng d2
  have ez:(j:Int) - (g:Int)=((j - g:Nat):Int):=by omega
  have eq1:((j:Int) - (g:Int)).tdiv 8=(((j - g) / 8:Nat):Int):=by rw [ez];exact (ym (j - g) 8).symm
  have eq2:((j:Int) - (g:Int)).tmod 8=(((j - g) % 8:Nat):Int):=by rw [ez];exact (zb (j - g) 8).symm
  have ew:wdB g D R j=bt D (j - g):=by unfold wdB;rw [if_neg (by omega)]
  have eb:=bitv (z:=(j:Int) - (g:Int)) hD kD ez (show (j - g) / 8<n by omega) h
  first
  | exact on_of ho (by omega)
  | (show inR .i64 (((j:Int) - (g:Int)).tdiv 8);rw [eq1];exact inR64 (n:=(((j - g) / 8:Nat):Int)) (by omega) (by omega))
  | exact inR64 (n:=((j:Int) - (g:Int))) (by omega) (by omega)
  | (show 0≤((j:Int) - (g:Int)).tdiv 8;rw [eq1];omega)
  | (show ((j:Int) - (g:Int)).tdiv 8<(n:Int);rw [eq1];omega)
  | (show (((j:Int) - (g:Int)).tdiv 8).toNat+i<l.length;rw [eq1];omega)
  | (show 0≤((j:Int) - (g:Int)).tmod 8;rw [eq2];omega))
 all_goals try (
  rename_i hh x hx d1 d2 d3
  change Nat×Oq at x
  obtain ⟨j,yo,yb,yq,yl,yc⟩:=x
  obtain ⟨k1,k2⟩:j≤8*d+g∧Oqw (psL g D R j) (true,yb,yq,yl,yc):=hx
  have d1:(j:Int)<8*(d:Int)+(g:Int):=ng d1
  have d2:(g:Int)≤(j:Int):=ng d2
  have ez:(j:Int) - (g:Int)=((j - g:Nat):Int):=by omega
  have eq1:((j:Int) - (g:Int)).tdiv 8=(((j - g) / 8:Nat):Int):=by rw [ez];exact (ym (j - g) 8).symm
  have eq2:((j:Int) - (g:Int)).tmod 8=(((j - g) % 8:Nat):Int):=by rw [ez];exact (zb (j - g) 8).symm
  have ew:wdB g D R j=bt D (j - g):=by unfold wdB;rw [if_neg (by omega)]
  have eb:=bitv (z:=(j:Int) - (g:Int)) hD kD ez (show (j - g) / 8<n by omega) h
  have d3:wdB g D R j=false:=by rw [ew,← eb];exact d3
  have rr:=psL_no d3
  first
  | exact inR64 (n:=(j:Int)+1) (by omega) (by omega)
  | (refine Stands.next (Stands.one ((j+1,(true,yb,yq,yl,yc)):Nat×Oq) ⟨⟨by show j+1≤8*d+g;omega,(show Oqw (psL g D R (j+1)) (true,yb,yq,yl,yc) by rw [rr];exact k2)⟩,by show 8*d+g - (j+1)<8*d+g - j;omega,?_⟩)
     ((conv=>arg 1;reduce);with_reducible repeat' first | exact ty | refine ta ?_ ?_ | refine ti fun _ => ?_ | refine tf fun _ => ?_ | refine tl ?_)
     all_goals first | exact vlf | (show (psL g D R j).length=(psL g D R (j+1)).length;rw [rr]) | (show (psL g D R (j+1)).length=(psL g D R j).length;rw [rr])))
 all_goals try (
  rename_i hh x hx d1 d2 d3 g5
  change Nat×Oq at x
  obtain ⟨j,yo,yb,yq,yl,yc⟩:=x
  obtain ⟨k1,k2⟩:j≤8*d+g∧Oqw (psL g D R j) (true,yb,yq,yl,yc):=hx
  have r1:=psL_len (g:=g) (D:=D) (R:=R) (i:=j)
  first
  | exact ⟨zx 1,by rw [by3];omega⟩
  | exact ⟨k2.cap,by have h9:yc≤yl.length:=k2.len;show 0+yc≤yl.length;omega,zx 1,by rw [by3];show ((psL g D R j).length+1)*8≤_;omega⟩)
 all_goals try (
  rename_i hh x hx d1 d2 d3 g5 g6 g7 s2 c2 h1 h2
  change Nat×Oq at x
  obtain ⟨j,yo,yb,yq,yl,yc⟩:=x
  obtain ⟨k1,k2⟩:j≤8*d+g∧Oqw (psL g D R j) (true,yb,yq,yl,yc):=hx
  have d1:(j:Int)<8*(d:Int)+(g:Int):=ng d1
  have d2:(g:Int)≤(j:Int):=ng d2
  have ez:(j:Int) - (g:Int)=((j - g:Nat):Int):=by omega
  have eq1:((j:Int) - (g:Int)).tdiv 8=(((j - g) / 8:Nat):Int):=by rw [ez];exact (ym (j - g) 8).symm
  have eq2:((j:Int) - (g:Int)).tmod 8=(((j - g) % 8:Nat):Int):=by rw [ez];exact (zb (j - g) 8).symm
  have ew:wdB g D R j=bt D (j - g):=by unfold wdB;rw [if_neg (by omega)]
  have eb:=bitv (z:=(j:Int) - (g:Int)) hD kD ez (show (j - g) / 8<n by omega) h
  have d3:wdB g D R j=true:=by rw [ew,← eb];exact d3
  have rr:=psL_yes d3
  change List Int at s2
  first
  | exact inR64 (n:=(j:Int)+1) (by omega) (by omega)
  | (refine Stands.next (Stands.one ((j+1,(true,g6,g7,yl.take (psL g D R j).length ++ [(j:Int)] ++ s2,c2)):Nat×Oq) ⟨⟨by show j+1≤8*d+g;omega,⟨by rw [rr,zu];show (yl.take (psL g D R j).length ++ [(j:Int)] ++ s2).take ((psL g D R j).length+1)=_;rw [k2.eq,vh (by simp)],by rw [rr,zu];exact h1,by rw [zu,zu,k2.eq];exact h2,fun h=>by cases h⟩⟩,by show 8*d+g - (j+1)<8*d+g - j;omega,?_⟩)
     ((conv=>arg 1;reduce);with_reducible repeat' first | exact ty | refine ta ?_ ?_ | refine ti fun _ => ?_ | refine tf fun _ => ?_ | refine tl ?_)
     all_goals first | exact vlf | (show (psL g D R (j+1)).length=1;rw [rr,k2];rfl) | (show (psL g D R (j+1)).length=(psL g D R j).length+1;rw [rr,zu];rfl) | (show 1=(psL g D R (j+1)).length;rw [rr,k2];rfl) | (show (psL g D R j).length+1=(psL g D R (j+1)).length;rw [rr,zu];rfl) | rfl))
 all_goals try (
  rename_i hh x hx d1 d2
  change Nat×Oq at x
  obtain ⟨j,yo,yb,yq,yl,yc⟩:=x
  obtain ⟨k1,k2⟩:j≤8*d+g∧Oqw (psL g D R j) (true,yb,yq,yl,yc):=hx
  have d1:(j:Int)<8*(d:Int)+(g:Int):=ng d1
  have d2:¬ (g:Int)≤(j:Int):=nf d2
  have eq1:(j:Int).tdiv 8=((j / 8:Nat):Int):=(ym j 8).symm
  have eq2:(j:Int).tmod 8=((j % 8:Nat):Int):=(zb j 8).symm
  have ew:wdB g D R j=bt R j:=by unfold wdB;rw [if_pos (by omega)]
  have eb:=bitv (z:=(j:Int)) hR kR rfl (show j / 8<n' by omega) h'
  first
  | exact on_of ho' (by omega)
  | (show inR .i64 ((j:Int).tdiv 8);rw [eq1];exact inR64 (n:=((j / 8:Nat):Int)) (by omega) (by omega))
  | exact inR64 (n:=(j:Int)) (by omega) (by omega)
  | (show 0≤(j:Int).tdiv 8;rw [eq1];omega)
  | (show (j:Int).tdiv 8<(n':Int);rw [eq1];omega)
  | (show ((j:Int).tdiv 8).toNat+i'<l'.length;rw [eq1];omega)
  | (show 0≤(j:Int).tmod 8;rw [eq2];omega))
 all_goals try (
  rename_i hh x hx d1 d2 d3
  change Nat×Oq at x
  obtain ⟨j,yo,yb,yq,yl,yc⟩:=x
  obtain ⟨k1,k2⟩:j≤8*d+g∧Oqw (psL g D R j) (true,yb,yq,yl,yc):=hx
  have d1:(j:Int)<8*(d:Int)+(g:Int):=ng d1
  have d2:¬ (g:Int)≤(j:Int):=nf d2
  have eq1:(j:Int).tdiv 8=((j / 8:Nat):Int):=(ym j 8).symm
  have eq2:(j:Int).tmod 8=((j % 8:Nat):Int):=(zb j 8).symm
  have ew:wdB g D R j=bt R j:=by unfold wdB;rw [if_pos (by omega)]
  have eb:=bitv (z:=(j:Int)) hR kR rfl (show j / 8<n' by omega) h'
  have d3:wdB g D R j=false:=by rw [ew,← eb];exact d3
  have rr:=psL_no d3
  first
  | exact inR64 (n:=(j:Int)+1) (by omega) (by omega)
  | (refine Stands.next (Stands.one ((j+1,(true,yb,yq,yl,yc)):Nat×Oq) ⟨⟨by show j+1≤8*d+g;omega,(show Oqw (psL g D R (j+1)) (true,yb,yq,yl,yc) by rw [rr];exact k2)⟩,by show 8*d+g - (j+1)<8*d+g - j;omega,?_⟩)
     ((conv=>arg 1;reduce);with_reducible repeat' first | exact ty | refine ta ?_ ?_ | refine ti fun _ => ?_ | refine tf fun _ => ?_ | refine tl ?_)
     all_goals first | exact vlf | (show (psL g D R j).length=(psL g D R (j+1)).length;rw [rr]) | (show (psL g D R (j+1)).length=(psL g D R j).length;rw [rr])))
 all_goals try (
  rename_i hh x hx d1 d2 d3 g5
  change Nat×Oq at x
  obtain ⟨j,yo,yb,yq,yl,yc⟩:=x
  obtain ⟨k1,k2⟩:j≤8*d+g∧Oqw (psL g D R j) (true,yb,yq,yl,yc):=hx
  have r1:=psL_len (g:=g) (D:=D) (R:=R) (i:=j)
  first
  | exact ⟨zx 1,by rw [by3];omega⟩
  | exact ⟨k2.cap,by have h9:yc≤yl.length:=k2.len;show 0+yc≤yl.length;omega,zx 1,by rw [by3];show ((psL g D R j).length+1)*8≤_;omega⟩)
 all_goals try (
  rename_i hh x hx d1 d2 d3 g5 g6 g7 s2 c2 h1 h2
  change Nat×Oq at x
  obtain ⟨j,yo,yb,yq,yl,yc⟩:=x
  obtain ⟨k1,k2⟩:j≤8*d+g∧Oqw (psL g D R j) (true,yb,yq,yl,yc):=hx
  have d1:(j:Int)<8*(d:Int)+(g:Int):=ng d1
  have d2:¬ (g:Int)≤(j:Int):=nf d2
  have eq1:(j:Int).tdiv 8=((j / 8:Nat):Int):=(ym j 8).symm
  have eq2:(j:Int).tmod 8=((j % 8:Nat):Int):=(zb j 8).symm
  have ew:wdB g D R j=bt R j:=by unfold wdB;rw [if_pos (by omega)]
  have eb:=bitv (z:=(j:Int)) hR kR rfl (show j / 8<n' by omega) h'
  have d3:wdB g D R j=true:=by rw [ew,← eb];exact d3
  have rr:=psL_yes d3
  change List Int at s2
  first
  | exact inR64 (n:=(j:Int)+1) (by omega) (by omega)
  | (refine Stands.next (Stands.one ((j+1,(true,g6,g7,yl.take (psL g D R j).length ++ [(j:Int)] ++ s2,c2)):Nat×Oq) ⟨⟨by show j+1≤8*d+g;omega,⟨by rw [rr,zu];show (yl.take (psL g D R j).length ++ [(j:Int)] ++ s2).take ((psL g D R j).length+1)=_;rw [k2.eq,vh (by simp)],by rw [rr,zu];exact h1,by rw [zu,zu,k2.eq];exact h2,fun h=>by cases h⟩⟩,by show 8*d+g - (j+1)<8*d+g - j;omega,?_⟩)
     ((conv=>arg 1;reduce);with_reducible repeat' first | exact ty | refine ta ?_ ?_ | refine ti fun _ => ?_ | refine tf fun _ => ?_ | refine tl ?_)
     all_goals first | exact vlf | (show (psL g D R (j+1)).length=1;rw [rr,k2];rfl) | (show (psL g D R (j+1)).length=(psL g D R j).length+1;rw [rr,zu];rfl) | (show 1=(psL g D R (j+1)).length;rw [rr,k2];rfl) | (show (psL g D R j).length+1=(psL g D R (j+1)).length;rw [rr,zu];rfl) | rfl))
 · exact ⟨ht,⟨zx _,by decide,fun _=>⟨rfl,rfl⟩⟩,fun a ha=>absurd ha (wy a)⟩
 · rename_i hh x hx d1 y hy
   change Nat at x
   obtain ⟨k1,k2⟩:x≤8*d+g∧psL g D R x=[]:=hx
   have d1:¬ (x:Int)<8*(d:Int)+(g:Int):=nf d1
   have ex:x=8*d+g:=by omega
   subst ex
   refine Ends.one y trivial ?_
   ((conv=>arg 1;reduce);with_reducible repeat' first | exact ty | refine ta ?_ ?_ | refine ti fun _ => ?_ | refine tf fun _ => ?_ | refine tl ?_)
   all_goals first | exact vlf | (rw [k2];rfl)
 · rename_i hh x hx d1
   change Nat×Oq at x
   obtain ⟨j,yo,yb,yq,yl,yc⟩:=x
   obtain ⟨k1,k2⟩:j≤8*d+g∧Oqw (psL g D R j) (true,yb,yq,yl,yc):=hx
   have q1:yl.take (psL g D R j).length=psL g D R j:=k2.eq
   have q2:(psL g D R j).length≤yc:=k2.cap
   have q3:yc≤yl.length:=k2.len
   have r1:=psL_len (g:=g) (D:=D) (R:=R) (i:=j)
   refine ⟨ht,⟨by show 0+(psL g D R j).length≤yl.length;omega,by show (psL g D R j).length<1000000000;omega,fun h0=>by cases h0⟩,fun a ha => ?_⟩
   show 0≤((yl.drop 0).take (psL g D R j).length).getD a 0∧((yl.drop 0).take (psL g D R j).length).getD a 0<1000000000
   rw [zq,q1]
   have:=psL_in (g:=g) (D:=D) (R:=R) (i:=j) a ha
   omega
 · rename_i hh x hx d1 y hy
   change Nat×Oq at x
   obtain ⟨j,yo,yb,yq,yl,yc⟩:=x
   obtain ⟨k1,k2⟩:j≤8*d+g∧Oqw (psL g D R j) (true,yb,yq,yl,yc):=hx
   have q1:yl.take (psL g D R j).length=psL g D R j:=k2.eq
   have d1:¬ (j:Int)<8*(d:Int)+(g:Int):=nf d1
   have ex:j=8*d+g:=by omega
   subst ex
   refine Ends.one y trivial ?_
   ((conv=>arg 1;reduce);with_reducible repeat' first | exact ty | refine ta ?_ ?_ | refine ti fun _ => ?_ | refine tf fun _ => ?_ | refine tl ?_)
   all_goals first | exact vlf | (show svL F (psL g D R (8*d+g)) (2*t)=svL F ((yl.drop 0).take (psL g D R (8*d+g)).length) (2*t);rw [zq,q1])
abbrev Co5:=Nat×Nat×Nat×Nat×Nat×Nat
def fcOf:Fc Tryz.prog C0 where
 tg:=.fn 57
 X:=Co5×(Nat×Nat×Nat×Nat×Nat×Nat)×Sl3×Sl3
 args:=fun (_,_,(o,b,q,l,i,n,c),(o',b',q',l',i',n',c'))=>[.ptr 0 0 0,.sl 4 i n c,.sl 5 i' n' c']
 mem:=fun ((bC,qC,t,d,g,r),(bF,qF,be,qe,bl,ql),(o,b,q,l,i,n,c),(o',b',q',l',i',n',c'))=>coC F bC qC t d g r bF qF be qe bl ql ++ [⟨b,q,1,false,some o,.rows 5 l⟩,⟨b',q',1,false,some o',.rows 5 l'⟩]
 pre:=fun ((_,_,t,d,g,r),_,(o,b,q,l,i,n,c),(o',b',q',l',i',n',c'))=>(t<1000000∧d<100000∧g<100000∧g≤8*r∧r<100000)∧(Sl3.pre (o,b,q,l,i,n,c)∧Sl3.pre (o',b',q',l',i',n',c'))∧(n=d∧n'=r)∧Byt8 ((l.drop i).take n)∧Byt8 ((l'.drop i').take n')
 alts:=fun ((bC,qC,t,d,g,r),(bF,qF,be,qe,bl,ql),(o,b,q,l,i,n,c),(o',b',q',l',i',n',c'))=>[⟨Nat,fun _=>True,fun y=>.tup [.sl 6 0 (2*t) (2*t),.nili],fun y=>coC F bC qC t d g r bF qF be qe bl ql ++ [⟨b,q,1,false,some o,.rows 5 l⟩,⟨b',q',1,false,some o',.rows 5 l'⟩,⟨y,0,1,true,none,.rows 3 (svL F (psL g ((l.drop i).take n) ((l'.drop i').take n') (8*d+g)) (2*t))⟩]⟩]
 mat vs m:=match vs with
  | [.ptr p _ _,.sl s i n c,.sl s' i' n' c']=>match nth m p with
    | ⟨bC,qC,_,_,_,.one (.ptr f _ _ :: .int _ (t:Nat) :: .int _ (d:Nat) :: .int _ (g:Nat) :: .int _ (r:Nat) :: _)⟩=>match nth m f with
      | ⟨bF,qF,_,_,_,.one (_ :: _ :: .sl x _ _ _ :: .sl h _ _ _ :: _)⟩=>match nth m x,nth m h,nth m s,nth m s' with
        | ⟨be,qe,_,_,_,_⟩,⟨bl,ql,_,_,_,_⟩,⟨b,q,_,_,o,.rows 5 l⟩,⟨b',q',_,_,o',.rows 5 l'⟩=>some (((bC,qC,t,d,g,r),(bF,qF,be,qe,bl,ql),(onOf o,b,q,l,i,n,c),(onOf o',b',q',l',i',n',c')),[p,f,x,h,s,s'])
        | _,_,_,_=>none
      | _=>none
    | _=>none
  | _=>none
 ok:=fun ((bC,qC,t,d,g,r),(bF,qF,be,qe,bl,ql),(o,b,q,l,i,n,c),(o',b',q',l',i',n',c')) h=>of_ok F bC qC t d g r bF qF be qe bl ql h.1.1 h.1.2.1 h.1.2.2.1 h.1.2.2.2.1 o b q l i n c h.2.1.1.1 h.2.1.1.2.2 o' b' q' l' i' n' c' h.2.1.2.1 h.2.1.2.2.2 h.2.2.1.1 h.2.2.1.2 h.1.2.2.2.2 _ _ rfl rfl h.2.2.2.1 h.2.2.2.2
end
end
end Go.Vx
namespace Go.Vx
open Go Go.Proofs
noncomputable section
variable [Gl]
theorem bitI {x:Int} (h:0≤x∧x<256) {s:Nat} (hs:s<8):ibit .and .u8 (ishr .u8 x (s:Int)) 1=((x.toNat.testBit s).toNat:Int):=by
 obtain ⟨a,rfl⟩:=yh h.1
 have h3:a / 2 ^ s≤a:=si _ _
 have e:=and8 (a:=a / 2 ^ s) (b:=1) (by omega) (by omega)
 rw [shr8 .u8 a s (show s≤8 by omega)]
 rw [show ibit .and .u8 ((a / 2 ^ s:Nat):Int) 1=((a / 2 ^ s &&& 1:Nat):Int) from e,rp,zo,xb]
 by_cases h9:a / 2 ^ s % 2=1
 · rw [decide_eq_true h9,h9];rfl
 · rw [decide_eq_false h9,show a / 2 ^ s % 2=0 by omega];rfl
theorem pbit_ok (o:Bool) (b q:Nat) (l:List Int) (i n c:Nat) (h:i+n≤l.length) (hn:n<100000000) (ho:o=false→n=0∧c=0) (z:Nat) (hz:z<1000000000) (P:List Int) (hP:(l.drop i).take n=P) (kP:Byt8 P):
 Tells (C:=C0) Tryz.prog (.fn 125) [⟨b,q,1,false,some o,.rows 5 l⟩] [.sl 0 i n c,.int .i64 (z:Int)] (.int .i64 ((bt P z).toNat:Int)):=by
 have e1:(z:Int).tdiv 8=((z / 8:Nat):Int):=(ym z 8).symm
 have e2:(z:Int).tmod 8=((z % 8:Nat):Int):=(zb z 8).symm
 refine loc_pc (P:=Tryz.prog) (E:=⟨[],[],24,[],[],[],none⟩) (L:=[]) mix Tryz.func125 rfl (by kernel_rfl) (by kernel_rfl) rfl rfl ?_
 ((conv=>arg 1;reduce);with_reducible repeat' first | exact ty | refine ta ?_ ?_ | refine ti fun _ => ?_ | refine tf fun _ => ?_ | refine tl ?_)
 all_goals try exact vlf
 all_goals (
  rename_i d
  simp only [xw,Bool.or_eq_false_iff,decide_eq_true_eq,decide_eq_false_iff_not,SB.val,e1] at d)
 · unfold bt
   rw [zy,yr (by rw [← hP,row_len h];omega)]
   simp
 all_goals first
  | exact on_of ho (by omega)
  | (show (z:Int).tdiv 8<(n:Int);rw [e1];omega)
  | (show ((z:Int).tdiv 8).toNat+i<l.length;rw [e1];omega)
  | (have hx:0≤P.getD (z / 8) 0∧P.getD (z / 8) 0<256:=by
      rw [zy,zt (by rw [← hP,row_len h];omega),xy]
      exact kP _ (xi _)
     have ev:ibit .and .u8 (ishr .u8 (l.getD (((z:Int).tdiv 8).toNat+i) 0) ((z:Int).tmod 8)) 1=((bt P z).toNat:Int):=by
      rw [e1,e2,zo,row_at (n:=n) (z / 8) (by omega),hP]
      exact bitI hx (zc _ (by omega))
     first
     | exact ev
     | (show inR .i64 (ibit .and .u8 (ishr .u8 (l.getD (((z:Int).tdiv 8).toNat+i) 0) ((z:Int).tmod 8)) 1)
        rw [ev]
        exact inR64 (n:=((bt P z).toNat:Int)) (by omega) (by have:=Bool.toNat_le (bt P z);omega)))
def pcPbit:Pc Tryz.prog C0 where
 tg:=.fn 125
 X:=Sl3×Int
 args:=fun ((o,b,q,l,i,n,c),z)=>[.sl 0 i n c,.int .i64 z]
 mem:=fun ((o,b,q,l,i,n,c),z)=>[⟨b,q,1,false,some o,.rows 5 l⟩]
 pre:=fun (s,z)=>(Sl3.pre s∧s.2.2.2.2.2.1<100000000)∧(0≤z∧z<1000000000)∧Byt8 ((s.2.2.2.1.drop s.2.2.2.2.1).take s.2.2.2.2.2.1)
 res:=fun ((o,b,q,l,i,n,c),z)=>.int .i64 ((bt ((l.drop i).take n) z.toNat).toNat:Int)
 mat vs m:=match vs with
  | [.sl s i n c,.int _ z]=>match nth m s with
    | ⟨b,q,_,_,g,.rows 5 l⟩=>some (((onOf g,b,q,l,i,n,c),z),[s])
    | _=>none
  | _=>none
 ok:=fun ((o,b,q,l,i,n,c),z) h=>by
  obtain ⟨z,rfl⟩:=yh h.2.1.1
  exact pbit_ok o b q l i n c h.1.1.1 h.1.2 h.1.1.2.2 z (Int.ofNat_lt.1 h.2.1.2) _ rfl h.2.2
end
end Go.Vx
namespace Go.Vx
def bl (N:Nat):Nat:=if N=0 then 0 else N.log2+1
theorem bl_le {N n:Nat}:bl N≤n↔N<2 ^ n:=by
 unfold bl
 by_cases h:N=0
 · rw [if_pos h,h]
   exact ⟨fun _=>yd n,fun _=>ze n⟩
 · rw [if_neg h]
   exact Nat.log2_lt h
theorem bl_lt (N:Nat):N<2 ^ bl N:=bl_le.1 (zx _)
theorem bl_zero:bl 0=0:=rfl
theorem bl_pos {N:Nat} (h:N≠0):0<bl N:=by unfold bl;rw [if_neg h];omega
theorem bl_top {N:Nat} (h:N≠0):N.testBit (bl N - 1)=true:=by
 unfold bl
 rw [if_neg h,Nat.add_sub_cancel,xb]
 have h1:=Nat.log2_self_le h
 have h2:N<2 ^ (N.log2+1):=Nat.lt_log2_self
 have:N / 2 ^ N.log2=1:=by
  rw [Nat.div_eq_iff (yd _)]
  rw [Nat.pow_succ] at h2
  omega
 rw [this];rfl
theorem bl_out {N j:Nat} (h:bl N≤j):N.testBit j=false:=xp (bl_le.1 h)
theorem bl_ge {N j:Nat} (h:N.testBit j=true):j<bl N:=Nat.lt_of_not_le fun h2=>by rw [bl_out h2] at h;cases h
theorem bl_of {N j:Nat} (h:N.testBit j=true) (h2:N<2 ^ (j+1)):bl N=j+1:=Nat.le_antisymm (bl_le.2 h2) (bl_ge h)
@[irreducible] def byN (P:List Int):Nat:=bn (8*P.length) (bt P)
theorem bt_out {P:List Int} {k:Nat} (h:8*P.length≤k):bt P k=false:=by
 unfold bt
 rw [zy,yr (by omega)]
 exact xa _
theorem byN_bit (P:List Int) (j:Nat):(byN P).testBit j=bt P j:=by
 unfold byN
 rw [bn_bit]
 by_cases h:j<8*P.length
 · rw [decide_eq_true h,yw]
 · rw [decide_eq_false h,yu,bt_out (by omega)]
theorem byN_lt (P:List Int):byN P<2 ^ (8*P.length):=by unfold byN;exact bn_lt _ _
theorem byN_bl (P:List Int):bl (byN P)≤8*P.length:=bl_le.2 (byN_lt P)
theorem byN_by {n N:Nat} (h:N<2 ^ (8*n)):byN (by' n N.testBit)=N:=by
 refine vx fun j => ?_
 rw [byN_bit]
 by_cases hj:j<8*n
 · exact by_bt hj
 · rw [by_bt_out (by omega)]
   exact (xp (zk h (zi (by omega) (by omega)))).symm
def nl (N:Nat):Nat:=(bl N+7) / 8
@[irreducible] def nb (N:Nat):List Int:=by' (nl N) N.testBit
theorem nb_eq (N:Nat):nb N=by' (nl N) N.testBit:=by unfold nb;rfl
theorem nb_len (N:Nat):(nb N).length=nl N:=by rw [nb_eq,by_len]
theorem nb_byt (N:Nat):Byt8 (nb N):=by rw [nb_eq];exact by_byt _ _
theorem byN_nb (N:Nat):byN (nb N)=N:=by
 rw [nb_eq]
 exact byN_by (bl_le.1 (by unfold nl;omega))
theorem nl_of {P:List Int} (hP:Byt8 P) {n:Nat} (hn:n≤P.length) (hz:∀ i,n≤i→P.getD i 0=0) (hl:n=0∨P.getD (n - 1) 0≠0):nl (byN P)=n:=by
 have h1:bl (byN P)≤8*n:=by
  refine ve fun hlt => ?_
  have hN:byN P≠0:=fun e=>by rw [e] at hlt;exact absurd hlt (by rw [bl_zero];omega)
  have:=bl_top hN
  rw [byN_bit] at this
  unfold bt at this
  rw [hz _ (by omega)] at this
  rw [show (0:Int).toNat=0 from rfl,xa] at this
  cases this
 unfold nl
 rcases hl with rfl | hl
 · omega
 · by_cases h0:n=0
   · omega
   have hx:0≤P.getD (n - 1) 0∧P.getD (n - 1) 0<256:=by
    rw [zy,zt (by omega),xy]
    exact hP _ (xi _)
   have h2:8*(n - 1)<bl (byN P):=by
    have hv:(P.getD (n - 1) 0).toNat≠0:=by omega
    have ht:=bl_top hv
    have hb:bl (P.getD (n - 1) 0).toNat≤8:=bl_le.2 (by omega)
    have hp:=bl_pos hv
    have:(byN P).testBit (8*(n - 1)+(bl (P.getD (n - 1) 0).toNat - 1))=true:=by
     rw [byN_bit]
     unfold bt
     rw [show (8*(n - 1)+(bl (P.getD (n - 1) 0).toNat - 1)) / 8=n - 1 by omega,show (8*(n - 1)+(bl (P.getD (n - 1) 0).toNat - 1)) % 8=bl (P.getD (n - 1) 0).toNat - 1 by omega]
     exact ht
    have:=bl_ge this
    omega
   omega
theorem nb_take {P:List Int} (hP:Byt8 P) {n:Nat} (hn:n≤P.length) (hz:∀ i,n≤i→P.getD i 0=0) (hl:n=0∨P.getD (n - 1) 0≠0):P.take n=nb (byN P):=by
 have h1:=nl_of hP hn hz hl
 refine byt_ext (fun x hx=>hP x (List.mem_of_mem_take hx)) (nb_byt _) (by rw [nb_len,h1,zd];omega) fun k hk => ?_
 rw [zd,ww hn] at hk
 rw [nb_eq,by_bt (by rw [h1];exact hk),byN_bit]
 unfold bt
 simp only [zy]
 rw [List.getElem?_take_of_lt (by omega)]
theorem bl_at {P:List Int} (hP:Byt8 P) {i:Nat} (hi:i<P.length) (hz:∀ j,i<j→P.getD j 0=0) (hl:P.getD i 0≠0):bl (byN P)=8*i+bl (P.getD i 0).toNat:=by
 have hx:0≤P.getD i 0∧P.getD i 0<256:=by
  rw [zy,zt hi,xy]
  exact hP _ (xi _)
 have hv:(P.getD i 0).toNat≠0:=by omega
 have ht:=bl_top hv
 have hb:bl (P.getD i 0).toNat≤8:=bl_le.2 (by omega)
 have hp:=bl_pos hv
 rw [show 8*i+bl (P.getD i 0).toNat=8*i+(bl (P.getD i 0).toNat - 1)+1 by omega]
 refine bl_of ?_ ?_
 · rw [byN_bit]
   unfold bt
   rw [show (8*i+(bl (P.getD i 0).toNat - 1)) / 8=i by omega,show (8*i+(bl (P.getD i 0).toNat - 1)) % 8=bl (P.getD i 0).toNat - 1 by omega]
   exact ht
 · refine bl_le.1 (ve fun hlt => ?_)
   have hN:byN P≠0:=fun e=>by rw [e] at hlt;exact absurd hlt (by rw [bl_zero];omega)
   have h3:=bl_top hN
   rw [byN_bit] at h3
   unfold bt at h3
   by_cases h4:(bl (byN P) - 1) / 8=i
   · rw [h4,bl_out (by omega)] at h3;cases h3
   · rw [hz _ (by omega),show (0:Int).toNat=0 from rfl,xa] at h3
     cases h3
theorem byN_zero {P:List Int} (hP:Byt8 P) (hz:∀ i,P.getD i 0=0):byN P=0:=by
 refine vx fun j => ?_
 rw [byN_bit,xa]
 unfold bt
 rw [hz]
 exact xa _
def exR (N t:Nat):Nat→List Int
 | 0=>[]
 | j+1=>exR N t j ++ (if N.testBit (t - 1 - j) then [((t - 1 - j:Nat):Int)] else [])
@[irreducible] def exL (N:Nat):List Int:=exR N (bl N) (bl N)
theorem exR_len (N t:Nat):∀ j,(exR N t j).length≤j
 | 0=>zx 0
 | j+1=>by
   have:=exR_len N t j
   show (exR N t j ++ _).length≤_
   rw [zu]
   split <;> simp <;> omega
theorem exR_lt {N t:Nat}:∀ {j:Nat},j≤t→∀ x∈exR N t j,0≤x∧x<(t:Int)
 | 0,_,x,h=>by cases h
 | j+1,h,x,hx=>by
   rcases List.mem_append.1 hx with hx | hx
   · exact exR_lt (by omega) x hx
   · split at hx
     · rw [List.mem_singleton] at hx
       omega
     · cases hx
theorem exL_lt {N:Nat}:∀ x∈exL N,0≤x∧x<(bl N:Int):=by unfold exL;exact exR_lt (zx _)
theorem exL_len (N:Nat):(exL N).length≤bl N:=by unfold exL;exact exR_len _ _ _
def clF (Q:Nat) (l:List Int):Nat:=l.foldl (fun a n=>a ^^^ (Q <<< n.toNat)) 0
@[irreducible] def clm (P Q:Nat):Nat:=clF Q (exL P)
theorem clF_snoc (Q:Nat) (l:List Int) (n:Int):clF Q (l ++ [n])=clF Q l ^^^ (Q <<< n.toNat):=by unfold clF;rw [List.foldl_append];rfl
theorem clF_lt {Q:Nat} {K:Nat}:∀ (l:List Int),(∀ n∈l,bl Q+n.toNat≤K)→clF Q l<2 ^ K:=by
 intro l
 refine snoc_ind (P:=fun l=>(∀ n∈l,bl Q+n.toNat≤K)→clF Q l<2 ^ K) (fun _=>yd K) (fun l n ih h => ?_) l
 rw [clF_snoc]
 refine vc (ih fun x hx=>h x (List.mem_append_left _ hx)) ?_
 have:=h n (by simp)
 rw [ul]
 exact zk (Nat.mul_lt_mul_of_pos_right (bl_lt Q) (yd _)) (by rw [← Nat.pow_add];exact zi (by omega) this)
section
variable {K:Type} [Fd K]
open Go.Vx.Fd
def vn (N:Nat) (x:K):K:=vl N.testBit (bl N) x
theorem vl_more {N n:Nat} (h:bl N≤n) (x:K):vl N.testBit n x=vn N x:=by
 unfold vn vl
 exact sm_more h fun i h1 _=>by rw [bl_out h1];exact zmul _
theorem vn_xor (A B:Nat) (x:K):vn (A ^^^ B) x=vn A x+vn B x:=by
 have h:bl (A ^^^ B)≤max (bl A) (bl B):=bl_le.2 (vc (bl_le.1 (Nat.le_max_left ..)) (bl_le.1 (Nat.le_max_right ..)))
 rw [← vl_more h,← vl_more (Nat.le_max_left (bl A) (bl B)),← vl_more (N:=B) (Nat.le_max_right (bl A) (bl B)),← vl_xor]
 exact vl_congr fun k _=>wi ..
theorem vn_shl (Q n:Nat) (x:K):vn (Q <<< n) x=pw x n*vn Q x:=by
 have h:bl (Q <<< n)≤n+bl Q:=bl_le.2 (by
  rw [ul,Nat.pow_add,Nat.mul_comm]
  exact Nat.mul_lt_mul_of_pos_left (bl_lt Q) (yd _))
 rw [← vl_more h,vl_app,vl_zero (n:=n) fun k hk=>by rw [vm];simp;omega,zadd]
 congr 1
 unfold vn
 exact vl_congr fun k _=>by rw [vm];simp
theorem vn_zero (x:K):vn 0 x=zr:=rfl
theorem vn_clF (Q:Nat) (x:K):∀ l:List Int,vn (clF Q l) x=su l (fun n=>pw x n.toNat)*vn Q x:=by
 intro l
 refine snoc_ind (P:=fun l=>vn (clF Q l) x=su l (fun n=>pw x n.toNat)*vn Q x) ?_ (fun l n ih => ?_) l
 · show vn 0 x=zr*_
   rw [vn_zero,zmul]
 · rw [clF_snoc,vn_xor,ih,vn_shl,su_app,distr]
   congr 1
   show _=(pw x n.toNat+zr)*_
   rw [add0]
theorem su_exR (N t:Nat) (x:K):∀ j,j≤t→su (exR N t j) (fun n=>pw x n.toNat)=sm j fun i=>bk (N.testBit (t - j+i))*pw x (t - j+i)
 | 0,_=>rfl
 | j+1,h=>by
   show su (exR N t j ++ _) _=_
   rw [su_app,su_exR N t x j (by omega),sm_head,addC]
   congr 1
   · rw [show t - (j+1)+0=t - 1 - j by omega]
     cases N.testBit (t - 1 - j) with
     | true=>
       show pw x ((t - 1 - j:Nat):Int).toNat+zr=un*_
       rw [add0,umul,zo]
     | false=>
       show zr=zr*_
       rw [zmul]
   · exact sm_congr fun i _=>by rw [show t - j+i=t - (j+1)+(i+1) by omega]
theorem vn_clm (P Q:Nat) (x:K):vn (clm P Q) x=vn P x*vn Q x:=by
 unfold clm exL
 rw [vn_clF,su_exR _ _ _ _ (zx _)]
 congr 1
 unfold vn vl
 exact sm_congr fun i _=>by rw [Nat.sub_self,wo]
end
end Go.Vx
namespace Go.Vx
open Go Go.Proofs
noncomputable section
variable [Gl]
theorem strI_tab (s:ByteArray) (f:Nat→Int) (h:(xj 256).all (fun n=>decide (strI s (n:Int)=f n))=true) {x:Int} (hx:0≤x∧x<256):strI s x=f x.toNat:=by
 obtain ⟨n,rfl⟩:=yh hx.1
 rw [zo]
 exact ng (List.all_eq_true.1 h n (List.mem_range.2 (by omega)))
theorem tab_lt {s:ByteArray} (h:Nat.ble 256 s.size=true) {x:Int} (hx:0≤x∧x<256):x<(s.size:Int):=by
 have:=Nat.le_of_ble_eq_true h
 omega
theorem len8_ok (x:Int) (h:0≤x∧x<256):Tells (C:=C0) Tryz.prog (.fn 124) [] [.int .u8 x] (.int .i64 (bl x.toNat:Int)):=by
 refine loc_pc (P:=Tryz.prog) (E:=⟨[],[],6,[],[],[],none⟩) (L:=[]) mix Tryz.func124 rfl (by kernel_rfl) (by kernel_rfl) rfl rfl ?_
 ((conv=>arg 1;reduce);with_reducible repeat' first | exact ty | refine ta ?_ ?_ | refine ti fun _ => ?_ | refine tf fun _ => ?_ | refine tl ?_)
 · exact h.1
 · exact tab_lt (by kernel_rfl) h
 · rw [strI_tab _ (fun n=>(bl n:Int)) (by kernel_rfl) h]
   have:bl x.toNat≤8:=bl_le.2 (by omega)
   exact inR64 (n:=(bl x.toNat:Int)) (by omega) (by omega)
 · exact strI_tab _ (fun n=>(bl n:Int)) (by kernel_rfl) h
def pcLen8:Pc Tryz.prog C0 where
 tg:=.fn 124
 X:=Int
 args x:=[.int .u8 x]
 mem _:=[]
 pre x:=0≤x∧x<256
 res x:=.int .i64 (bl x.toNat:Int)
 mat vs _:=match vs with
  | [.int _ x]=>some (x,[])
  | _=>none
 ok x h:=len8_ok x h
abbrev osB (wr:Bool) (y:Os):Ck C0:=⟨y.2.1,0,1,wr,some y.1,.rows 5 y.2.2.1⟩
def Tm2 (P:List Int):Inv' C0:=⟨2,Nat,fun n=>[(3,.int .i64 (n:Int))],fun _ m=>m,fun n=>n≤P.length∧∀ i,n≤i→P.getD i 0=0,fun n=>n⟩
theorem trm_ok (o:Bool) (b q:Nat) (l:List Int) (i n c:Nat) (h:i+n≤l.length) (hc:n≤c) (hn:n<100000000) (ho:o=false→n=0∧c=0) (P:List Int) (hP:(l.drop i).take n=P) (kP:Byt8 P):
 Does (C:=C0) Tryz.prog (.fn 103) [⟨b,q,1,false,some o,.rows 5 l⟩] [.sl 0 i n c]
  [⟨Os,fun y=>Ow (nb (byN P)) y,fun y=>.sl 1 0 (nb (byN P)).length y.2.2.2,fun y=>[⟨b,q,1,false,some o,.rows 5 l⟩,osB true y]⟩]:=by
 have hL:P.length=n:=by rw [← hP];exact row_len h
 have pv:∀ j,j<n→l.getD (j+i) 0=P.getD j 0:=by rw [← hP];exact row_at
 refine loc_fn (P:=Tryz.prog) (E:=⟨[],[],22,[],[],[],none⟩) (L:=[Tm2 P]) mix Tryz.func103 rfl (by kernel_rfl) (by kernel_rfl) rfl rfl ?_
 ((conv=>arg 1;reduce);with_reducible repeat' first | exact ty | refine ta ?_ ?_ | refine ti fun _ => ?_ | refine tf fun _ => ?_ | refine tl ?_)
 all_goals try exact vlf
 · refine Stands.one (n:Nat) ⟨⟨by omega,fun j hj=>by rw [zy,yr (by omega)];rfl⟩,?_⟩
   exact vgo
 all_goals try (
  rename_i j hj d
  change Nat at j
  obtain ⟨k1,k2⟩:j≤P.length∧∀ a,j≤a→P.getD a 0=0:=hj
  have d:(0:Int)<(j:Int):=ng d
  first
  | exact on_of ho (by omega)
  | exact inR64 (n:=(j:Int) - 1) (by omega) (by omega)
  | (show (0:Int)≤(j:Int) - 1;omega)
  | (show (j:Int) - 1<(n:Int);omega)
  | (show ((j:Int) - 1).toNat+i<l.length;omega))
 all_goals try (
  rename_i j hj d
  change Nat at j
  obtain ⟨k1,k2⟩:j≤P.length∧∀ a,j≤a→P.getD a 0=0:=hj
  have d:(decide ((0:Int)<(j:Int)) && decide (l.getD (((j:Int) - 1).toNat+i) 0=0))=true:=d
  simp only [Bool.and_eq_true,decide_eq_true_eq] at d
  rw [show ((j:Int) - 1).toNat=j - 1 by omega,pv (j - 1) (by omega)] at d
  first
  | exact inR64 (n:=(j:Int) - 1) (by omega) (by omega)
  | (refine Stands.one (j - 1:Nat) ⟨⟨by show j - 1≤P.length;omega,fun a ha => ?_⟩,by show j - 1<j;omega,?_⟩
     · by_cases h9:a=j - 1
       · rw [h9];exact d.2
       · exact k2 a (by omega)
     ((conv=>arg 1;reduce);with_reducible repeat' first | exact ty | refine ta ?_ ?_ | refine ti fun _ => ?_ | refine tf fun _ => ?_ | refine tl ?_)
     all_goals first | exact vlf | (show (j:Int) - 1=((j - 1:Nat):Int);omega)))
 all_goals try (
  rename_i j hj d
  change Nat at j
  obtain ⟨k1,k2⟩:j≤P.length∧∀ a,j≤a→P.getD a 0=0:=hj
  first
  | (show (j:Int)≤(c:Int);omega)
  | (rw [show Tryz.prog.types[5].bytes=1 by kernel_rfl];show i+j≤l.length∧j*1≤140737488355328;omega)
  | (intro h0;have:=ho h0;show j=0∧j=0;omega))
 · rename_i j hj d bb sp hsp
   change Nat at j
   change List Int at sp
   obtain ⟨k1,k2⟩:j≤P.length∧∀ a,j≤a→P.getD a 0=0:=hj
   have d:(decide ((0:Int)<(j:Int)) && decide (l.getD (((j:Int) - 1).toNat+i) 0=0))=false:=d
   have d:j=0∨P.getD (j - 1) 0≠0:=by
    by_cases h0:j=0
    · exact .inl h0
    · right
      intro e
      rw [show ((j:Int) - 1).toNat=j - 1 by omega,pv (j - 1) (by omega),e] at d
      simp at d
      omega
   have hsp:j=0→sp.length=0:=hsp
   have hl:=nl_of kP k1 k2 d
   have ht:=nb_take kP k1 k2 d
   have hL2:(nb (byN P)).length=j:=by rw [nb_len,hl]
   have e0:(l.drop i).take j=P.take j:=by rw [← hP,List.take_take,ww (by omega)]
   refine Ends.one (xz 0 j,bb,(l.drop i).take j ++ sp,j+sp.length) ⟨?_,?_,?_,?_⟩ ?_
   · show ((l.drop i).take j ++ sp).take (nb (byN P)).length=_
     rw [e0,ht,vh rfl]
   · show (nb (byN P)).length≤j+sp.length;omega
   · show j+sp.length≤((l.drop i).take j ++ sp).length
     rw [zu,row_len (by omega)];exact zx _
   · intro h0
     have:¬ 0<j:=fun h=>by
      have h0:xz 0 j=false:=h0
      rw [show xz 0 j=true by rw [Nat.blt_eq];exact h] at h0
      cases h0
     have h2:=hsp (by omega)
     exact ⟨by omega,by show j+sp.length=0;omega⟩
   ((conv=>arg 1;reduce);with_reducible repeat' first | exact ty | refine ta ?_ ?_ | refine ti fun _ => ?_ | refine tf fun _ => ?_ | refine tl ?_)
   all_goals first | exact vlf | exact hL2 | exact hL2.symm
abbrev Sb:=Bool×Nat×Nat×List Int×Nat×Nat×Nat
abbrev Sb.pre:Sb→Prop:=fun (o,b,q,l,i,n,c)=>i+n≤l.length∧n≤c∧n<100000000∧(o=false→n=0∧c=0)∧Byt8 ((l.drop i).take n)
abbrev Sb.lst:Sb→List Int:=fun (o,b,q,l,i,n,c)=>(l.drop i).take n
def fcTrm:Fc Tryz.prog C0 where
 tg:=.fn 103
 X:=Sb
 args:=fun (o,b,q,l,i,n,c)=>[.sl 0 i n c]
 mem:=fun (o,b,q,l,i,n,c)=>[⟨b,q,1,false,some o,.rows 5 l⟩]
 pre:=Sb.pre
 alts:=fun (o,b,q,l,i,n,c)=>[⟨Os,fun y=>Ow (nb (byN ((l.drop i).take n))) y,fun y=>.sl 1 0 (nb (byN ((l.drop i).take n))).length y.2.2.2,fun y=>[⟨b,q,1,false,some o,.rows 5 l⟩,osB true y]⟩]
 mat vs m:=match vs with
  | [.sl s i n c]=>match nth m s with
    | ⟨b,q,_,_,g,.rows 5 l⟩=>some ((onOf g,b,q,l,i,n,c),[s])
    | _=>none
  | _=>none
 ok:=fun (o,b,q,l,i,n,c) h=>trm_ok o b q l i n c h.1 h.2.1 h.2.2.1 h.2.2.2.1 _ rfl h.2.2.2.2
def Dg2 (P:List Int):Inv' C0:=⟨2,Nat,fun n=>[(3,.int .i64 ((n:Int) - 1))],fun _ m=>m,fun n=>n≤P.length∧∀ i,n≤i→P.getD i 0=0,fun n=>n⟩
set_option maxHeartbeats 4000000 in
theorem deg_ok (o:Bool) (b q:Nat) (l:List Int) (i n c:Nat) (h:i+n≤l.length) (hn:n<100000000) (ho:o=false→n=0∧c=0) (P:List Int) (hP:(l.drop i).take n=P) (kP:Byt8 P):
 Tells (C:=C0) Tryz.prog (.fn 104) [⟨b,q,1,false,some o,.rows 5 l⟩] [.sl 0 i n c] (.int .i64 ((bl (byN P):Int) - 1)):=by
 have hL:P.length=n:=by rw [← hP];exact row_len h
 have pv:∀ j,j<n→l.getD (j+i) 0=P.getD j 0:=by rw [← hP];exact row_at
 have hbl:=byN_bl P
 refine loc_pc (P:=Tryz.prog) (E:=⟨[],[pcLen8],25,[],[],[],none⟩) (L:=[Dg2 P]) mix Tryz.func104 rfl (by kernel_rfl) (by kernel_rfl) rfl rfl ?_
 ((conv=>arg 1;reduce);with_reducible repeat' first | exact ty | refine ta ?_ ?_ | refine ti fun _ => ?_ | refine tf fun _ => ?_ | refine tl ?_)
 all_goals try exact vlf
 · refine Stands.one (n:Nat) ⟨⟨by omega,fun j hj=>by rw [zy,yr (by omega)];rfl⟩,?_⟩
   exact vgo
 all_goals try (
  rename_i j hj d
  change Nat at j
  obtain ⟨k1,k2⟩:j≤P.length∧∀ a,j≤a→P.getD a 0=0:=hj
  have d:(0:Int)≤(j:Int) - 1:=ng d
  first
  | exact on_of ho (by omega)
  | exact d
  | (show (j:Int) - 1<(n:Int);omega)
  | (show ((j:Int) - 1).toNat+i<l.length;omega))
 all_goals try (
  rename_i j hj d e
  change Nat at j
  obtain ⟨k1,k2⟩:j≤P.length∧∀ a,j≤a→P.getD a 0=0:=hj
  have d:(0:Int)≤(j:Int) - 1:=ng d
  have e1:((j:Int) - 1).toNat=j - 1:=by omega
  first
  | exact on_of ho (by omega)
  | exact d
  | (show (j:Int) - 1<(n:Int);omega)
  | (show ((j:Int) - 1).toNat+i<l.length;omega)
  | exact inR64 (n:=8*((j:Int) - 1)) (by omega) (by omega)
  | exact inR64 (n:=(j:Int) - 1 - 1) (by omega) (by omega)
  | (have e:(0:Int)<l.getD (((j:Int) - 1).toNat+i) 0:=ng e
     rw [e1,pv (j - 1) (by omega)] at e
     have hb:=bl_at kP (i:=j - 1) (by omega) (fun a ha=>k2 a (by omega)) (by omega)
     have hx:0≤P.getD (j - 1) 0∧P.getD (j - 1) 0<256:=by
      rw [zy,zt (by omega),xy]
      exact kP _ (xi _)
     first
     | (show 0≤l.getD (((j:Int) - 1).toNat+i) 0∧l.getD (((j:Int) - 1).toNat+i) 0<256;rw [e1,pv (j - 1) (by omega)];exact hx)
     | (show inR .i64 (8*((j:Int) - 1)+(bl (l.getD (((j:Int) - 1).toNat+i) 0).toNat:Int));rw [e1,pv (j - 1) (by omega)];exact inR64 (by omega) (by omega))
     | (show inR .i64 (8*((j:Int) - 1)+(bl (l.getD (((j:Int) - 1).toNat+i) 0).toNat:Int) - 1);rw [e1,pv (j - 1) (by omega)];exact inR64 (by omega) (by omega))
     | (show 8*((j:Int) - 1)+(bl (l.getD (((j:Int) - 1).toNat+i) 0).toNat:Int) - 1=_;rw [e1,pv (j - 1) (by omega)];omega))
  | (have e:¬ (0:Int)<l.getD (((j:Int) - 1).toNat+i) 0:=nf e
     rw [e1,pv (j - 1) (by omega)] at e
     have hx:0≤P.getD (j - 1) 0:=by
      rw [zy,zt (by omega),xy]
      exact (kP _ (xi _)).1
     refine Stands.one (j - 1:Nat) ⟨⟨by show j - 1≤P.length;omega,fun a ha => ?_⟩,by show j - 1<j;omega,?_⟩
     · by_cases h9:a=j - 1
       · rw [h9];omega
       · exact k2 a (by omega)
     ((conv=>arg 1;reduce);with_reducible repeat' first | exact ty | refine ta ?_ ?_ | refine ti fun _ => ?_ | refine tf fun _ => ?_ | refine tl ?_)
     all_goals first | exact vlf | (show (j:Int) - 1 - 1=((j - 1:Nat):Int) - 1;omega)))
 · rename_i j hj d
   change Nat at j
   obtain ⟨k1,k2⟩:j≤P.length∧∀ a,j≤a→P.getD a 0=0:=hj
   have d:¬ (0:Int)≤(j:Int) - 1:=nf d
   rw [byN_zero kP fun a=>k2 a (by omega)]
   rfl
def pcDeg:Pc Tryz.prog C0 where
 tg:=.fn 104
 X:=Sb
 args:=fun (o,b,q,l,i,n,c)=>[.sl 0 i n c]
 mem:=fun (o,b,q,l,i,n,c)=>[⟨b,q,1,false,some o,.rows 5 l⟩]
 pre:=Sb.pre
 res:=fun (o,b,q,l,i,n,c)=>.int .i64 ((bl (byN ((l.drop i).take n)):Int) - 1)
 mat vs m:=match vs with
  | [.sl s i n c]=>match nth m s with
    | ⟨b,q,_,_,g,.rows 5 l⟩=>some ((onOf g,b,q,l,i,n,c),[s])
    | _=>none
  | _=>none
 ok:=fun (o,b,q,l,i,n,c) h=>deg_ok o b q l i n c h.1 h.2.2.1 h.2.2.2.1 _ rfl h.2.2.2.2
end
end Go.Vx
namespace Go.Vx
open Go Go.Proofs
noncomputable section
variable [Gl]
theorem Oqw.snoc {L:List Int} {y:Oq} (h:Oqw L y) (x:Int) (o:Bool) (b q:Nat) (l sp:List Int) (k:Nat) (hl:l=y.2.2.2.1.take L.length ++ [x] ++ sp) (h1:L.length+1≤k) (h2:k≤L.length+1+sp.length) (ho:o=true):
 Oqw (L ++ [x]) (o,b,q,l,k):=by
 subst hl ho
 refine ⟨?_,?_,?_,fun h=>nomatch h⟩
 · show (y.2.2.2.1.take L.length ++ [x] ++ sp).take (L ++ [x]).length=_
   rw [h.eq,vh rfl]
 · show (L ++ [x]).length≤k
   rw [zu];exact h1
 · show k≤(y.2.2.2.1.take L.length ++ [x] ++ sp).length
   rw [h.eq]
   simp only [zu,xq,List.length_nil]
   omega
theorem Oqw.none:Oqw [] (false,0,0,[],0):=⟨rfl,zx 0,zx 0,fun _=>⟨rfl,rfl⟩⟩
theorem Oqw.blt {L:List Int} {y:Oq} (h:Oqw L y):y.2.2.2.2≤y.2.2.2.1.length:=h.len
def Ex3 (N:Nat):Inv' C0:=⟨3,Nat×Oq,fun x=>[(4,.int .i64 ((bl N:Int) - 1 - (x.1:Int))),(3,.sl 1 0 (exR N (bl N) x.1).length x.2.2.2.2.2)],fun x m=>match m with
 | p :: _=>[p,oqC true x.2]
 | m=>m,fun x=>x.1≤bl N∧Oqw (exR N (bl N) x.1) x.2,fun x=>bl N - x.1⟩
set_option maxHeartbeats 4000000 in
theorem exps_ok (o:Bool) (b q:Nat) (l:List Int) (i n c:Nat) (hp:Sb.pre (o,b,q,l,i,n,c)) (P:List Int) (hP:(l.drop i).take n=P) (N:Nat) (hN:byN P=N):
 Does (C:=C0) Tryz.prog (.fn 105) [⟨b,q,1,false,some o,.rows 5 l⟩] [.sl 0 i n c]
  [⟨Oq,fun y=>Oqw (exL N) y,fun y=>.sl 1 0 (exL N).length y.2.2.2.2,fun y=>[⟨b,q,1,false,some o,.rows 5 l⟩,oqC true y]⟩]:=by
 obtain ⟨h,hc,hn,ho,kP⟩:=id hp
 have hbl:=byN_bl P
 have hL:P.length=n:=by rw [← hP];exact row_len h
 rw [hN] at hbl
 have hby:Tryz.prog.types[3].bytes=8:=by kernel_rfl
 have lR:=fun j=>exR_len N (bl N) j
 refine loc_fn (P:=Tryz.prog) (E:=⟨[],[pcDeg,pcPbit],20,[],[],[],none⟩) (L:=[Ex3 N]) mix Tryz.func105 rfl (by kernel_rfl) (by kernel_rfl) rfl rfl ?_
 ((conv=>arg 1;reduce);with_reducible repeat' first | exact ty | refine ta ?_ ?_ | refine ti fun _ => ?_ | refine tf fun _ => ?_ | refine tl ?_)
 all_goals try exact vlf
 · exact hp
 · refine Stands.one ((0,(false,0,0,[],0)):Nat×Oq) ⟨⟨ze _,Oqw.none⟩,?_⟩
   ((conv=>arg 1;reduce);with_reducible repeat' first | exact ty | refine ta ?_ ?_ | refine ti fun _ => ?_ | refine tf fun _ => ?_ | refine tl ?_)
   all_goals first | exact vlf | (show (bl (byN ((l.drop i).take n)):Int) - 1=(bl N:Int) - 1 - ((0:Nat):Int);rw [hP,hN];omega)
 all_goals try (
  rename_i x hx d
  change Nat×Oq at x
  obtain ⟨j,y⟩:=x
  obtain ⟨k1,k2⟩:j≤bl N∧Oqw (exR N (bl N) j) y:=hx
  have d:0≤(bl N:Int) - 1 - (j:Int):=ng d
  exact ⟨⟨⟨h,by show n<1000000000;omega,ho⟩,by show n<100000000;omega⟩,⟨d,by show (bl N:Int) - 1 - (j:Int)<1000000000;omega⟩,kP⟩)
 all_goals try (
  rename_i x hx d e g1
  change Nat×Oq at x
  obtain ⟨j,y⟩:=x
  obtain ⟨k1,k2⟩:j≤bl N∧Oqw (exR N (bl N) j) y:=hx
  have:=lR j
  first
  | (rw [hby];exact ⟨k2.cap,by show 0+y.2.2.2.2≤_;rw [wo];exact k2.len,zx _,by show ((exR N (bl N) j).length+1)*8≤_;omega⟩)
  | exact k2.nil)
 all_goals try (
  rename_i x hx d e g1 g2 g3 sp k h1 h2
  change Nat×Oq at x
  change List Int at sp
  obtain ⟨j,y⟩:=x
  obtain ⟨k1,k2⟩:j≤bl N∧Oqw (exR N (bl N) j) y:=hx
  have d:0≤(bl N:Int) - 1 - (j:Int):=ng d
  have e:decide ((0:Int)<((bt ((l.drop i).take n) ((bl N:Int) - 1 - (j:Int)).toNat).toNat:Int))=true:=e
  have e1:((bl N:Int) - 1 - (j:Int)).toNat=bl N - 1 - j:=by omega
  have e2:N.testBit (bl N - 1 - j)=true:=by
   rw [e1,hP] at e
   rw [← hN,byN_bit,hN]
   have:=ng e
   cases hb:bt P (bl N - 1 - j) with
   | true=>rfl
   | false=>rw [hb] at this;exact absurd this (by decide)
  have e3:exR N (bl N) (j+1)=exR N (bl N) j ++ [(bl N:Int) - 1 - (j:Int)]:=by
   show exR N (bl N) j ++ _=_
   rw [e2,if_pos rfl]
   congr 2
   omega
  have h1:(exR N (bl N) j).length+1≤k:=h1
  have h2:k≤(exR N (bl N) j).length+1+sp.length:=h2
  first
  | exact inR64 (n:=(bl N:Int) - 1 - (j:Int) - 1) (by omega) (by omega)
  | (refine Stands.one ((j+1,(true,g2,g3,y.2.2.2.1.take (exR N (bl N) j).length ++ [(bl N:Int) - 1 - (j:Int)] ++ sp,k)):Nat×Oq) ⟨⟨by show j+1≤bl N;omega,?_⟩,by show bl N - (j+1)<bl N - j;omega,?_⟩
     · show Oqw (exR N (bl N) (j+1)) _
       rw [e3]
       exact k2.snoc _ _ _ _ _ sp _ rfl h1 h2 rfl
     ((conv=>arg 1;reduce);with_reducible repeat' first | exact ty | refine ta ?_ ?_ | refine ti fun _ => ?_ | refine tf fun _ => ?_ | refine tl ?_)
     all_goals first
      | exact vlf
      | (show (bl N:Int) - 1 - (j:Int) - 1=(bl N:Int) - 1 - ((j+1:Nat):Int);omega)
      | (show (exR N (bl N) j).length+1=(exR N (bl N) (j+1)).length;rw [e3,zu];rfl)
      | (show (exR N (bl N) (j+1)).length=(exR N (bl N) j).length+1;rw [e3,zu];rfl)))
 all_goals try (
  rename_i x hx d e
  change Nat×Oq at x
  obtain ⟨j,y⟩:=x
  obtain ⟨k1,k2⟩:j≤bl N∧Oqw (exR N (bl N) j) y:=hx
  have d:0≤(bl N:Int) - 1 - (j:Int):=ng d
  have e:decide ((0:Int)<((bt ((l.drop i).take n) ((bl N:Int) - 1 - (j:Int)).toNat).toNat:Int))=false:=e
  have e1:((bl N:Int) - 1 - (j:Int)).toNat=bl N - 1 - j:=by omega
  have e2:N.testBit (bl N - 1 - j)=false:=by
   rw [e1,hP] at e
   rw [← hN,byN_bit,hN]
   have:=nf e
   cases hb:bt P (bl N - 1 - j) with
   | false=>rfl
   | true=>rw [hb] at this;exact absurd (by decide) this
  have e3:exR N (bl N) (j+1)=exR N (bl N) j:=by
   show exR N (bl N) j ++ _=_
   rw [e2,if_neg Bool.false_ne_true,List.append_nil]
  first
  | exact inR64 (n:=(bl N:Int) - 1 - (j:Int) - 1) (by omega) (by omega)
  | (refine Stands.one ((j+1,y):Nat×Oq) ⟨⟨by show j+1≤bl N;omega,?_⟩,by show bl N - (j+1)<bl N - j;omega,?_⟩
     · show Oqw (exR N (bl N) (j+1)) _
       rw [e3]
       exact k2
     ((conv=>arg 1;reduce);with_reducible repeat' first | exact ty | refine ta ?_ ?_ | refine ti fun _ => ?_ | refine tf fun _ => ?_ | refine tl ?_)
     all_goals first
      | exact vlf
      | (show (bl N:Int) - 1 - (j:Int) - 1=(bl N:Int) - 1 - ((j+1:Nat):Int);omega)
      | (show (exR N (bl N) j).length=(exR N (bl N) (j+1)).length;rw [e3])
      | (show (exR N (bl N) (j+1)).length=(exR N (bl N) j).length;rw [e3])))
 · rename_i x hx d
   change Nat×Oq at x
   obtain ⟨j,y⟩:=x
   obtain ⟨k1,k2⟩:j≤bl N∧Oqw (exR N (bl N) j) y:=hx
   have d:¬ 0≤(bl N:Int) - 1 - (j:Int):=nf d
   obtain rfl:j=bl N:=by omega
   have e:exR N (bl N) (bl N)=exL N:=by unfold exL;rfl
   refine Ends.one y (by show Oqw (exL N) y;rw [← e];exact k2) ?_
   ((conv=>arg 1;reduce);with_reducible repeat' first | exact ty | refine ta ?_ ?_ | refine ti fun _ => ?_ | refine tf fun _ => ?_ | refine tl ?_)
   all_goals first | exact vlf | (show (exR N (bl N) (bl N)).length=(exL N).length;rw [e]) | (show (exL N).length=(exR N (bl N) (bl N)).length;rw [e])
def fcExps:Fc Tryz.prog C0 where
 tg:=.fn 105
 X:=Sb
 args:=fun (o,b,q,l,i,n,c)=>[.sl 0 i n c]
 mem:=fun (o,b,q,l,i,n,c)=>[⟨b,q,1,false,some o,.rows 5 l⟩]
 pre:=Sb.pre
 alts:=fun (o,b,q,l,i,n,c)=>[⟨Oq,fun y=>Oqw (exL (byN ((l.drop i).take n))) y,fun y=>.sl 1 0 (exL (byN ((l.drop i).take n))).length y.2.2.2.2,fun y=>[⟨b,q,1,false,some o,.rows 5 l⟩,oqC true y]⟩]
 mat vs m:=match vs with
  | [.sl s i n c]=>match nth m s with
    | ⟨b,q,_,_,g,.rows 5 l⟩=>some ((onOf g,b,q,l,i,n,c),[s])
    | _=>none
  | _=>none
 ok:=fun (o,b,q,l,i,n,c) h=>exps_ok o b q l i n c h _ rfl _ rfl
end
end Go.Vx
namespace Go.Vx
theorem tb_shl (a j:Nat) (h:j<8):(a*2 ^ 1 % 256).testBit j=(decide (0<j) && a.testBit (j - 1)):=by
 rw [show (256:Nat)=2 ^ 8 from rfl,sx,decide_eq_true h,yw,← ul,vm]
 rfl
theorem tb_shr (a s j:Nat):(a / 2 ^ s).testBit j=a.testBit (s+j):=oy a j ▸ (by rw [Nat.add_comm])
theorem tb_xor (a b j:Nat):(a ^^^ b).testBit j=(a.testBit j ^^ b.testBit j):=wi ..
theorem tb_or (a b j:Nat):(a ||| b).testBit j=(a.testBit j || b.testBit j):=Nat.testBit_or ..
theorem by_set {n i:Nat} {b c:Nat→Bool} {x:Nat} (hi:i<n) (hx:x<256) (h:∀ k,k<8*n→c k=if k / 8=i then x.testBit (k % 8) else b k):(by' n b).set i (x:Int)=by' n c:=by
 refine byt_ext (byt_set (by_byt _ _) ⟨by omega,by omega⟩) (by_byt _ _) (by rw [zg,by_len,by_len]) fun k hk => ?_
 rw [zg,by_len] at hk
 rw [bt_set (by rw [by_len];exact hi),zo,by_bt (b:=c) hk,h k hk]
 split
 · rfl
 · exact by_bt hk
theorem by_at {n i:Nat} {b:Nat→Bool} (hi:i<n):∃ x:Nat,(by' n b).getD i 0=(x:Int)∧x<256∧∀ j,j<8→x.testBit j=b (8*i+j):=by
 refine ⟨bn 8 fun j=>b (8*i+j),by_getD hi,bn_lt 8 _,fun j hj => ?_⟩
 rw [bn_bit,decide_eq_true hj,yw]
theorem byt_at {P:List Int} (h:Byt8 P) {i:Nat} (hi:i<P.length):∃ x:Nat,P.getD i 0=(x:Int)∧x<256∧∀ j,j<8→x.testBit j=bt P (8*i+j):=by
 have:=by_at (b:=bt P) hi
 rwa [← byt_eq h] at this
section
variable (D:Nat) (g:Nat→Bool)
def rgs (r:Nat→Bool) (b:Nat→Bool):Nat→Nat→Bool
 | 0=>r
 | i+1=>shf D g (rgs r b i) (b (7 - i))
variable {D g}
theorem shf_congr {r s:Nat→Bool} {b:Bool} (hD:1≤D) (h:∀ k,k<D→r k=s k) {k:Nat} (hk:k<D):shf D g r b k=shf D g s b k:=by
 unfold shf
 rw [h (D - 1) (by omega)]
 congr 1
 split
 · rfl
 · exact h _ (by omega)
theorem rgs_congr {r s b c:Nat→Bool} (hD:1≤D) (h:∀ k,k<D→r k=s k) (hb:∀ k,k<8→b k=c k):∀ i,∀ k,k<D→rgs D g r b i k=rgs D g s c i k
 | 0,k,hk=>h k hk
 | i+1,k,hk=>by
   show shf D g _ _ k=shf D g _ _ k
   rw [hb (7 - i) (by omega)]
   exact shf_congr hD (rgs_congr hD h hb i) hk
theorem reg_byte {b:Nat→Bool} {n j:Nat} (hj:j<n):∀ i,i≤8→reg D g b (8*n) (8*j+i)=rgs D g (reg D g b (8*n) (8*j)) (fun k=>b (8*(n - 1 - j)+k)) i
 | 0,_=>rfl
 | i+1,h=>by
   show shf D g (reg D g b (8*n) (8*j+i)) (b (8*n - 1 - (8*j+i)))=shf D g _ _
   rw [reg_byte hj i (by omega)]
   congr 2
   omega
@[irreducible] def rgB (D:Nat) (g:Nat→Bool) (n:Nat) (r:Nat→Bool):List Int:=by' n fun k=>decide (k<D) && r k
theorem rgB_eq {n:Nat} {r:Nat→Bool}:rgB D g n r=by' n fun k=>decide (k<D) && r k:=by unfold rgB;rfl
theorem rgB_len {n:Nat} {r:Nat→Bool}:(rgB D g n r).length=n:=by rw [rgB_eq,by_len]
theorem rgB_byt {n:Nat} {r:Nat→Bool}:Byt8 (rgB D g n r):=by rw [rgB_eq];exact by_byt _ _
theorem rgB_bt {n k:Nat} {r:Nat→Bool} (h:k<8*n):bt (rgB D g n r) k=(decide (k<D) && r k):=by rw [rgB_eq,by_bt h]
theorem rgB_congr {n:Nat} {r s:Nat→Bool} (h:∀ k,k<D→r k=s k):rgB D g n r=rgB D g n s:=by
 rw [rgB_eq,rgB_eq]
 refine by_congr fun k _ => ?_
 by_cases hk:k<D
 · rw [h k hk]
 · rw [decide_eq_false hk,yu,yu]
def shB (n:Nat) (r:Nat→Bool) (i:Nat):List Int:=by' n fun k=>if i<k / 8 then r (k - 1) else r k
theorem shB_len {n i:Nat} {r:Nat→Bool}:(shB n r i).length=n:=by unfold shB;rw [by_len]
theorem shB_top {n:Nat} {r:Nat→Bool} (h:1≤n):shB n r (n - 1)=by' n r:=by
 unfold shB
 exact by_congr fun k hk=>by rw [if_neg (by omega)]
theorem shB_step {n i:Nat} {r:Nat→Bool} (hi:0<i) (hn:i<n):(shB n r i).set i (ibit .or .u8 (ishl .u8 ((shB n r i).getD i 0) 1) (ishr .u8 ((shB n r i).getD (i - 1) 0) 7))=shB n r (i - 1):=by
 unfold shB
 obtain ⟨x,hx,x1,x2⟩:=by_at (b:=fun k=>if i<k / 8 then r (k - 1) else r k) hn
 obtain ⟨y,hy,y1,y2⟩:=by_at (b:=fun k=>if i<k / 8 then r (k - 1) else r k) (show i - 1<n by omega)
 rw [hx,hy,show ishl .u8 (x:Int) 1=((x*2 ^ 1 % 256:Nat):Int) from shl8 x 1 (by omega),show ishr .u8 (y:Int) 7=((y / 2 ^ 7:Nat):Int) from shr8 .u8 y 7 (show 7≤8 by omega),or8 (zc _ (by omega)) (by omega)]
 refine by_set hn (Nat.or_lt_two_pow (n:=8) (zc _ (by omega)) (by omega)) fun k hk => ?_
 by_cases hki:k / 8=i
 · rw [if_pos hki,if_pos (by omega),tb_or,tb_shl x (k % 8) (zc _ (by omega)),tb_shr]
   by_cases h0:k % 8=0
   · rw [h0,show decide (0<0)=false from rfl,yu,Bool.false_or,y2 7 (by omega),if_neg (by omega)]
     congr 1;omega
   · rw [show decide (0<k % 8)=true from decide_eq_true (by omega),yw,x2 (k % 8 - 1) (by omega),if_neg (by omega)]
     have:y.testBit (7+k % 8)=false:=xp (zk y1 (show 2 ^ 8≤_ from zi (by omega) (by omega)))
     rw [this,Bool.or_false]
     congr 1;omega
 · rw [if_neg hki]
   by_cases h1:i<k / 8
   · rw [if_pos h1,if_pos (by omega)]
   · rw [if_neg h1,if_neg (by omega)]
def sh0 (n:Nat) (r:Nat→Bool):List Int:=by' n fun k=>decide (0<k) && r (k - 1)
theorem sh0_step {n:Nat} {r:Nat→Bool} (hn:0<n):(shB n r 0).set 0 (ishl .u8 ((shB n r 0).getD 0 0) 1)=sh0 n r:=by
 unfold shB sh0
 obtain ⟨x,hx,x1,x2⟩:=by_at (b:=fun k=>if 0<k / 8 then r (k - 1) else r k) hn
 rw [hx,show ishl .u8 (x:Int) 1=((x*2 ^ 1 % 256:Nat):Int) from shl8 x 1 (by omega)]
 refine by_set hn (zc _ (by omega)) fun k hk => ?_
 by_cases hki:k / 8=0
 · rw [if_pos hki,tb_shl x (k % 8) (zc _ (by omega))]
   by_cases h0:k=0
   · subst h0;rfl
   · rw [show decide (0<k)=true from decide_eq_true (by omega),show decide (0<k % 8)=true from decide_eq_true (by omega),x2 (k % 8 - 1) (by omega),if_neg (by omega)]
     congr 2;omega
 · rw [if_neg hki,if_pos (by omega),decide_eq_true (show 0<k by omega),yw]
theorem by_mask {n:Nat} {r:Nat→Bool} (hn:n=(D+7) / 8) (hD:0<D % 8):(by' n r).set (n - 1) (ibit .and .u8 ((by' n r).getD (n - 1) 0) ((2 ^ (D % 8) - 1:Nat):Int))=rgB D g n r:=by
 rw [rgB_eq]
 obtain ⟨x,hx,x1,x2⟩:=by_at (b:=r) (show n - 1<n by omega)
 have hm:2 ^ (D % 8)≤2 ^ 8:=zi (by omega) (by omega)
 have hp:=yd (D % 8)
 rw [hx,and8 x1 (by omega)]
 refine by_set (by omega) (vw Nat.and_le_left x1) fun k hk => ?_
 by_cases hki:k / 8=n - 1
 · rw [if_pos hki,Nat.testBit_and,Nat.testBit_two_pow_sub_one,x2 _ (zc _ (by omega)),show 8*(n - 1)+k % 8=k by omega,show decide (k % 8<D % 8)=decide (k<D) from decide_eq_decide.2 (by omega),Bool.and_comm]
 · rw [if_neg hki,decide_eq_true (show k<D by omega),yw]
theorem by_full {n:Nat} {r:Nat→Bool} (hn:n=(D+7) / 8) (hD:D % 8=0):by' n r=rgB D g n r:=by
 rw [rgB_eq]
 exact by_congr fun k hk=>by rw [decide_eq_true (show k<D by omega),yw]
def xoB (n:Nat) (r s:Nat→Bool) (i:Nat):List Int:=by' n fun k=>r k ^^ (decide (k<8*i) && s k)
theorem xoB_len {n i:Nat} {r s:Nat→Bool}:(xoB n r s i).length=n:=by unfold xoB;rw [by_len]
theorem xoB_zero {n:Nat} {r s:Nat→Bool}:xoB n r s 0=by' n r:=by
 unfold xoB
 exact by_congr fun k _=>by simp
theorem xoB_all {n:Nat} {r s:Nat→Bool}:xoB n r s n=by' n fun k=>r k ^^ s k:=by
 unfold xoB
 exact by_congr fun k hk=>by rw [decide_eq_true hk,yw]
theorem xoB_step {n i:Nat} {r s:Nat→Bool} {y:Nat} (hi:i<n) (hy:y<256) (h:∀ j,j<8→y.testBit j=s (8*i+j)):(xoB n r s i).set i (ibit .xor .u8 ((xoB n r s i).getD i 0) (y:Int))=xoB n r s (i+1):=by
 unfold xoB
 obtain ⟨x,hx,x1,x2⟩:=by_at (b:=fun k=>r k ^^ (decide (k<8*i) && s k)) hi
 rw [hx,xor8 x1 hy]
 refine by_set hi (vc (n:=8) x1 hy) fun k hk => ?_
 by_cases hki:k / 8=i
 · rw [if_pos hki,tb_xor,x2 _ (zc _ (by omega)),h _ (zc _ (by omega)),show 8*i+k % 8=k by omega,decide_eq_false (show ¬ k<8*i by omega),decide_eq_true (show k<8*(i+1) by omega)]
   simp
 · rw [if_neg hki,show decide (k<8*(i+1))=decide (k<8*i) from decide_eq_decide.2 (by omega)]
theorem shf_rgB {n:Nat} {r:Nat→Bool} {b:Bool} (hD:1≤D) (hn:n=(D+7) / 8) (hg:∀ k,D≤k→g k=false):
 rgB D g n (shf D g r b)=if (b ^^ r (D - 1))=true then xoB n (fun k=>decide (k<D) && (decide (0<k) && r (k - 1))) g n else rgB D g n fun k=>decide (0<k) && r (k - 1):=by
 rw [rgB_eq,rgB_eq,xoB_all]
 have e:∀ k,(if k=0 then false else r (k - 1))=(decide (0<k) && r (k - 1)):=fun k=>by
  by_cases h:k=0
  · rw [if_pos h,decide_eq_false (by omega),yu]
  · rw [if_neg h,decide_eq_true (by omega),yw]
 split
 · rename_i h
   refine by_congr fun k _ => ?_
   unfold shf
   rw [e,h,yw]
   by_cases hk:k<D
   · rw [decide_eq_true hk,yw,yw]
   · rw [decide_eq_false hk,hg k (by omega)];rfl
 · rename_i h
   refine by_congr fun k _ => ?_
   unfold shf
   rw [e,Bool.eq_false_iff.2 h,yu,vo]
end
end Go.Vx
namespace Go.Vx
theorem byn_xor {K N j y:Nat} (hj:j<K) (hy:y<256):(by' K N.testBit).set j (ibit .xor .u8 ((by' K N.testBit).getD j 0) (y:Int))=by' K (N ^^^ (y <<< (8*j))).testBit:=by
 obtain ⟨x,hx,x1,x2⟩:=by_at (b:=N.testBit) hj
 rw [hx,xor8 x1 hy]
 refine by_set hj (vc (n:=8) x1 hy) fun k hk => ?_
 rw [tb_xor,vm]
 by_cases h:k / 8=j
 · rw [if_pos h,tb_xor,x2 _ (zc _ (by omega)),show 8*j+k % 8=k by omega,show decide (8*j≤k)=true from decide_eq_true (by omega),yw,show k - 8*j=k % 8 by omega]
 · rw [if_neg h]
   by_cases h2:8*j≤k
   · have:y.testBit (k - 8*j)=false:=xp (zk hy (show 2 ^ 8≤_ from zi (by omega) (by omega)))
     rw [this,Bool.and_false,vo]
   · rw [decide_eq_false (by omega),yu,vo]
@[irreducible] def inN (A Q s i:Nat):Nat:=A ^^^ ((Q % 2 ^ (8*i)) <<< s)
theorem inN_zero {A Q s:Nat}:inN A Q s 0=A:=by
 unfold inN
 rw [Nat.mul_zero,Nat.pow_zero,Nat.mod_one,nt,tb]
theorem inN_all {A Q s n:Nat} (h:bl Q≤8*n):inN A Q s n=A ^^^ (Q <<< s):=by
 unfold inN
 rw [Nat.mod_eq_of_lt (bl_le.1 h)]
theorem inN_step {A s i c:Nat} {P:List Int} (hP:Byt8 P) (hi:i<P.length) (hc:P.getD i 0=(c:Int)):inN A (byN P) s (i+1)=inN A (byN P) s i ^^^ ((c*2 ^ (s % 8) % 256) <<< (8*(i+s / 8))) ^^^ ((c / 2 ^ (8 - s % 8)) <<< (8*(i+s / 8+1))):=by
 obtain ⟨x,hx,x1,x2⟩:=byt_at hP hi
 rw [hc] at hx
 obtain rfl:c=x:=Int.ofNat.inj hx
 unfold inN
 refine vx fun k => ?_
 simp only [tb_xor,vm,sx,byN_bit]
 rw [show (256:Nat)=2 ^ 8 from rfl,sx,← ul,vm,oy]
 by_cases h0:s≤k
 · rw [decide_eq_true h0,yw,yw]
   by_cases h1:k - s<8*i
   · rw [decide_eq_true (show k - s<8*(i+1) by omega),decide_eq_true h1]
     by_cases h2:8*(i+s / 8)≤k
     · have e1:decide (s % 8≤k - 8*(i+s / 8))=false:=decide_eq_false (by omega)
       rw [e1,decide_eq_false (show ¬ 8*(i+s / 8+1)≤k by omega)]
       simp
     · rw [decide_eq_false h2,decide_eq_false (show ¬ 8*(i+s / 8+1)≤k by omega)]
       simp
   · rw [decide_eq_false h1]
     by_cases h3:k - s<8*(i+1)
     · rw [decide_eq_true h3,yw,yu,vo,decide_eq_true (show 8*(i+s / 8)≤k by omega),yw]
       have hb:bt P (k - s)=c.testBit (k - s - 8*i):=by rw [x2 _ (by omega)];congr 1;omega
       rw [hb]
       by_cases h4:8*(i+s / 8+1)≤k
       · rw [decide_eq_true h4,decide_eq_false (show ¬ k - 8*(i+s / 8)<8 by omega),yu,vo,yw,show k - 8*(i+s / 8+1)+(8 - s % 8)=k - s - 8*i by omega]
       · rw [decide_eq_false h4,decide_eq_true (show k - 8*(i+s / 8)<8 by omega),decide_eq_true (show s % 8≤k - 8*(i+s / 8) by omega),yw,yw,yu,vo,show k - 8*(i+s / 8) - s % 8=k - s - 8*i by omega]
     · rw [decide_eq_false h3]
       have e1:decide (k - 8*(i+s / 8)<8)=false:=decide_eq_false (by omega)
       have e2:c.testBit (k - 8*(i+s / 8+1)+(8 - s % 8))=false:=xp (zk x1 (show 2 ^ 8≤_ from zi (by omega) (by omega)))
       rw [e1,e2]
       simp
 · rw [decide_eq_false h0]
   by_cases h2:8*(i+s / 8)≤k
   · rw [decide_eq_false (show ¬ s % 8≤k - 8*(i+s / 8) by omega),decide_eq_false (show ¬ 8*(i+s / 8+1)≤k by omega)]
     simp
   · rw [decide_eq_false h2,decide_eq_false (show ¬ 8*(i+s / 8+1)≤k by omega)]
     simp
@[irreducible] def byT (K N:Nat):List Int:=by' K N.testBit
theorem byT_eq (K N:Nat):byT K N=by' K N.testBit:=by unfold byT;rfl
theorem byT_len (K N:Nat):(byT K N).length=K:=by rw [byT_eq,by_len]
theorem byT_byt (K N:Nat):Byt8 (byT K N):=by rw [byT_eq];exact by_byt _ _
theorem byT_xor {K N j y:Nat} (hj:j<K) (hy:y<256):(byT K N).set j (ibit .xor .u8 ((byT K N).getD j 0) (y:Int))=byT K (N ^^^ (y <<< (8*j))):=by
 rw [byT_eq,byT_eq];exact byn_xor hj hy
theorem byT_N {K N:Nat} (h:N<2 ^ (8*K)):byN (byT K N)=N:=by rw [byT_eq,byN_by h]
theorem byT_zero (K:Nat):byT K 0=zw K 0:=by
 rw [byT_eq]
 refine byt_ext (by_byt _ _) (fun x hx=>by rw [List.mem_replicate] at hx;omega) (by rw [by_len,ye]) fun k hk => ?_
 rw [by_len] at hk
 rw [by_bt hk,xa]
 unfold bt
 rw [zy,List.getElem?_replicate]
 split <;> exact (xa _).symm
end Go.Vx
namespace Go.Vx
open Go Go.Proofs
noncomputable section
variable [Gl]
def In1 (P:List Int) (K A s:Nat):Inv' C0:=⟨1,Nat,fun i=>[(11,.int .i64 (i:Int))],fun i m=>match m with
 | [p,t]=>[p,⟨t.block,t.base,1,true,none,.rows 5 (byT K (inN A (byN P) s i))⟩]
 | m=>m,fun i=>i≤P.length,fun i=>P.length - i⟩
set_option maxHeartbeats 4000000 in
theorem into_ok (o:Bool) (b q:Nat) (l:List Int) (i n c:Nat) (hp:Sb.pre (o,b,q,l,i,n,c)) (P:List Int) (hP:(l.drop i).take n=P) (b1 q1 A K s:Nat) (hK:n+s / 8+1≤K) (hs:K<100000000):
 Does (C:=C0) Tryz.prog (.fn 106) [⟨b,q,1,false,some o,.rows 5 l⟩,⟨b1,q1,1,true,none,.rows 5 (byT K A)⟩] [.sl 0 i n c,.sl 1 0 K K,.int .i64 (s:Int)]
  [⟨Unit,fun _=>True,fun _=>.tup [],fun _=>[⟨b,q,1,false,some o,.rows 5 l⟩,⟨b1,q1,1,true,none,.rows 5 (byT K (A ^^^ (byN P <<< s)))⟩]⟩]:=by
 obtain ⟨h,hc,hn,ho,kP⟩:=id hp
 rw [hP] at kP
 have hbl:=byN_bl P
 have hL:P.length=n:=by rw [← hP];exact row_len h
 have pv:∀ j,j<n→l.getD (j+i) 0=P.getD j 0:=by rw [← hP];exact row_at
 have e1:(s:Int).tdiv 8=((s / 8:Nat):Int):=(ym s 8).symm
 have e2:(s:Int).tmod 8=((s % 8:Nat):Int):=(zb s 8).symm
 have bL:=fun N:Nat=>byT_len K N
 refine loc_fn (P:=Tryz.prog) (E:=⟨[],[],53,[(3,[],[.p 0,.p 1,.p 2,.p 3,.p 4,.p 5,.p 7,.p 8,.p 9,.p 10,.q 6,.p 11,.p 12,.e 13])],[],[],none⟩) (L:=[In1 P K A s]) mix Tryz.func106 rfl (by kernel_rfl) (by kernel_rfl) rfl rfl ?_
 ((conv=>arg 1;reduce);with_reducible repeat' first | exact ty | refine ta ?_ ?_ | refine ti fun _ => ?_ | refine tf fun _ => ?_ | refine tl ?_)
 all_goals try (
  rename_i j hj d
  change Nat at j
  have hj:j≤P.length:=hj
  have d:(j:Int)<(n:Int):=ng d
  have e3:(j:Int)+(s:Int).tdiv 8=((j+s / 8:Nat):Int):=by rw [e1];omega
  clear hp hP pv
  first
  | exact on_of ho (by omega)
  | exact d
  | (show (0:Int)≤(j:Int);omega)
  | (show (j:Int).toNat+i<l.length;omega)
  | (rw [e1];exact inR64 (n:=((s / 8:Nat):Int)) (by omega) (by omega))
  | (show inR .i64 ((j:Int)+(s:Int).tdiv 8);rw [e3];exact inR64 (n:=((j+s / 8:Nat):Int)) (by omega) (by omega))
  | (show 0≤(j:Int)+(s:Int).tdiv 8;rw [e3];omega)
  | (show (j:Int)+(s:Int).tdiv 8<(K:Int);rw [e3];omega)
  | (rw [bL];show ((j:Int)+(s:Int).tdiv 8).toNat+0<K;rw [e3];omega)
  | (rw [e2];exact inR64 (n:=8 - ((s % 8:Nat):Int)) (by omega) (by omega))
  | (rw [e2];omega))
 all_goals try (
  rename_i j hj d e
  change Nat at j
  have hj:j≤P.length:=hj
  have d:(j:Int)<(n:Int):=ng d
  have e3:(j:Int)+(s:Int).tdiv 8=((j+s / 8:Nat):Int):=by rw [e1];omega
  have e4:(j:Int)+(s:Int).tdiv 8+1=((j+s / 8+1:Nat):Int):=by rw [e3];omega
  obtain ⟨x,hx,x1,_⟩:=byt_at kP (i:=j) (by omega)
  have hlx:l.getD ((j:Int).toNat+i) 0=(x:Int):=by rw [zo,pv j (by omega),hx]
  have hr:(8:Int) - ((s % 8:Nat):Int)=((8 - s % 8:Nat):Int):=by omega
  have hsh:ishr .u8 (x:Int) (8 - (s:Int).tmod 8)=((x / 2 ^ (8 - s % 8):Nat):Int):=by rw [e2,hr];exact shr8 .u8 x _ (show 8 - s % 8≤8 by omega)
  have hsl:ishl .u8 (x:Int) ((s:Int).tmod 8)=((x*2 ^ (s % 8) % 256:Nat):Int):=by rw [e2];exact shl8 x _ (by omega)
  have hst:=inN_step (A:=A) (s:=s) kP (i:=j) (by omega) hx
  have e:(decide ((0:Int)<(s:Int).tmod 8) && decide ((0:Int)<ishr .u8 (l.getD ((j:Int).toNat+i) 0) (8 - (s:Int).tmod 8)))=_:=e
  rw [hlx,hsh] at e
  first
  | (have hx8:x / 2 ^ (8 - s % 8)<256:=vw (si _ _) x1
     have m1:(byT K (inN A (byN P) s j)).set (((j:Int)+(s:Int).tdiv 8).toNat+0) (ibit .xor .u8 ((byT K (inN A (byN P) s j)).getD (((j:Int)+(s:Int).tdiv 8).toNat+0) 0) (ishl .u8 (l.getD ((j:Int).toNat+i) 0) ((s:Int).tmod 8)))=byT K (inN A (byN P) s j ^^^ ((x*2 ^ (s % 8) % 256) <<< (8*(j+s / 8)))):=by
      rw [hlx,hsl,e3,zo,yx (j+s / 8)]
      exact byT_xor (by omega) (zc _ (by omega))
     refine Stands.one (j+1:Nat) ⟨by show j+1≤P.length;omega,by show P.length - (j+1)<P.length - j;omega,?_⟩
     ((conv=>arg 1;reduce);with_reducible repeat' first | exact ty | refine ta ?_ ?_ | refine ti fun _ => ?_ | refine tf fun _ => ?_ | refine tl ?_)
     all_goals first
      | exact vlf
      | (show byT K (inN A (byN P) s (j+1))=((byT K (inN A (byN P) s j)).set (((j:Int)+(s:Int).tdiv 8).toNat+0) (ibit .xor .u8 ((byT K (inN A (byN P) s j)).getD (((j:Int)+(s:Int).tdiv 8).toNat+0) 0) (ishl .u8 (l.getD ((j:Int).toNat+i) 0) ((s:Int).tmod 8)))).set (((j:Int)+(s:Int).tdiv 8+1).toNat+0) (ibit .xor .u8 (((byT K (inN A (byN P) s j)).set (((j:Int)+(s:Int).tdiv 8).toNat+0) (ibit .xor .u8 ((byT K (inN A (byN P) s j)).getD (((j:Int)+(s:Int).tdiv 8).toNat+0) 0) (ishl .u8 (l.getD ((j:Int).toNat+i) 0) ((s:Int).tmod 8)))).getD (((j:Int)+(s:Int).tdiv 8+1).toNat+0) 0) (ishr .u8 (l.getD ((j:Int).toNat+i) 0) (8 - (s:Int).tmod 8)))
         rw [m1,hlx,hsh,e4,zo,yx (j+s / 8+1),byT_xor (by omega) hx8,hst])
      | (have z:x / 2 ^ (8 - s % 8)=0:=by
          by_cases h0:s % 8=0
          · rw [h0];exact Nat.div_eq_of_lt x1
          · rw [e2] at e
            simp only [Bool.and_eq_false_iff,decide_eq_false_iff_not] at e
            generalize x / 2 ^ (8 - s % 8)=z at e ⊢
            omega
         show byT K (inN A (byN P) s (j+1))=(byT K (inN A (byN P) s j)).set (((j:Int)+(s:Int).tdiv 8).toNat+0) (ibit .xor .u8 ((byT K (inN A (byN P) s j)).getD (((j:Int)+(s:Int).tdiv 8).toNat+0) 0) (ishl .u8 (l.getD ((j:Int).toNat+i) 0) ((s:Int).tmod 8)))
         rw [m1,hst,z,nt,tb]))
  | exact inR64 (n:=(j:Int)+1) (by omega) (by omega)
  | (show inR .i64 ((j:Int)+(s:Int).tdiv 8);rw [e3];exact inR64 (n:=((j+s / 8:Nat):Int)) (by omega) (by omega))
  | (rw [e1];exact inR64 (n:=((s / 8:Nat):Int)) (by omega) (by omega))
  | (show inR .i64 ((j:Int)+(s:Int).tdiv 8+1);rw [e4];exact inR64 (n:=((j+s / 8+1:Nat):Int)) (by omega) (by omega))
  | (show 0≤(j:Int)+(s:Int).tdiv 8+1;rw [e4];omega)
  | (show (j:Int)+(s:Int).tdiv 8+1<(K:Int);rw [e4];omega)
  | (rw [zg,bL];show ((j:Int)+(s:Int).tdiv 8+1).toNat+0<K;rw [e4];omega))
 all_goals try exact vlf
 · refine Stands.one (0:Nat) ⟨ze _,?_⟩
   ((conv=>arg 1;reduce);with_reducible repeat' first | exact ty | refine ta ?_ ?_ | refine ti fun _ => ?_ | refine tf fun _ => ?_ | refine tl ?_)
   all_goals first | exact vlf | (show byT K A=byT K (inN A (byN P) s 0);rw [inN_zero]) | (show byT K (inN A (byN P) s 0)=byT K A;rw [inN_zero])
 · rename_i j hj d
   change Nat at j
   have hj:j≤P.length:=hj
   have d:¬ (j:Int)<(n:Int):=nf d
   obtain rfl:j=P.length:=by omega
   refine Ends.one () trivial ?_
   ((conv=>arg 1;reduce);with_reducible repeat' first | exact ty | refine ta ?_ ?_ | refine ti fun _ => ?_ | refine tf fun _ => ?_ | refine tl ?_)
   all_goals first | exact vlf | (show byT K (inN A (byN P) s P.length)=_;rw [inN_all hbl]) | (show _=byT K (inN A (byN P) s P.length);rw [inN_all hbl])
def fcInto:Fc Tryz.prog C0 where
 tg:=.fn 106
 X:=Sb×Nat×Nat×List Int×Nat×Int
 args:=fun ((o,b,q,l,i,n,c),b1,q1,l1,K,s)=>[.sl 0 i n c,.sl 1 0 K K,.int .i64 s]
 mem:=fun ((o,b,q,l,i,n,c),b1,q1,l1,K,s)=>[⟨b,q,1,false,some o,.rows 5 l⟩,⟨b1,q1,1,true,none,.rows 5 l1⟩]
 pre:=fun (z,b1,q1,l1,K,s)=>Sb.pre z∧l1=byT K (byN l1)∧0≤s∧z.2.2.2.2.2.1+s.toNat / 8+1≤K∧K<100000000
 alts:=fun ((o,b,q,l,i,n,c),b1,q1,l1,K,s)=>[⟨Unit,fun _=>True,fun _=>.tup [],fun _=>[⟨b,q,1,false,some o,.rows 5 l⟩,⟨b1,q1,1,true,none,.rows 5 (byT K (byN l1 ^^^ (byN ((l.drop i).take n) <<< s.toNat)))⟩]⟩]
 mat vs m:=match vs with
  | [.sl a i n c,.sl t _ K _,.int _ s]=>match nth m a,nth m t with
    | ⟨b,q,_,_,g,.rows 5 l⟩,⟨b1,q1,_,_,_,.rows 5 l1⟩=>some (((onOf g,b,q,l,i,n,c),b1,q1,l1,K,s),[a,t])
    | _,_=>none
  | _=>none
 ok:=fun ((o,b,q,l,i,n,c),b1,q1,l1,K,s) h=>by
  obtain ⟨h1,h2,h3,h4,h5⟩:=h
  obtain ⟨s,rfl⟩:=yh h3
  have:=into_ok o b q l i n c h1 _ rfl b1 q1 (byN l1) K s h4 h5
  rw [← h2] at this
  exact this
end
end Go.Vx
