/-
  Round 10: the powers that products are reduced by; a field is made.
  Round 10: polynomials over the field: rings, noughts at the end.
  Round 10: sums of polynomials over the field.
  Round 10: sums of products in the walk of Berlekamp and Massey: locate.at, locate.sum.
  Round 10: the document's products and powers, step by step: plain facts.
  Round 10: the document's arithmetic: Low, Poly, Mul, Power, Exp, Inv.
  Round 10: one step of the walk of Berlekamp and Massey: locate.Locate$1.
  Round 10: the walk of Berlekamp and Massey over syndromes: locate.walk.
  Maps, plainly: what is found behind an update, a deletion; the entries' stamps.
  Round 10: the search of roots: search.begun, look.chien.
  Round 10: the roots found: look.roots over look.chien's rounds.
  Round 10: the search of roots az a whole: search.Search.
  Round 10: syndromes that are all 0: syndrome.Clean.
  Round 10: what a Code tells of itself.
  Round 10: syndromes of places: syndrome.values.
  Conditions: none.
-/
import Derived.Test.YtfjogcklhibboaaGreatDoorM2
import Derived.Test.YtfjogcklhibboaaGreatDoorM4
open Bool renaming false_ne_true → ve, or_eq_true → yd
open Int renaming eq_ofNat_of_zero_le → yh, natCast_nonneg → wb, tmod_lt_of_pos → uv, toNat_natCast → zu
open List renaming drop → yp, drop_zero → zm, ext_getElem → wv, filter_append → sk, getD_eq_getElem?_getD → zy, getElem?_append_left → yx, getElem?_eq_getElem → zt, getElem?_eq_none → yk, getElem?_map → zf, getElem?_range → xh, getElem?_take_of_lt → yn, getElem_map → th, getElem_range → sj, getElem_replicate → oz, length → wi, length_append → zx, length_map → zn, length_range → um, length_replicate → xz, length_set → zh, map_append → vq, map_congr_left → xm, range → xq, range_succ → uc, replicate → zo, set_append_left → tu, take → yu, take_add_one → re, take_append_of_le_length → uk, take_left' → vj, take_length → xb, take_of_length_le → zc
open Nat renaming add_zero → za, blt → ye, blt_eq → ui, le_refl → zw, le_trans → xl, lt_irrefl → ua, lt_of_le_of_lt → wh, lt_of_lt_of_le → zk, mul_comm → xn, not_lt_zero → xi, pow_le_pow_right → zj, pow_succ → wg, testBit_eq_decide_div_mod_eq → xd, testBit_lt_two_pow → xw, zero_add → we, zero_le → zg
open Option renaming getD_some → ym, map_some → yr
set_option linter.unusedVariables false
set_option linter.unusedSimpArgs false
set_option linter.unusedSectionVars false
set_option maxRecDepth 100000
namespace Go.Vx
open Go Go.Proofs
variable [Gl]
theorem poly_ok (k:Nat) (h1:3≤k) (h2:k≤14):Tells (C:=C0) Tryz.prog (.fn 76) [] [.int .i64 (k:Int)] (.int .i64 (polyN k:Int)):=by
 refine loc_pc (P:=Tryz.prog) (E:=⟨[],[],15,[],[],[],none⟩) (L:=[]) mix Tryz.func76 rfl (by kernel_rfl) (by kernel_rfl) rfl rfl ?_
 ((conv=>arg 1;reduce);with_reducible repeat' first | exact ty | refine ta ?_ ?_ | refine ti fun _ => ?_ | refine tf fun _ => ?_ | refine tl ?_)
 all_goals try exact vlf
 · rename_i d
   simp [SB.val] at d
   omega
 · show ((k:Int) - 3).toNat+0<12
   omega
 · unfold polyN
   rw [if_neg (by omega)]
   rcases (by omega:k=3∨k=4∨k=5∨k=6∨k=7∨k=8∨k=9∨k=10∨k=11∨k=12∨k=13∨k=14) with rfl | rfl | rfl | rfl | rfl | rfl | rfl | rfl | rfl | rfl | rfl | rfl <;> rfl
def pcPolyF (F:Gf):Pc Tryz.prog C0 where
 tg:=.fn 76
 X:=Unit
 args _:=[.int .i64 (F.m:Int)]
 mem _:=[]
 pre _:=True
 res _:=.int .i64 (F.p:Int)
 mat vs _:=match vs with
  | [.int _ _]=>some ((),[])
  | _=>none
 ok _ _:=by
  have:=poly_ok F.m F.m3 F.m14
  rwa [F.po] at this
section
variable (F:Gf)
@[irreducible] def xTi (i:Nat):List Int:=(xq (nF F)).map fun j=>if j<i then vi (ex F j) else 0
@[irreducible] def lTi (i:Nat):List Int:=(xq (szF F)).map fun x=>((lg F.m F.p i x:Nat):Int)
variable {F}
theorem set_map {n i:Nat} {f:Nat→Int} {v:Int} (hi:i<n):((xq n).map f).set i v=(xq n).map fun j=>if j=i then v else f j:=by
 refine wv (by simp) fun j h1 h2 => ?_
 simp only [zh,zn,um] at h1
 rw [List.getElem_set]
 simp only [th,sj]
 by_cases h:i=j
 · rw [if_pos h,if_pos h.symm]
 · rw [if_neg h,if_neg (Ne.symm h)]
theorem xTi_len {i:Nat}:(xTi F i).length=nF F:=by unfold xTi;simp
theorem lTi_len {i:Nat}:(lTi F i).length=szF F:=by unfold lTi;simp
theorem xTi_zero:zo (nF F) (0:Int)=xTi F 0:=by
 unfold xTi
 refine wv (by simp) fun j _ _=>by simp
theorem lTi_zero:zo (szF F) (0:Int)=lTi F 0:=by
 unfold lTi lg
 refine wv (by simp) fun j _ _=>by simp
theorem xTi_all:xTi F (nF F)=xT F:=by
 unfold xTi xT
 refine xm fun j hj=>by rw [if_pos (List.mem_range.1 hj)]
theorem lTi_all:lTi F (nF F)=lT F:=by unfold lTi lT;rw [nF_eq]
theorem xTi_set {i:Nat} (h:i<nF F):(xTi F i).set i (vi (ex F i))=xTi F (i+1):=by
 unfold xTi
 rw [set_map h]
 refine xm fun j _ => ?_
 by_cases hj:j=i
 · subst hj;rw [if_pos rfl,if_pos (by omega)]
 · rw [if_neg hj]
   by_cases h2:j<i
   · rw [if_pos h2,if_pos (by omega)]
   · rw [if_neg h2,if_neg (by omega)]
theorem lTi_set {i:Nat} (h:i<nF F):(lTi F i).set (vi (ex F i)).toNat (i:Int)=lTi F (i+1):=by
 have hx:=(ex F i).lt
 have e:(vi (ex F i)).toNat=(ex F i).v:=zu _
 unfold lTi
 rw [set_map (by rw [e,szF_eq];exact hx),e]
 refine xm fun x _ => ?_
 rw [nF_eq] at h
 by_cases hj:x=(ex F i).v
 · subst hj
   rw [if_pos rfl]
   have:=lg_ex (F:=F) h (n:=i+1) (by omega) (by omega)
   rw [ex_v]
   rw [this]
 · rw [if_neg hj]
   have:lg F.m F.p (i+1) x=lg F.m F.p i x:=by
    unfold lg
    rw [uc,List.find?_append]
    cases h1:(xq i).find? (fun j=>mx F.m F.p j 1 == x) with
    | some j=>rfl
    | none=>
      have:(mx F.m F.p i 1 == x)=false:=by
       rw [beq_eq_false_iff_ne]
       exact fun h2=>hj (by rw [← h2,ex_v])
      simp [List.find?,this]
   rw [this]
theorem next_lo {i:Nat} (h:¬ (szF F:Int)≤vi (ex F i)*2):vi (ex F i)*2=vi (ex F (i+1)):=by
 rw [szF_eq] at h
 have hm:=F.m3
 have h2:2*(ex F i).v<2 ^ F.m:=by unfold vi at h;omega
 have h3:((ex F i).v).testBit (F.m - 1)=false:=xw (by
  have:2 ^ F.m=2*2 ^ (F.m - 1):=by rw [xn,← wg];congr 1;omega
  omega)
 have:(ex F (i+1)).v=2*(ex F i).v:=by
  show mulx F.m F.p (mx F.m F.p i 1)=_
  unfold mulx
  rw [show mx F.m F.p i 1=(ex F i).v from rfl,h3];rfl
 unfold vi
 rw [this]
 omega
theorem next_hi {i:Nat} (h:(szF F:Int)≤vi (ex F i)*2):ibit .xor .i64 (vi (ex F i)*2) (F.p:Int)=vi (ex F (i+1)):=by
 rw [szF_eq] at h
 have hm:=F.m3
 have h14:=F.m14
 have hx:=(ex F i).lt
 have hp2:2 ^ F.m=2*2 ^ (F.m - 1):=by rw [xn,← wg];congr 1;omega
 have h3:((ex F i).v).testBit (F.m - 1)=true:=by
  rw [xd]
  have:(ex F i).v / 2 ^ (F.m - 1)=1:=by
   rw [Nat.div_eq_iff (Nat.two_pow_pos _)]
   unfold vi at h
   omega
  rw [this];rfl
 have hb:2 ^ F.m≤2 ^ 14:=zj (by omega) h14
 have hpl:=F.lt
 have hb2:2 ^ (F.m+1)≤2 ^ 15:=zj (by omega) (by omega)
 have e:vi (ex F i)*2=((2*(ex F i).v:Nat):Int):=by unfold vi;omega
 rw [e,xor64 (zk (show 2*(ex F i).v<2 ^ 15 by omega) (by decide)) (zk (show F.p<2 ^ 15 by omega) (by decide))]
 unfold vi
 congr 1
 show _=mulx F.m F.p (mx F.m F.p i 1)
 unfold mulx
 rw [show mx F.m F.p i 1=(ex F i).v from rfl,h3];rfl
variable (F)
def Fn5:Inv' C0:=⟨1000005,Nat×Nat,fun _=>[],fun x m=>match m with
 | [⟨b,q,_,_,_,_⟩]=>[⟨b,q,4,true,none,.one [.int .i64 (F.m:Int),.int .i64 (szF F:Int),.sl 1 0 (nF F) (nF F),.sl 2 0 (szF F) (szF F)]⟩,⟨x.1,0,1,true,none,.rows 3 (zo (nF F) (0:Int))⟩,⟨x.2,0,1,true,none,.rows 3 (zo (szF F) (0:Int))⟩]
 | m=>m,fun _=>True,fun _=>0⟩
def Fn7:Inv' C0:=⟨7,Nat,fun i=>[(38,.int .i64 (i:Int)),(5,.int .i64 (vi (ex F i)))],fun i m=>match m with
 | [f,x,l]=>[f,⟨x.block,x.base,1,true,none,.rows 3 (xTi F i)⟩,⟨l.block,l.base,1,true,none,.rows 3 (lTi F i)⟩]
 | m=>m,fun i=>i≤nF F,fun i=>nF F - i⟩
theorem shl_sz:ishl .i64 1 (F.m:Int)=(szF F:Int):=by
 have h14:=F.m14
 have hb:2 ^ F.m≤2 ^ 14:=zj (by omega) h14
 have:ishl .i64 1 (F.m:Int)=IntKind.i64.wrap (((2 ^ F.m:Nat):Int)):=by
  unfold ishl
  rw [zu,Nat.min_eq_left (show F.m≤IntKind.i64.bits by show F.m≤64;omega),i2,Int.one_mul]
 rw [this,szF_eq]
 exact wrap_nat (wh hb (by decide))
abbrev nw4:List Tk:=[.p 0,.p 1,.p 2,.p 3,.p 4,.p 8,.p 9,.p 10,.t (.two 5 (PTree.of [.p 6,.t (.two 7 (PTree.of [.e 11,.p 13,.p 14,.t (.two 12 (PTree.of [.e 15,.p 16,.p 17,.e 18]) 15 (PTree.of [.e 12,.p 16,.p 17,.e 18]))]) 11 (PTree.of [.t (.two 7 (PTree.of [.p 13,.p 14,.t (.two 12 (PTree.of [.e 15,.p 16,.p 17,.e 18]) 15 (PTree.of [.e 12,.p 16,.p 17,.e 18]))]) 12 (PTree.of [.e 7,.p 13,.p 14,.e 15,.p 16,.p 17,.e 18]))]))]) 11 (PTree.of [.t (.two 5 (PTree.of [.p 6,.t (.two 7 (PTree.of [.p 13,.p 14,.t (.two 12 (PTree.of [.e 15,.p 16,.p 17,.e 18]) 15 (PTree.of [.e 12,.p 16,.p 17,.e 18]))]) 12 (PTree.of [.e 7,.p 13,.p 14,.e 15,.p 16,.p 17,.e 18]))]) 12 (PTree.of [.e 5,.p 6,.e 7,.p 13,.p 14,.e 15,.p 16,.p 17,.e 18]))]))]
abbrev nw9:List Tk:=[.p 0,.p 1,.p 2,.p 4,.p 5,.p 6,.p 7,.p 9,.p 10,.p 11,.t (.two 3 (PTree.of [.e 8,.p 12,.e 13,.p 14,.e 15]) 8 (PTree.of [.e 3,.p 12,.e 13,.p 14,.e 15]))]
set_option maxHeartbeats 4000000 in
theorem fnew_ok:Does (C:=C0) Tryz.prog (.fn 51) [] [.int .i64 (F.m:Int)]
 [⟨Nat×Nat×Nat,fun _=>True,fun _=>.tup [.ptr 0 0 0,.nili],fun y=>newF F y⟩]:=by
 obtain ⟨hs,h7,hh⟩:=nF_sz F
 have hxl:∀ i,(xTi F i).length=nF F:=fun i=>xTi_len
 have hll:∀ i,(lTi F i).length=szF F:=fun i=>lTi_len
 have es:=shl_sz F
 have e1:(szF F:Int) - 1=(nF F:Int):=by omega
 have hby:(Tryz.prog.types[3].bytes:Int)=8:=by kernel_rfl
 have hp0:(F.p:Int)≠0:=fun h=>by
  have:F.p=0:=by omega
  have h2:=F.top
  rw [this,Nat.zero_testBit] at h2
  cases h2
 refine loc_fn (P:=Tryz.prog) (E:=⟨[],[pcPolyF F],69,[(4,[],nw4),(9,[],nw9)],[],[],none⟩) (L:=[Fn5 F,Fn7 F]) mix Tryz.func51 rfl (by kernel_rfl) (by kernel_rfl) rfl rfl ?_
 ((conv=>arg 1;reduce);with_reducible repeat' first | exact ty | refine ta ?_ ?_ | refine ti fun _ => ?_ | refine tf fun _ => ?_ | refine tl ?_)
 all_goals try exact vlf
 all_goals try exact absurd (ng ‹_›) hp0
 all_goals try (rw [es];first | exact inR64 (by omega) (by omega) | (rw [hby];omega))
 all_goals try (rename_i b x l;first | (refine Stands.one (x,l) ⟨trivial,?_⟩;((conv=>arg 1;reduce);with_reducible repeat' first | exact ty | refine ta ?_ ?_ | refine ti fun _ => ?_ | refine tf fun _ => ?_ | refine tl ?_);all_goals (first | exact vlf | exact es | exact es.symm | (rw [es,e1];rfl) | (rw [es];rfl))) | (refine Stands.one (l,x) ⟨trivial,?_⟩;((conv=>arg 1;reduce);with_reducible repeat' first | exact ty | refine ta ?_ ?_ | refine ti fun _ => ?_ | refine tf fun _ => ?_ | refine tl ?_);all_goals (first | exact vlf | exact es | exact es.symm | (rw [es,e1];rfl) | (rw [es];rfl))))
 all_goals try (
  rename_i p0 b J hJ i hi d
  change Nat at i
  have hi:i≤nF F:=hi
  have d:(i:Int)<(nF F:Int):=ng d
  have v:=vi_lt (ex F i)
  rw [← szF_eq] at v
  first
  | exact d
  | exact v.1
  | exact v.2
  | exact inR64 (n:=vi (ex F i)*2) (by omega) (by omega)
  | (rw [hxl];show (i:Int).toNat+0<nF F;omega)
  | (rw [hll];omega))
 · rename_i p0 b J hJ
   refine Stands.one (0:Nat) ⟨zg _,?_⟩
   ((conv=>arg 1;reduce);with_reducible repeat' first | exact ty | refine ta ?_ ?_ | refine ti fun _ => ?_ | refine tf fun _ => ?_ | refine tl ?_)
   all_goals first | exact vlf | exact xTi_zero | exact lTi_zero | exact xTi_zero.symm | exact lTi_zero.symm
 all_goals try (
  rename_i p0 b J hJ i hi d c
  change Nat at i
  have hi:i≤nF F:=hi
  have d:(i:Int)<(nF F:Int):=ng d
  first
  | exact inR64 (n:=(i:Int)+1) (by omega) (by omega)
  | (refine Stands.one (i+1:Nat) ⟨by show i+1≤nF F;omega,by show nF F - (i+1)<nF F - i;omega,?_⟩
     ((conv=>arg 1;reduce);with_reducible repeat' first | exact ty | refine ta ?_ ?_ | refine ti fun _ => ?_ | refine tf fun _ => ?_ | refine tl ?_)
     all_goals first
      | exact vlf
      | exact next_hi (ng c)
      | exact next_lo (nf c)
      | exact (xTi_set (i:=i) (by omega)).symm
      | exact (lTi_set (i:=i) (by omega)).symm))
 rename_i p0 b J hJ i hi d
 change Nat at i
 have hi:i≤nF F:=hi
 have d:¬ (i:Int)<(nF F:Int):=nf d
 obtain rfl:i=nF F:=by omega
 refine Ends.one (b,J.1,J.2) trivial ?_
 ((conv=>arg 1;reduce);with_reducible repeat' first | exact ty | refine ta ?_ ?_ | refine ti fun _ => ?_ | refine tf fun _ => ?_ | refine tl ?_)
 all_goals first | exact vlf | exact xTi_all.symm | exact lTi_all.symm | exact xTi_all | exact lTi_all
def fcFNew:Fc Tryz.prog C0 where
 tg:=.fn 51
 X:=Unit
 args _:=[.int .i64 (F.m:Int)]
 mem _:=[]
 pre _:=True
 alts _:=[⟨Nat×Nat×Nat,fun _=>True,fun _=>.tup [.ptr 0 0 0,.nili],fun y=>newF F y⟩]
 mat vs _:=match vs with
  | [.int _ _]=>some ((),[])
  | _=>none
 ok _ _:=fnew_ok F
end
end Go.Vx
namespace Go.Vx
open Go Go.Proofs
noncomputable section
variable [Gl]
abbrev Os:=Bool×Nat×List Int×Nat
structure Ow (L:List Int) (y:Os):Prop where
 eq:y.2.2.1.take L.length=L
 cap:L.length≤y.2.2.2
 len:y.2.2.2≤y.2.2.1.length
 nil:y.1=false→L.length=0∧y.2.2.2=0
abbrev osC (wr:Bool) (y:Os):Ck C0:=⟨y.2.1,0,1,wr,some y.1,.rows 3 y.2.2.1⟩
theorem Ow.at {L:List Int} {y:Os} (h:Ow L y) {i:Nat} (hi:i<L.length):y.2.2.1.getD i 0=L.getD i 0:=by
 have e:=h.eq
 have:(y.2.2.1.take L.length).getD i 0=L.getD i 0:=by rw [e]
 rw [← this]
 simp only [zy,yn hi]
section
variable (F:Gf)
theorem on_of {o:Bool} {n c:Nat} (ho:o=false→n=0∧c=0) (h:0<n):o=true:=by
 cases o with
 | true=>rfl
 | false=>have:=(ho rfl).1;omega
theorem ring_ok (b q:Nat):Does (C:=C0) Tryz.prog (.fn 84) [⟨b,q,4,false,none,.one []⟩] [.ptr 0 0 0]
 [⟨Nat,fun _=>True,fun _=>.ptr 1 0 0,fun y=>[⟨b,q,4,false,none,.one []⟩,⟨y,0,1,true,none,.one [.ptr 0 0 0]⟩]⟩]:=by
 refine loc_fn (P:=Tryz.prog) (E:=⟨[],[],6,[],[],[],none⟩) (L:=[]) mix Tryz.func84 rfl (by kernel_rfl) (by kernel_rfl) rfl rfl ?_
 ((conv=>arg 1;reduce);with_reducible repeat' first | exact ty | refine ta ?_ ?_ | refine ti fun _ => ?_ | refine tf fun _ => ?_ | refine tl ?_)
 all_goals try exact vlf
 rename_i y
 refine Ends.one y trivial ?_
 exact vgo
def fcRing:Fc Tryz.prog C0 where
 tg:=.fn 84
 X:=Nat×Nat
 args _:=[.ptr 0 0 0]
 mem:=fun (b,q)=>[⟨b,q,4,false,none,.one []⟩]
 pre _:=True
 alts:=fun (b,q)=>[⟨Nat,fun _=>True,fun _=>.ptr 1 0 0,fun y=>[⟨b,q,4,false,none,.one []⟩,⟨y,0,1,true,none,.one [.ptr 0 0 0]⟩]⟩]
 mat vs m:=match vs with
  | [.ptr c _ _]=>match nth m c with
    | ⟨b,q,_,_,_,_⟩=>some ((b,q),[c])
  | _=>none
 ok:=fun (b,q) _=>ring_ok b q
@[irreducible] def trI (P:List Int) (i:Nat):List Int:=(xq P.length).map fun j=>if j<i then loI F (P.getD j 0) else 0
@[irreducible] def trN (P:List Int) (i:Nat):Nat:=top (els F (P.take i))
@[irreducible] def trL (P:List Int):List Int:=vis (trim (els F P))
theorem row_len {l:List Int} {i n:Nat} (h:i+n≤l.length):((l.drop i).take n).length=n:=by simp;omega
theorem row_at {l:List Int} {i n:Nat}:∀ j,j<n→l.getD (j+i) 0=((l.drop i).take n).getD j 0:=fun j hj=>by
 simp only [zy,yn hj,List.getElem?_drop,Nat.add_comm]
variable {F}
theorem trI_len {P:List Int} {i:Nat}:(trI F P i).length=P.length:=by unfold trI;simp
theorem trI_zero {P:List Int}:zo P.length (0:Int)=trI F P 0:=by
 unfold trI
 refine wv (by simp) fun j _ _=>by simp
theorem trI_set {P:List Int} {i:Nat} (h:i<P.length):(trI F P i).set i (loI F (P.getD i 0))=trI F P (i+1):=by
 unfold trI
 rw [set_map h]
 refine xm fun j _ => ?_
 by_cases hj:j=i
 · subst hj;rw [if_pos rfl,if_pos (by omega)]
 · rw [if_neg hj]
   by_cases h2:j<i
   · rw [if_pos h2,if_pos (by omega)]
   · rw [if_neg h2,if_neg (by omega)]
theorem trI_all {P:List Int}:trI F P P.length=vis (els F P):=by
 unfold trI
 refine wv (by simp) fun j h1 h2 => ?_
 simp only [zn,um] at h1
 simp only [th,sj,if_pos h1,loI_eq,zy,zt h1,ym]
theorem els_snoc {P:List Int} {i:Nat} (h:i<P.length):els F (P.take (i+1))=els F (P.take i) ++ [el F (P.getD i 0)]:=by
 show (P.take (i+1)).map _=_
 rw [re,vq]
 simp [zt h,zy]
theorem trN_yes {P:List Int} {i:Nat} (h:i<P.length) (hn:loI F (P.getD i 0)≠0):trN F P (i+1)=i+1:=by
 unfold trN
 rw [els_snoc h,top_snoc,if_neg (fun e=>hn (by rw [loI_eq,e];rfl))]
 simp;omega
theorem trN_no {P:List Int} {i:Nat} (h:i<P.length) (hn:loI F (P.getD i 0)=0):trN F P (i+1)=trN F P i:=by
 unfold trN
 rw [els_snoc h,top_snoc,if_pos (by rw [loI_eq] at hn;exact vi_zero.1 hn)]
theorem trN_le {P:List Int} {i:Nat}:trN F P i≤i:=by
 unfold trN
 refine xl (top_le _) ?_
 simp;omega
theorem trL_eq {P:List Int}:(trI F P P.length).take (trN F P P.length)=trL F P:=by
 rw [trI_all]
 unfold trN trL trim
 rw [xb]
 simp [List.map_take]
theorem trL_len {P:List Int}:(trL F P).length=trN F P P.length:=by
 unfold trL trN
 rw [xb]
 show ((trim (els F P)).map vi).length=_
 rw [zn,trim_len]
theorem lo_x0 (a:Int):loI F (ibit .xor .i64 a 0)=loI F a:=by
 rw [lo_xor,loI_eq]
 congr 1
 have:el F 0=Fd.zr:=El.ext (by show lw F.m 0=0;unfold lw;simp)
 rw [this,Fd.add0]
theorem trI_val {P:List Int} {i:Nat} (h:i<P.length):(trI F P (i+1)).getD i 0=loI F (P.getD i 0):=by
 unfold trI
 simp only [zy,zf,xh h,yr,ym,if_pos (Nat.lt_succ_self i)]
variable (F)
def Tr4 (P:List Int):Inv' C0:=⟨4,Nat,fun i=>[(14,.int .i64 (i:Int)),(6,.int .i64 (trN F P i:Int))],fun i m=>match m with
 | [r,f,p,x]=>[r,f,p,⟨x.block,x.base,1,true,none,.rows 3 (trI F P i)⟩]
 | m=>m,fun i=>i≤P.length,fun i=>P.length - i⟩
theorem trim_ok (bR qR bF qF:Nat) (o:Bool) (b q:Nat) (l:List Int) (i n c:Nat) (h:i+n≤l.length) (hn:n<1000000000) (ho:o=false→n=0∧c=0) (P:List Int) (hL:P.length=n) (pv:∀ j,j<n→l.getD (j+i) 0=P.getD j 0):
 Does (C:=C0) Tryz.prog (.fn 116) [⟨bR,qR,1,false,none,.one [.ptr 1 0 0]⟩,⟨bF,qF,4,false,none,.one [.junk,.int .i64 (szF F:Int)]⟩,⟨b,q,1,false,some o,.rows 3 l⟩] [.ptr 0 0 0,.sl 2 i n c]
  [⟨Os,fun y=>Ow (trL F P) y,fun y=>.sl 3 0 (trL F P).length y.2.2.2,fun y=>[⟨bR,qR,1,false,none,.one [.ptr 1 0 0]⟩,⟨bF,qF,4,false,none,.one [.junk,.int .i64 (szF F:Int)]⟩,⟨b,q,1,false,some o,.rows 3 l⟩,osC true y]⟩]:=by
 have hby:(Tryz.prog.types[3].bytes:Int)=8:=by kernel_rfl
 have lI:=fun j=>trI_len (F:=F) (P:=P) (i:=j)
 have lN:=fun j=>trN_le (F:=F) (P:=P) (i:=j)
 refine loc_fn (P:=Tryz.prog) (E:=⟨[],[pcAdd F],40,[],[],[],none⟩) (L:=[Tr4 F P]) mix Tryz.func116 rfl (by kernel_rfl) (by kernel_rfl) rfl rfl ?_
 ((conv=>arg 1;reduce);with_reducible repeat' first | exact ty | refine ta ?_ ?_ | refine ti fun _ => ?_ | refine tf fun _ => ?_ | refine tl ?_)
 all_goals try exact vlf
 · exact ⟨by omega,by omega,by rw [hby];omega,by omega⟩
 · rename_i x
   refine Stands.one (0:Nat) ⟨zg _,?_⟩
   ((conv=>arg 1;reduce);with_reducible repeat' first | exact ty | refine ta ?_ ?_ | refine ti fun _ => ?_ | refine tf fun _ => ?_ | refine tl ?_)
   all_goals first | exact vlf | (show (0:Int)=(trN F P 0:Int);unfold trN;rfl) | (rw [← trI_zero,hL];rfl)
 all_goals try (
  rename_i x j hj d
  change Nat at j
  have hj:j≤P.length:=hj
  have d:(j:Int)<(n:Int):=ng d
  first
  | exact on_of ho (by omega)
  | exact d
  | (show (j:Int).toNat+i<l.length;omega)
  | (show (j:Int)<((n:Int).toNat:Int);omega)
  | (rw [lI];show (j:Int).toNat+0<P.length;omega)
  | (rw [zh,lI];show (j:Int).toNat+0<P.length;omega))
 all_goals try (
  rename_i x j hj d t
  change Nat at j
  have hj:j≤P.length:=hj
  have d:(j:Int)<(n:Int):=ng d
  have e:(trI F P j).set j (loI F (ibit .xor .i64 (l.getD (j+i) 0) 0))=trI F P (j+1):=by rw [pv j (by omega),lo_x0];exact trI_set (by omega)
  first
  | exact inR64 (n:=(j:Int)+1) (by omega) (by omega)
  | (have t:decide (((trI F P j).set j (loI F (ibit .xor .i64 (l.getD (j+i) 0) 0))).getD j 0≠0)=true:=t
     rw [e,trI_val (by omega)] at t
     have hN:=trN_yes (F:=F) (P:=P) (i:=j) (by omega) (ng t)
     refine Stands.one (j+1:Nat) ⟨by show j+1≤P.length;omega,by show P.length - (j+1)<P.length - j;omega,?_⟩
     ((conv=>arg 1;reduce);with_reducible repeat' first | exact ty | refine ta ?_ ?_ | refine ti fun _ => ?_ | refine tf fun _ => ?_ | refine tl ?_)
     all_goals first | exact vlf | exact e.symm | (show ((j:Int)+1)=(trN F P (j+1):Int);rw [hN];rfl))
  | (have t:decide (((trI F P j).set j (loI F (ibit .xor .i64 (l.getD (j+i) 0) 0))).getD j 0≠0)=false:=t
     rw [e,trI_val (by omega)] at t
     have hN:=trN_no (F:=F) (P:=P) (i:=j) (by omega) (Classical.not_not.1 (nf t))
     refine Stands.one (j+1:Nat) ⟨by show j+1≤P.length;omega,by show P.length - (j+1)<P.length - j;omega,?_⟩
     ((conv=>arg 1;reduce);with_reducible repeat' first | exact ty | refine ta ?_ ?_ | refine ti fun _ => ?_ | refine tf fun _ => ?_ | refine tl ?_)
     all_goals first | exact vlf | exact e.symm | (show (trN F P j:Int)=(trN F P (j+1):Int);rw [hN])))
 · rename_i x j hj d
   change Nat at j
   have hj:j≤P.length:=hj
   have:=lN j
   show (trN F P j:Int)≤((n:Int).toNat:Int)
   omega
 · rename_i x j hj d
   change Nat at j
   have hj:j≤P.length:=hj
   have h1:=lN j
   rw [lI,show Tryz.prog.types[3].bytes=8 by kernel_rfl]
   show 0+trN F P j≤P.length∧trN F P j*8≤140737488355328
   omega
 · rename_i x j hj d bb sp hsp
   change Nat at j
   change List Int at sp
   have hj:j≤P.length:=hj
   have d:¬ (j:Int)<(n:Int):=nf d
   obtain rfl:j=P.length:=by omega
   have hsp:trN F P P.length=0→sp.length=0:=hsp
   have hl:(trL F P).length=trN F P P.length:=trL_len
   have e:((trI F P P.length).take (trN F P P.length) ++ sp).take (trL F P).length=trL F P:=by
    rw [hl,trL_eq,← hl,vj]
    rfl
   refine Ends.one (ye 0 (trN F P P.length),bb,(trI F P P.length).take (trN F P P.length) ++ sp,(trN F P P.length)+sp.length) ⟨e,by show _≤trN F P P.length+sp.length;omega,?_,?_⟩ ?_
   · show trN F P P.length+sp.length≤((trI F P P.length).take (trN F P P.length) ++ sp).length
     rw [trL_eq,zx,hl];exact zw _
   · intro h0
     have:¬ 0<trN F P P.length:=fun h=>by
      have h0:ye 0 (trN F P P.length)=false:=h0
      rw [show ye 0 (trN F P P.length)=true by rw [ui];exact h] at h0
      cases h0
     have h2:=hsp (by omega)
     exact ⟨by omega,by show trN F P P.length+sp.length=0;omega⟩
   ((conv=>arg 1;reduce);with_reducible repeat' first | exact ty | refine ta ?_ ?_ | refine ti fun _ => ?_ | refine tf fun _ => ?_ | refine tl ?_)
   all_goals first | exact vlf | exact hl | exact hl.symm
abbrev onOf:Option Bool→Bool
 | none=>true
 | some b=>b
abbrev Rs:=Nat×Nat×Nat×Nat×Bool×Nat×Nat×List Int×Nat×Nat×Nat
abbrev Rs.pre:Rs→Prop:=fun (bR,qR,bF,qF,o,b,q,l,i,n,c)=>i+n≤l.length∧n<1000000000∧(o=false→n=0∧c=0)
def fcTrim:Fc Tryz.prog C0 where
 tg:=.fn 116
 X:=Rs
 args:=fun (bR,qR,bF,qF,o,b,q,l,i,n,c)=>[.ptr 0 0 0,.sl 2 i n c]
 mem:=fun (bR,qR,bF,qF,o,b,q,l,i,n,c)=>[⟨bR,qR,1,false,none,.one [.ptr 1 0 0]⟩,⟨bF,qF,4,false,none,.one [.junk,.int .i64 (szF F:Int)]⟩,⟨b,q,1,false,some o,.rows 3 l⟩]
 pre:=Rs.pre
 alts:=fun (bR,qR,bF,qF,o,b,q,l,i,n,c)=>[⟨Os,fun y=>Ow (trL F ((l.drop i).take n)) y,fun y=>.sl 3 0 (trL F ((l.drop i).take n)).length y.2.2.2,fun y=>[⟨bR,qR,1,false,none,.one [.ptr 1 0 0]⟩,⟨bF,qF,4,false,none,.one [.junk,.int .i64 (szF F:Int)]⟩,⟨b,q,1,false,some o,.rows 3 l⟩,osC true y]⟩]
 mat vs m:=match vs with
  | [.ptr r _ _,.sl s i n c]=>match nth m r with
    | ⟨bR,qR,_,_,_,.one (.ptr f _ _ :: _)⟩=>match nth m f,nth m s with
      | ⟨bF,qF,_,_,_,_⟩,⟨b,q,_,_,g,.rows 3 l⟩=>some ((bR,qR,bF,qF,onOf g,b,q,l,i,n,c),[r,f,s])
      | _,_=>none
    | _=>none
  | [.ptr r _ _,.nils]=>match nth m r with
    | ⟨bR,qR,_,_,_,.one (.ptr f _ _ :: _)⟩=>match nth m f with
      | ⟨bF,qF,_,_,_,_⟩=>some ((bR,qR,bF,qF,false,0,0,[],0,0,0),[r,f,m.length])
    | _=>none
  | _=>none
 ok:=fun (bR,qR,bF,qF,o,b,q,l,i,n,c) h=>trim_ok F bR qR bF qF o b q l i n c h.1 h.2.1 h.2.2 _ (row_len h.1) row_at
@[irreducible] def scI (P:List Int) (a:Int) (i:Nat):List Int:=(xq P.length).map fun j=>if j<i then muI F (P.getD j 0) a else 0
@[irreducible] def scL (P:List Int) (a:Int):List Int:=vis (trim (mulS (els F P) (el F a)))
variable {F}
theorem scI_len {P:List Int} {a:Int} {i:Nat}:(scI F P a i).length=P.length:=by unfold scI;simp
theorem scI_zero {P:List Int} {a:Int}:zo P.length (0:Int)=scI F P a 0:=by
 unfold scI
 refine wv (by simp) fun j _ _=>by simp
theorem scI_set {P:List Int} {a:Int} {i:Nat} (h:i<P.length):(scI F P a i).set i (muI F (P.getD i 0) a)=scI F P a (i+1):=by
 unfold scI
 rw [set_map h]
 refine xm fun j _ => ?_
 by_cases hj:j=i
 · subst hj;rw [if_pos rfl,if_pos (by omega)]
 · rw [if_neg hj]
   by_cases h2:j<i
   · rw [if_pos h2,if_pos (by omega)]
   · rw [if_neg h2,if_neg (by omega)]
theorem scL_eq {P:List Int} {a:Int}:trL F (scI F P a P.length)=scL F P a:=by
 unfold trL scL
 congr 2
 unfold scI mulS
 refine wv (by simp) fun j h1 h2 => ?_
 simp only [zn,um] at h1
 simp only [th,sj,if_pos h1,muI_eq,el_vi,zy,zt h1,ym]
variable (F)
def Sc3 (P:List Int) (a:Int):Inv' C0:=⟨3,Nat,fun i=>[(15,.int .i64 (i:Int))],fun i m=>match m with
 | [r,f,e,g,p,x]=>[r,f,e,g,p,⟨x.block,x.base,1,true,none,.rows 3 (scI F P a i)⟩]
 | m=>m,fun i=>i≤P.length,fun i=>P.length - i⟩
theorem scale_ok (bR qR bF qF be qe bl ql:Nat) (o:Bool) (b q:Nat) (l:List Int) (i n c:Nat) (a:Int) (h:i+n≤l.length) (hn:n<1000000000) (ho:o=false→n=0∧c=0) (P:List Int) (hL:P.length=n) (pv:∀ j,j<n→l.getD (j+i) 0=P.getD j 0):
 Does (C:=C0) Tryz.prog (.fn 89) [⟨bR,qR,1,false,none,.one [.ptr 1 0 0]⟩,⟨bF,qF,4,false,none,.one [.int .i64 (F.m:Int),.int .i64 (szF F:Int),.sl 2 0 (nF F) (nF F),.sl 3 0 (szF F) (szF F)]⟩,xCk F be qe,lCk F bl ql,⟨b,q,1,false,some o,.rows 3 l⟩] [.ptr 0 0 0,.sl 4 i n c,.int .i64 a]
  [⟨Os,fun y=>Ow (scL F P a) y,fun y=>.sl 5 0 (scL F P a).length y.2.2.2,fun y=>[⟨bR,qR,1,false,none,.one [.ptr 1 0 0]⟩,⟨bF,qF,4,false,none,.one [.int .i64 (F.m:Int),.int .i64 (szF F:Int),.sl 2 0 (nF F) (nF F),.sl 3 0 (szF F) (szF F)]⟩,xCk F be qe,lCk F bl ql,⟨b,q,1,false,some o,.rows 3 l⟩,osC true y]⟩]:=by
 have hby:(Tryz.prog.types[3].bytes:Int)=8:=by kernel_rfl
 have lI:=fun j=>scI_len (F:=F) (P:=P) (a:=a) (i:=j)
 refine loc_fn (P:=Tryz.prog) (E:=⟨[fcTrim F],[pcMul F],34,[],[],[],none⟩) (L:=[Sc3 F P a]) mix Tryz.func89 rfl (by kernel_rfl) (by kernel_rfl) rfl rfl ?_
 ((conv=>arg 1;reduce);with_reducible repeat' first | exact ty | refine ta ?_ ?_ | refine ti fun _ => ?_ | refine tf fun _ => ?_ | refine tl ?_)
 all_goals try exact vlf
 · exact ⟨by omega,by omega,by rw [hby];omega,by omega⟩
 · rename_i x
   refine Stands.one (0:Nat) ⟨zg _,?_⟩
   ((conv=>arg 1;reduce);with_reducible repeat' first | exact ty | refine ta ?_ ?_ | refine ti fun _ => ?_ | refine tf fun _ => ?_ | refine tl ?_)
   all_goals first | exact vlf | (rw [← scI_zero,hL];rfl)
 all_goals try (
  rename_i x j hj d
  change Nat at j
  have hj:j≤P.length:=hj
  have d:(j:Int)<(n:Int):=ng d
  first
  | exact on_of ho (by omega)
  | exact d
  | exact inR64 (n:=(j:Int)+1) (by omega) (by omega)
  | (show (j:Int).toNat+i<l.length;omega)
  | (show (j:Int)<((n:Int).toNat:Int);omega)
  | (rw [lI];show (j:Int).toNat+0<P.length;omega)
  | (refine Stands.one (j+1:Nat) ⟨by show j+1≤P.length;omega,by show P.length - (j+1)<P.length - j;omega,?_⟩
     ((conv=>arg 1;reduce);with_reducible repeat' first | exact ty | refine ta ?_ ?_ | refine ti fun _ => ?_ | refine tf fun _ => ?_ | refine tl ?_)
     all_goals first | exact vlf | (show scI F P a (j+1)=(scI F P a j).set j (muI F (l.getD (j+i) 0) a);rw [pv j (by omega)];exact (scI_set (by omega)).symm)))
 · rename_i x j hj d
   change Nat at j
   refine ⟨?_,by show (n:Int).toNat<1000000000;omega,fun h=>nomatch h⟩
   show 0+(n:Int).toNat≤(scI F P a j).length
   rw [lI];omega
 · rename_i x j hj d y hy
   change Nat at j
   have hj:j≤P.length:=hj
   have d:¬ (j:Int)<(n:Int):=nf d
   obtain rfl:j=P.length:=by omega
   have e:((scI F P a P.length).drop 0).take (n:Int).toNat=scI F P a P.length:=by
    rw [zm,zc (by rw [lI];omega)]
   have hy:Ow (trL F (((scI F P a P.length).drop 0).take (n:Int).toNat)) y:=hy
   rw [e,scL_eq] at hy
   refine Ends.one y hy ?_
   ((conv=>arg 1;reduce);with_reducible repeat' first | exact ty | refine ta ?_ ?_ | refine ti fun _ => ?_ | refine tf fun _ => ?_ | refine tl ?_)
   all_goals first | exact vlf | (show (trL F (((scI F P a P.length).drop 0).take (n:Int).toNat)).length=_;rw [e,scL_eq]) | (show _=(trL F (((scI F P a P.length).drop 0).take (n:Int).toNat)).length;rw [e,scL_eq])
abbrev Rf':=Nat×Nat×Nat×Nat×Nat×Nat×Nat×Nat×Bool×Nat×Nat×List Int×Nat×Nat×Nat
abbrev ringC (F:Gf) (bR qR bF qF be qe bl ql:Nat):List (Ck C0):=[⟨bR,qR,1,false,none,.one [.ptr 1 0 0]⟩,⟨bF,qF,4,false,none,.one [.int .i64 (F.m:Int),.int .i64 (szF F:Int),.sl 2 0 (nF F) (nF F),.sl 3 0 (szF F) (szF F)]⟩,xCk F be qe,lCk F bl ql]
def fcScale:Fc Tryz.prog C0 where
 tg:=.fn 89
 X:=Rf'×Int
 args:=fun ((bR,qR,bF,qF,be,qe,bl,ql,o,b,q,l,i,n,c),a)=>[.ptr 0 0 0,.sl 4 i n c,.int .i64 a]
 mem:=fun ((bR,qR,bF,qF,be,qe,bl,ql,o,b,q,l,i,n,c),a)=>ringC F bR qR bF qF be qe bl ql ++ [⟨b,q,1,false,some o,.rows 3 l⟩]
 pre:=fun ((bR,qR,bF,qF,be,qe,bl,ql,o,b,q,l,i,n,c),a)=>i+n≤l.length∧n<1000000000∧(o=false→n=0∧c=0)
 alts:=fun ((bR,qR,bF,qF,be,qe,bl,ql,o,b,q,l,i,n,c),a)=>[⟨Os,fun y=>Ow (scL F ((l.drop i).take n) a) y,fun y=>.sl 5 0 (scL F ((l.drop i).take n) a).length y.2.2.2,fun y=>ringC F bR qR bF qF be qe bl ql ++ [⟨b,q,1,false,some o,.rows 3 l⟩,osC true y]⟩]
 mat vs m:=match vs with
  | [.ptr r _ _,.sl s i n c,.int _ a]=>match nth m r with
    | ⟨bR,qR,_,_,_,.one (.ptr f _ _ :: _)⟩=>match nth m f with
      | ⟨bF,qF,_,_,_,.one (_ :: _ :: .sl e _ _ _ :: .sl g _ _ _ :: _)⟩=>match nth m e,nth m g,nth m s with
        | ⟨be,qe,_,_,_,_⟩,⟨bl,ql,_,_,_,_⟩,⟨b,q,_,_,z,.rows 3 l⟩=>some (((bR,qR,bF,qF,be,qe,bl,ql,onOf z,b,q,l,i,n,c),a),[r,f,e,g,s])
        | _,_,_=>none
      | _=>none
    | _=>none
  | _=>none
 ok:=fun ((bR,qR,bF,qF,be,qe,bl,ql,o,b,q,l,i,n,c),a) h=>scale_ok F bR qR bF qF be qe bl ql o b q l i n c a h.1 h.2.1 h.2.2 _ (row_len h.1) row_at
end
end
end Go.Vx
namespace Go.Vx
open Go Go.Proofs
noncomputable section
variable [Gl]
@[irreducible] def adI (A B:List Int) (i:Nat):List Int:=(xq A.length).map fun j=>if j<i then ibit .xor .i64 (A.getD j 0) (B.getD j 0) else A.getD j 0
@[irreducible] def adL (F:Gf) (A B:List Int):List Int:=vis (trim (addP (els F A) (els F B)))
section
variable {F:Gf} {A B:List Int}
theorem adI_len {i:Nat}:(adI A B i).length=A.length:=by unfold adI;simp
theorem adI_zero:adI A B 0=A:=by
 unfold adI
 refine wv (by simp) fun j h1 h2 => ?_
 simp [zy,zt h2]
theorem adI_at {i:Nat} (h:i<A.length):(adI A B i).getD i 0=A.getD i 0:=by
 unfold adI
 simp only [zy,zf,xh h,yr,ym,if_neg (ua i)]
theorem adI_set {i:Nat} {sp:List Int} (h:i<A.length):(adI A B i ++ sp).set i (ibit .xor .i64 ((adI A B i ++ sp).getD i 0) (B.getD i 0))=adI A B (i+1) ++ sp:=by
 have e:(adI A B i ++ sp).getD i 0=A.getD i 0:=by
  rw [← adI_at (B:=B) h]
  simp only [zy,yx (show i<(adI A B i).length by rw [adI_len];exact h)]
 rw [e,tu _ _ (by rw [adI_len];exact h)]
 congr 1
 unfold adI
 rw [set_map h]
 refine xm fun j _ => ?_
 by_cases hj:j=i
 · subst hj;rw [if_pos rfl,if_pos (by omega)]
 · rw [if_neg hj]
   by_cases h2:j<i
   · rw [if_pos h2,if_pos (by omega)]
   · rw [if_neg h2,if_neg (by omega)]
theorem els_cf (P:List Int) (i:Nat):cf (els F P) i=if i<P.length then el F (P.getD i 0) else Fd.zr:=by
 unfold cf els
 simp only [zy,zf]
 by_cases h:i<P.length
 · rw [if_pos h,zt h];rfl
 · rw [if_neg h,yk (by omega)];rfl
theorem adL_eq (h:B.length≤A.length):trL F (adI A B B.length)=adL F A B:=by
 unfold trL adL
 congr 1
 refine trim_ext fun i => ?_
 rw [addP_cf,els_cf,els_cf,els_cf,adI_len]
 by_cases h1:i<A.length
 · rw [if_pos h1,if_pos h1]
   have e:(adI A B B.length).getD i 0=if i<B.length then ibit .xor .i64 (A.getD i 0) (B.getD i 0) else A.getD i 0:=by
    unfold adI
    simp only [zy,zf,xh h1,yr,ym]
   rw [e]
   by_cases h2:i<B.length
   · rw [if_pos h2,if_pos h2,el_xor (by have:=F.m14;omega)]
   · rw [if_neg h2,if_neg h2,Fd.add0]
 · rw [if_neg h1,if_neg h1,if_neg (by omega),Fd.add0]
theorem adL_comm:adL F A B=adL F B A:=by
 unfold adL
 congr 1
 refine trim_ext fun i => ?_
 rw [addP_cf,addP_cf,Fd.addC]
end
section
variable (F:Gf)
def Ad5 (t:Bool) (A B:List Int):Inv' C0:=⟨5,Nat×List Int,fun x=>[(21,.int .i64 (x.1:Int))],fun x m=>match m with
 | [r,f,p,q,y]=>[r,f,p,q,⟨y.block,y.base,1,true,y.gl,.rows 3 (adI A B x.1 ++ x.2)⟩]
 | m=>m,fun x=>B.length+t.toNat≤A.length∧x.1≤B.length∧(A.length=0→x.2.length=0),fun x=>B.length - x.1⟩
theorem blt_on {n:Nat} (h:0<n):ye 0 n=true:=by rw [ui];exact h
theorem blt_off {n:Nat} (h:ye 0 n=false):n=0:=by
 refine Nat.eq_zero_of_not_pos fun h2 => ?_
 rw [blt_on h2] at h;cases h
set_option maxHeartbeats 4000000 in
theorem padd_ok (bR qR bF qF:Nat) (o:Bool) (b q:Nat) (l:List Int) (i n c:Nat) (h:i+n≤l.length) (hn:n<1000000000) (ho:o=false→n=0∧c=0) (P:List Int) (hL:P.length=n) (hP:(l.drop i).take n=P)
 (o':Bool) (b' q':Nat) (l':List Int) (i' n' c':Nat) (h':i'+n'≤l'.length) (hn':n'<1000000000) (ho':o'=false→n'=0∧c'=0) (Q:List Int) (hL':Q.length=n') (hQ:(l'.drop i').take n'=Q):
 Does (C:=C0) Tryz.prog (.fn 88) [⟨bR,qR,1,false,none,.one [.ptr 1 0 0]⟩,⟨bF,qF,4,false,none,.one [.junk,.int .i64 (szF F:Int)]⟩,⟨b,q,1,false,some o,.rows 3 l⟩,⟨b',q',1,false,some o',.rows 3 l'⟩] [.ptr 0 0 0,.sl 2 i n c,.sl 3 i' n' c']
  [⟨Os,fun y=>Ow (adL F P Q) y,fun y=>.sl 4 0 (adL F P Q).length y.2.2.2,fun y=>[⟨bR,qR,1,false,none,.one [.ptr 1 0 0]⟩,⟨bF,qF,4,false,none,.one [.junk,.int .i64 (szF F:Int)]⟩,⟨b,q,1,false,some o,.rows 3 l⟩,⟨b',q',1,false,some o',.rows 3 l'⟩,osC true y]⟩]:=by
 have hby:Tryz.prog.types[3].bytes=8:=by kernel_rfl
 have lI:=fun A B j=>adI_len (A:=A) (B:=B) (i:=j)
 have pv:∀ j,j<n→l.getD (j+i) 0=P.getD j 0:=by rw [← hP];exact row_at
 have pv':∀ j,j<n'→l'.getD (j+i') 0=Q.getD j 0:=by rw [← hQ];exact row_at
 refine loc_fn (P:=Tryz.prog) (E:=⟨[fcTrim F],[],37,[],[],[],none⟩) (L:=[Ad5 false P Q,Ad5 true Q P]) mix Tryz.func88 rfl (by kernel_rfl) (by kernel_rfl) rfl rfl ?_
 ((conv=>arg 1;reduce);with_reducible repeat' first | exact ty | refine ta ?_ ?_ | refine ti fun _ => ?_ | refine tf fun _ => ?_ | refine tl ?_)
 all_goals try exact vlf
 all_goals try (exfalso;have k:=(‹(Ad5 false P Q).inv _›).1;have d:=ng ‹decide ((n:Int)<(n':Int))=true›;change Q.length+0≤P.length at k;omega)
 all_goals try (exfalso;have k:=(‹(Ad5 true Q P).inv _›).1;have d:=nf ‹decide ((n:Int)<(n':Int))=false›;change P.length+1≤Q.length at k;omega)
 all_goals try (first | exact ⟨by omega,by rw [hby];omega⟩ | exact fun h0=>⟨(ho h0).1,(ho h0).1⟩ | exact fun h0=>⟨(ho' h0).1,(ho' h0).1⟩)
 all_goals try (
  rename_i d bb sp hs
  change List Int at sp
  first
  | (have d:(n:Int)<(n':Int):=ng d
     refine Stands.next (Stands.one (0,sp) ⟨⟨by show P.length+1≤Q.length;omega,zg _,fun h0=>hs (by omega)⟩,?_⟩)
     ((conv=>arg 1;reduce);with_reducible repeat' first | exact ty | refine ta ?_ ?_ | refine ti fun _ => ?_ | refine tf fun _ => ?_ | refine tl ?_)
     all_goals first | exact vlf | (show adI Q P 0 ++ sp=(l'.drop i').take n' ++ sp;rw [adI_zero,hQ]))
  | (have d:¬ (n:Int)<(n':Int):=nf d
     refine Stands.one (0,sp) ⟨⟨by show Q.length+0≤P.length;omega,zg _,fun h0=>hs (by omega)⟩,?_⟩
     ((conv=>arg 1;reduce);with_reducible repeat' first | exact ty | refine ta ?_ ?_ | refine ti fun _ => ?_ | refine tf fun _ => ?_ | refine tl ?_)
     all_goals first | exact vlf | (show adI P Q 0 ++ sp=(l.drop i).take n ++ sp;rw [adI_zero,hP])))
 all_goals try (
  rename_i d bb sp hs x hx e
  obtain ⟨j,sq⟩:=x
  obtain ⟨k1,k2,k3⟩:P.length+1≤Q.length∧j≤P.length∧(Q.length=0→sq.length=0):=hx
  have e:(j:Int)<(n:Int):=ng e
  first
  | exact on_of ho (by omega)
  | exact e
  | exact blt_on (by omega)
  | exact inR64 (n:=(j:Int)+1) (by omega) (by omega)
  | (show (j:Int).toNat+i<l.length;omega)
  | (show (j:Int)<(n':Int);omega)
  | (rw [zx,lI];show (j:Int).toNat+0<Q.length+sq.length;omega)
  | (refine Stands.next (Stands.one (j+1,sq) ⟨⟨k1,by show j+1≤P.length;omega,k3⟩,by show P.length - (j+1)<P.length - j;omega,?_⟩)
     ((conv=>arg 1;reduce);with_reducible repeat' first | exact ty | refine ta ?_ ?_ | refine ti fun _ => ?_ | refine tf fun _ => ?_ | refine tl ?_)
     all_goals first | exact vlf | (show adI Q P (j+1) ++ sq=(adI Q P j ++ sq).set j (ibit .xor .i64 ((adI Q P j ++ sq).getD j 0) (l.getD (j+i) 0));rw [pv j (by omega)];exact (adI_set (by omega)).symm)))
 all_goals try (
  rename_i d bb sp hs x hx e
  obtain ⟨j,sq⟩:=x
  change List Int at sp
  obtain ⟨k1,k2,k3⟩:P.length+1≤Q.length∧j≤P.length∧(Q.length=0→sq.length=0):=hx
  have e:¬ (j:Int)<(n:Int):=nf e
  refine ⟨?_,by show n'<1000000000;omega,fun h0 => ?_⟩
  · show 0+n'≤(adI Q P j ++ sq).length
    rw [zx,lI];omega
  · have h1:=blt_off (n:=n') h0
    exact ⟨h1,by show n'+sp.length=0;rw [hs h1,h1]⟩)
 all_goals try (
  rename_i d bb sp hs x hx e y hy
  obtain ⟨j,sq⟩:=x
  change List Int at sp
  obtain ⟨k1,k2,k3⟩:P.length+1≤Q.length∧j≤P.length∧(Q.length=0→sq.length=0):=hx
  have e:¬ (j:Int)<(n:Int):=nf e
  obtain rfl:j=P.length:=by omega
  have e2:trL F (((adI Q P P.length ++ sq).drop 0).take n')=adL F P Q:=by
   rw [zm,uk (by rw [lI];omega),zc (by rw [lI];omega),adL_eq (by omega),adL_comm]
  have hy:Ow (trL F (((adI Q P P.length ++ sq).drop 0).take n')) y:=hy
  rw [e2] at hy
  refine Ends.one y hy ?_
  ((conv=>arg 1;reduce);with_reducible repeat' first | exact ty | refine ta ?_ ?_ | refine ti fun _ => ?_ | refine tf fun _ => ?_ | refine tl ?_)
  all_goals first | exact vlf | exact congrArg wi e2 | exact (congrArg wi e2).symm)
 all_goals try (
  rename_i d bb sp hs x hx e
  obtain ⟨j,sq⟩:=x
  obtain ⟨k1,k2,k3⟩:Q.length+0≤P.length∧j≤Q.length∧(P.length=0→sq.length=0):=hx
  have e:(j:Int)<(n':Int):=ng e
  first
  | exact on_of ho' (by omega)
  | exact e
  | exact blt_on (by omega)
  | exact inR64 (n:=(j:Int)+1) (by omega) (by omega)
  | (show (j:Int).toNat+i'<l'.length;omega)
  | (show (j:Int)<(n:Int);omega)
  | (rw [zx,lI];show (j:Int).toNat+0<P.length+sq.length;omega)
  | (refine Stands.one (j+1,sq) ⟨⟨k1,by show j+1≤Q.length;omega,k3⟩,by show Q.length - (j+1)<Q.length - j;omega,?_⟩
     ((conv=>arg 1;reduce);with_reducible repeat' first | exact ty | refine ta ?_ ?_ | refine ti fun _ => ?_ | refine tf fun _ => ?_ | refine tl ?_)
     all_goals first | exact vlf | (show adI P Q (j+1) ++ sq=(adI P Q j ++ sq).set j (ibit .xor .i64 ((adI P Q j ++ sq).getD j 0) (l'.getD (j+i') 0));rw [pv' j (by omega)];exact (adI_set (by omega)).symm)))
 all_goals try (
  rename_i d bb sp hs x hx e
  obtain ⟨j,sq⟩:=x
  change List Int at sp
  obtain ⟨k1,k2,k3⟩:Q.length+0≤P.length∧j≤Q.length∧(P.length=0→sq.length=0):=hx
  have e:¬ (j:Int)<(n':Int):=nf e
  refine ⟨?_,by show n<1000000000;omega,fun h0 => ?_⟩
  · show 0+n≤(adI P Q j ++ sq).length
    rw [zx,lI];omega
  · have h1:=blt_off (n:=n) h0
    exact ⟨h1,by show n+sp.length=0;rw [hs h1,h1]⟩)
 all_goals try (
  rename_i d bb sp hs x hx e y hy
  obtain ⟨j,sq⟩:=x
  change List Int at sp
  obtain ⟨k1,k2,k3⟩:Q.length+0≤P.length∧j≤Q.length∧(P.length=0→sq.length=0):=hx
  have e:¬ (j:Int)<(n':Int):=nf e
  obtain rfl:j=Q.length:=by omega
  have e2:trL F (((adI P Q Q.length ++ sq).drop 0).take n)=adL F P Q:=by
   rw [zm,uk (by rw [lI];omega),zc (by rw [lI];omega),adL_eq (by omega)]
  have hy:Ow (trL F (((adI P Q Q.length ++ sq).drop 0).take n)) y:=hy
  rw [e2] at hy
  refine Ends.one y hy ?_
  ((conv=>arg 1;reduce);with_reducible repeat' first | exact ty | refine ta ?_ ?_ | refine ti fun _ => ?_ | refine tf fun _ => ?_ | refine tl ?_)
  all_goals first | exact vlf | exact congrArg wi e2 | exact (congrArg wi e2).symm)
abbrev Sl3:=Bool×Nat×Nat×List Int×Nat×Nat×Nat
abbrev Sl3.pre:Sl3→Prop:=fun (o,b,q,l,i,n,c)=>i+n≤l.length∧n<1000000000∧(o=false→n=0∧c=0)
def fcPAdd:Fc Tryz.prog C0 where
 tg:=.fn 88
 X:=(Nat×Nat×Nat×Nat)×Sl3×Sl3
 args:=fun (_,(o,b,q,l,i,n,c),(o',b',q',l',i',n',c'))=>[.ptr 0 0 0,.sl 2 i n c,.sl 3 i' n' c']
 mem:=fun ((bR,qR,bF,qF),(o,b,q,l,i,n,c),(o',b',q',l',i',n',c'))=>[⟨bR,qR,1,false,none,.one [.ptr 1 0 0]⟩,⟨bF,qF,4,false,none,.one [.junk,.int .i64 (szF F:Int)]⟩,⟨b,q,1,false,some o,.rows 3 l⟩,⟨b',q',1,false,some o',.rows 3 l'⟩]
 pre:=fun (_,x,y)=>Sl3.pre x∧Sl3.pre y
 alts:=fun ((bR,qR,bF,qF),(o,b,q,l,i,n,c),(o',b',q',l',i',n',c'))=>[⟨Os,fun y=>Ow (adL F ((l.drop i).take n) ((l'.drop i').take n')) y,fun y=>.sl 4 0 (adL F ((l.drop i).take n) ((l'.drop i').take n')).length y.2.2.2,fun y=>[⟨bR,qR,1,false,none,.one [.ptr 1 0 0]⟩,⟨bF,qF,4,false,none,.one [.junk,.int .i64 (szF F:Int)]⟩,⟨b,q,1,false,some o,.rows 3 l⟩,⟨b',q',1,false,some o',.rows 3 l'⟩,osC true y]⟩]
 mat vs m:=match vs with
  | [.ptr r _ _,.sl s i n c,.sl s' i' n' c']=>match nth m r with
    | ⟨bR,qR,_,_,_,.one (.ptr f _ _ :: _)⟩=>match nth m f,nth m s,nth m s' with
      | ⟨bF,qF,_,_,_,_⟩,⟨b,q,_,_,g,.rows 3 l⟩,⟨b',q',_,_,g',.rows 3 l'⟩=>some (((bR,qR,bF,qF),(onOf g,b,q,l,i,n,c),(onOf g',b',q',l',i',n',c')),[r,f,s,s'])
      | _,_,_=>none
    | _=>none
  | _=>none
 ok:=fun ((bR,qR,bF,qF),(o,b,q,l,i,n,c),(o',b',q',l',i',n',c')) h=>padd_ok F bR qR bF qF o b q l i n c h.1.1 h.1.2.1 h.1.2.2 _ (row_len h.1.1) rfl o' b' q' l' i' n' c' h.2.1 h.2.2.1 h.2.2.2 _ (row_len h.2.1) rfl
end
end
end Go.Vx
namespace Go.Vx
open Go Go.Proofs
noncomputable section
variable [Gl]
section
variable (F:Gf)
theorem at_ok (o:Bool) (b q:Nat) (l:List Int) (i n c:Nat) (h:i+n≤l.length) (hn:n<1000000000) (ho:o=false→n=0∧c=0) (z:Int) (hz:0≤z):
 Tells (C:=C0) Tryz.prog (.fn 127) [⟨b,q,1,false,some o,.rows 3 l⟩] [.sl 0 i n c,.int .i64 z] (.int .i64 (((l.drop i).take n).getD z.toNat 0)):=by
 refine loc_pc (P:=Tryz.prog) (E:=⟨[],[],17,[],[],[],none⟩) (L:=[]) mix Tryz.func127 rfl (by kernel_rfl) (by kernel_rfl) rfl rfl ?_
 ((conv=>arg 1;reduce);with_reducible repeat' first | exact ty | refine ta ?_ ?_ | refine ti fun _ => ?_ | refine tf fun _ => ?_ | refine tl ?_)
 all_goals try exact vlf
 all_goals (rename_i d;simp only [yd,Bool.or_eq_false_iff,decide_eq_true_eq,decide_eq_false_iff_not,SB.val] at d)
 · rw [zy,yk (by rw [row_len h];omega)];rfl
 all_goals first
  | exact on_of ho (by omega)
  | (show z<(n:Int);omega)
  | (show z.toNat+i<l.length;omega)
  | exact row_at z.toNat (by omega)
def pcAt:Pc Tryz.prog C0 where
 tg:=.fn 127
 X:=Sl3×Int
 args:=fun ((o,b,q,l,i,n,c),z)=>[.sl 0 i n c,.int .i64 z]
 mem:=fun ((o,b,q,l,i,n,c),z)=>[⟨b,q,1,false,some o,.rows 3 l⟩]
 pre:=fun (s,z)=>Sl3.pre s∧0≤z
 res:=fun ((o,b,q,l,i,n,c),z)=>.int .i64 (((l.drop i).take n).getD z.toNat 0)
 mat vs m:=match vs with
  | [.sl s i n c,.int _ z]=>match nth m s with
    | ⟨b,q,_,_,g,.rows 3 l⟩=>some (((onOf g,b,q,l,i,n,c),z),[s])
    | _=>none
  | _=>none
 ok:=fun ((o,b,q,l,i,n,c),z) h=>at_ok o b q l i n c h.1.1 h.1.2.1 h.1.2.2 z h.2
@[irreducible] def smV (A B:List Int) (n i:Nat):Int:=vi (Fd.sm i fun j=>cf (els F A) j*cf (els F B) (n - j))
variable {F}
theorem vi_wrap (x:El F):IntKind.i64.wrap (x.v:Int)=(x.v:Int):=by
 have h1:=x.lt
 have h2:2 ^ F.m≤2 ^ 14:=zj (by omega) F.m14
 exact wrap_nat (zk h1 (xl h2 (by decide)))
theorem xor_vi (x y:El F):ibit .xor .i64 (vi x) (vi y)=vi (x+y):=by
 have h1:=x.lt
 have h3:=y.lt
 have h2:2 ^ F.m≤2 ^ 14:=zj (by omega) F.m14
 rw [ibit_xor]
 unfold vi
 rw [lw_nat (zk h1 (xl h2 (by decide))),lw_nat (zk h3 (xl h2 (by decide)))]
 exact vi_wrap (x+y)
theorem cf_els (A:List Int) (j:Nat):cf (els F A) j=el F (A.getD j 0):=by
 rw [els_cf]
 split
 · rfl
 · rename_i h
   rw [zy,yk (by omega)]
   exact (El.ext (by show 0=lw F.m 0;unfold lw;simp))
theorem smV_zero {A B:List Int} {n:Nat}:smV F A B n 0=0:=by unfold smV;rfl
theorem smV_succ {A B:List Int} {n i:Nat}:ibit .xor .i64 (smV F A B n i) (muI F (A.getD i 0) (B.getD (n - i) 0))=smV F A B n (i+1):=by
 unfold smV
 rw [muI_eq,← cf_els,← cf_els,xor_vi]
 rfl
variable (F)
def Sm3 (A B:List Int) (n L:Nat):Inv' C0:=⟨3,Nat,fun i=>[(14,.int .i64 (i:Int)),(13,.int .i64 (smV F A B n i))],fun i m=>m,fun i=>i≤L+1,fun i=>L+1 - i⟩
theorem sum_ok (bF qF be qe bl ql:Nat) (o:Bool) (b q:Nat) (l:List Int) (i n c:Nat) (h:i+n≤l.length) (hn:n<1000000000) (ho:o=false→n=0∧c=0) (o':Bool) (b' q':Nat) (l':List Int) (i' n' c':Nat) (h':i'+n'≤l'.length) (hn':n'<1000000000) (ho':o'=false→n'=0∧c'=0) (k L:Nat) (hk:k<n') (hL:L≤k):
 Tells (C:=C0) Tryz.prog (.fn 114) [fld F bF qF,xCk F be qe,lCk F bl ql,⟨b,q,1,false,some o,.rows 3 l⟩,⟨b',q',1,false,some o',.rows 3 l'⟩] [.sl 3 i n c,.sl 4 i' n' c',.int .i64 (k:Int),.int .i64 0,.int .i64 (L:Int),.fn (.func 113) [.ptr 0 0 0] []]
  (.int .i64 (smV F ((l.drop i).take n) ((l'.drop i').take n') k (L+1))):=by
 have pv':∀ j,j<n'→l'.getD (j+i') 0=((l'.drop i').take n').getD j 0:=row_at
 refine loc_pc (P:=Tryz.prog) (E:=⟨[],[pcMul F,pcAt],35,[],[],[],none⟩) (L:=[Sm3 F ((l.drop i).take n) ((l'.drop i').take n') k L]) mix Tryz.func114 rfl (by kernel_rfl) (by kernel_rfl) rfl rfl ?_
 ((conv=>arg 1;reduce);with_reducible repeat' first | exact ty | refine ta ?_ ?_ | refine ti fun _ => ?_ | refine tf fun _ => ?_ | refine tl ?_)
 all_goals try exact vlf
 · refine Stands.one (0:Nat) ⟨zg _,?_⟩
   ((conv=>arg 1;reduce);with_reducible repeat' first | exact ty | refine ta ?_ ?_ | refine ti fun _ => ?_ | refine tf fun _ => ?_ | refine tl ?_)
   all_goals first | exact vlf | exact smV_zero.symm
 all_goals (
  rename_i j hj d
  change Nat at j
  have hj:j≤L+1:=hj)
 all_goals try (
  have d:(j:Int)≤(L:Int):=ng d
  first
  | exact ⟨⟨h,hn,ho⟩,wb j⟩
  | exact inR64 (n:=(k:Int) - (j:Int)) (by omega) (by omega)
  | exact inR64 (n:=(j:Int)+1) (by omega) (by omega)
  | exact on_of ho' (by omega)
  | (show 0≤(k:Int) - (j:Int);omega)
  | (show (k:Int) - (j:Int)<(n':Int);omega)
  | (show ((k:Int) - (j:Int)).toNat+i'<l'.length;omega)
  | (refine Stands.one (j+1:Nat) ⟨by show j+1≤L+1;omega,by show L+1 - (j+1)<L+1 - j;omega,?_⟩
     ((conv=>arg 1;reduce);with_reducible repeat' first | exact ty | refine ta ?_ ?_ | refine ti fun _ => ?_ | refine tf fun _ => ?_ | refine tl ?_)
     all_goals first
      | exact vlf
      | (show _=smV F ((l.drop i).take n) ((l'.drop i').take n') k (j+1)
         rw [← smV_succ]
         have e:((k:Int) - (j:Int)).toNat=k - j:=by omega
         show ibit .xor .i64 _ (muI F (((l.drop i).take n).getD (j:Int).toNat 0) (l'.getD (((k:Int) - (j:Int)).toNat+i') 0))=_
         rw [e,pv' _ (by omega),zu])))
 all_goals try (
  have d:¬ (j:Int)≤(L:Int):=nf d
  obtain rfl:j=L+1:=by omega
  rfl)
 all_goals trace_state
noncomputable def pcSum:Pc Tryz.prog C0 where
 tg:=.fn 114
 X:=(Nat×Nat×Nat×Nat×Nat×Nat)×Sl3×Sl3×Int×Int
 args:=fun (_,(o,b,q,l,i,n,c),(o',b',q',l',i',n',c'),k,L)=>[.sl 3 i n c,.sl 4 i' n' c',.int .i64 k,.int .i64 0,.int .i64 L,.fn (.func 113) [.ptr 0 0 0] []]
 mem:=fun ((bF,qF,be,qe,bl,ql),(o,b,q,l,i,n,c),(o',b',q',l',i',n',c'),k,L)=>[fld F bF qF,xCk F be qe,lCk F bl ql,⟨b,q,1,false,some o,.rows 3 l⟩,⟨b',q',1,false,some o',.rows 3 l'⟩]
 pre:=fun (_,x,y,k,L)=>(Sl3.pre x∧Sl3.pre y)∧0≤L∧L≤k∧k<(y.2.2.2.2.2.1:Int)
 res:=fun (_,(o,b,q,l,i,n,c),(o',b',q',l',i',n',c'),k,L)=>.int .i64 (smV F ((l.drop i).take n) ((l'.drop i').take n') k.toNat (L.toNat+1))
 mat vs m:=match vs with
  | [.sl s i n c,.sl s' i' n' c',.int _ k,_,.int _ L,.fn _ [.ptr f _ _] _]=>match nth m f,nth m s,nth m s' with
    | ⟨bF,qF,_,_,_,.one (_ :: _ :: .sl e _ _ _ :: .sl g _ _ _ :: _)⟩,⟨b,q,_,_,o,.rows 3 l⟩,⟨b',q',_,_,o',.rows 3 l'⟩=>match nth m e,nth m g with
      | ⟨be,qe,_,_,_,_⟩,⟨bl,ql,_,_,_,_⟩=>some (((bF,qF,be,qe,bl,ql),(onOf o,b,q,l,i,n,c),(onOf o',b',q',l',i',n',c'),k,L),[f,e,g,s,s'])
    | _,_,_=>none
  | _=>none
 ok:=fun ((bF,qF,be,qe,bl,ql),(o,b,q,l,i,n,c),(o',b',q',l',i',n',c'),k,L) h=>by
  obtain ⟨k,rfl⟩:=yh (show 0≤k from Int.le_trans h.2.1 h.2.2.1)
  obtain ⟨L,rfl⟩:=yh h.2.1
  exact sum_ok F bF qF be qe bl ql o b q l i n c h.1.1.1 h.1.1.2.1 h.1.1.2.2 o' b' q' l' i' n' c' h.1.2.1 h.1.2.2.1 h.1.2.2.2 k L (Int.ofNat_lt.1 h.2.2.2) (Int.ofNat_le.1 h.2.2.1)
theorem shifted_ok (o:Bool) (b q:Nat) (l:List Int) (i n c:Nat) (h:i+n≤l.length) (hn:n<1000000000) (ho:o=false→n=0∧c=0) (k:Nat) (hk:k<1000000000) (P:List Int) (hP:(l.drop i).take n=P):
 Does (C:=C0) Tryz.prog (.fn 115) [⟨b,q,1,false,some o,.rows 3 l⟩] [.sl 0 i n c,.int .i64 (k:Int)]
  [⟨Nat×Nat×List Int×Nat,fun y=>k+n≤y.2.2.2,fun y=>.sl 1 0 (k+n) y.2.2.2,fun y=>[⟨b,q,1,false,some o,.rows 3 l⟩,⟨y.1,y.2.1,1,true,none,.rows 3 (zo k 0 ++ P ++ y.2.2.1)⟩]⟩]:=by
 have hby:(Tryz.prog.types[3].bytes:Int)=8:=by kernel_rfl
 have hby':Tryz.prog.types[3].bytes=8:=by kernel_rfl
 refine loc_fn (P:=Tryz.prog) (E:=⟨[],[],9,[],[],[],none⟩) (L:=[]) mix Tryz.func115 rfl (by kernel_rfl) (by kernel_rfl) rfl rfl ?_
 ((conv=>arg 1;reduce);with_reducible repeat' first | exact ty | refine ta ?_ ?_ | refine ti fun _ => ?_ | refine tf fun _ => ?_ | refine tl ?_)
 all_goals try exact vlf
 · exact ⟨by omega,by omega,by rw [hby];omega,by omega⟩
 · refine ⟨zw _,?_,h,?_⟩
   · rw [xz,we];exact zw _
   · rw [hby',zu];omega
 · exact fun h0=>⟨(ho h0).1,(ho h0).1⟩
 · rename_i bb q' b' sp c' h1 h2
   change List Int at sp
   rw [zu] at h1 h2
   refine Ends.one (q',b',sp,c') h1 ?_
   ((conv=>arg 1;reduce);with_reducible repeat' first | exact ty | refine ta ?_ ?_ | refine ti fun _ => ?_ | refine tf fun _ => ?_ | refine tl ?_)
   all_goals first | exact vlf | (
    show zo k 0 ++ P ++ sp=((zo (k:Int).toNat (0:Int)).drop 0).take (k:Int).toNat ++ (l.drop i).take n ++ sp
    rw [zu,hP,zm,zc (by simp)])
def fcShift:Fc Tryz.prog C0 where
 tg:=.fn 115
 X:=Sl3×Int
 args:=fun ((o,b,q,l,i,n,c),k)=>[.sl 0 i n c,.int .i64 k]
 mem:=fun ((o,b,q,l,i,n,c),k)=>[⟨b,q,1,false,some o,.rows 3 l⟩]
 pre:=fun (s,k)=>Sl3.pre s∧0≤k∧k<1000000000
 alts:=fun ((o,b,q,l,i,n,c),k)=>[⟨Nat×Nat×List Int×Nat,fun y=>k.toNat+n≤y.2.2.2,fun y=>.sl 1 0 (k.toNat+n) y.2.2.2,fun y=>[⟨b,q,1,false,some o,.rows 3 l⟩,⟨y.1,y.2.1,1,true,none,.rows 3 (zo k.toNat 0 ++ (l.drop i).take n ++ y.2.2.1)⟩]⟩]
 mat vs m:=match vs with
  | [.sl s i n c,.int _ k]=>match nth m s with
    | ⟨b,q,_,_,g,.rows 3 l⟩=>some (((onOf g,b,q,l,i,n,c),k),[s])
    | _=>none
  | _=>none
 ok:=fun ((o,b,q,l,i,n,c),k) h=>by
  obtain ⟨k,rfl⟩:=yh h.2.1
  exact shifted_ok o b q l i n c h.1.1 h.1.2.1 h.1.2.2 k (Int.ofNat_lt.1 h.2.2) _ rfl
end
end
end Go.Vx
namespace Go.Vx
open Go Go.Proofs Go.Vx.Fd
noncomputable section
section
variable {F:Gf}
theorem v_lt14 (a:El F):a.v<16384:=zk a.lt (zj (by omega) F.m14:2 ^ F.m≤2 ^ 14)
theorem mul_ex1 (a:El F):(a*ex F 1).v=mulx F.m F.p a.v:=by
 rw [mul_v,ex_v,F.mul_mx a.v 1 a.lt F.one_lt 1]
 show mulx F.m F.p (mg F.m F.p F.m a.v 1)=_
 rw [mg_one (by have:=F.m3;omega)]
theorem half_lt {b:Nat} (h:b<2 ^ F.m):b / 2<2 ^ (F.m - 1):=by
 have e:2 ^ F.m=2*2 ^ (F.m - 1):=by
  have:=F.m3
  rw [show F.m=F.m - 1+1 by omega,wg,xn];rfl
 omega
theorem el_half {b:Nat} (h:b<2 ^ F.m):el F (b:Int)=bk (b.testBit 0)+ex F 1*el F ((b / 2:Nat):Int):=by
 refine El.ext ?_
 rw [add_v,Fd.mulC,mul_ex1,el_v,el_v,lw_nat h,lw_nat (by omega)]
 have ht:(b / 2).testBit (F.m - 1)=false:=xw (half_lt h)
 unfold mulx
 rw [ht,if_neg ve]
 refine (low_xor b).symm.trans ?_
 congr 1
 cases b.testBit 0 <;> rfl
theorem shl64 {a:Nat} (h:a<2 ^ 60):ishl .i64 (a:Int) 1=((2*a:Nat):Int):=by
 have e:ishl .i64 (a:Int) 1=IntKind.i64.wrap (((2*a:Nat)):Int):=by
  unfold ishl
  rw [show (2:Int) ^ min (Int.toNat 1) IntKind.i64.bits=2 by decide]
  congr 1
  omega
 rw [e]
 exact wrap_nat (zk (show 2*a<2 ^ 61 by omega) (by decide))
theorem half64 (b:Nat):ishr .i64 (b:Int) 1=((b / 2:Nat):Int):=shr8 .i64 b 1 (by decide)
theorem odd64 {b:Nat} (h:b<2 ^ 62):ibit .and .i64 (b:Int) 1=((b % 2:Nat):Int):=by
 rw [show ibit .and .i64 (b:Int) 1=((b &&& 1:Nat):Int) from and64 (b:=1) h (by decide),Nat.and_one_is_mod]
theorem top_bit (a:El F):ibit .and .i64 (ishr .i64 (ishl .i64 (vi a) 1) (F.m:Int)) 1=(((a.v.testBit (F.m - 1)).toNat:Nat):Int):=by
 have h1:=v_lt14 a
 have h3:=F.m3
 unfold vi
 rw [shl64 (by omega),shr8 .i64 _ F.m (show F.m≤64 by have:=F.m14;omega),odd64 (wh (Nat.div_le_self _ _) (by omega))]
 congr 1
 have e:a.v.testBit (F.m - 1)=(2*a.v).testBit F.m:=by
  rw [show F.m=F.m - 1+1 by omega,Nat.testBit_succ,Nat.mul_div_cancel_left _ (by omega),Nat.add_sub_cancel]
 rw [e,xd]
 by_cases h9:2*a.v / 2 ^ F.m % 2=1
 · rw [decide_eq_true h9,h9];rfl
 · rw [decide_eq_false h9,show 2*a.v / 2 ^ F.m % 2=0 by omega];rfl
theorem p_lt15:F.p<32768:=zk F.lt (zj (by omega) (by have:=F.m14;omega):2 ^ (F.m+1)≤2 ^ 15)
theorem dbl_no {a:El F} (h:a.v.testBit (F.m - 1)=false):ishl .i64 (vi a) 1=vi (a*ex F 1):=by
 have h1:=v_lt14 a
 unfold vi
 rw [shl64 (by omega),mul_ex1]
 unfold mulx
 rw [h,if_neg ve]
theorem dbl_yes {a:El F} (h:a.v.testBit (F.m - 1)=true):ibit .xor .i64 (ishl .i64 (vi a) 1) (F.p:Int)=vi (a*ex F 1):=by
 have h1:=v_lt14 a
 have h2:=p_lt15 (F:=F)
 unfold vi
 rw [shl64 (by omega),mul_ex1,xor64 (by omega) (by omega)]
 unfold mulx
 rw [h,if_pos rfl]
theorem mul_step {x a c:El F} {b:Nat} (hb:b<2 ^ F.m) (h:x+a*el F (b:Int)=c):
 (b % 2=1→(x+a)+(a*ex F 1)*el F ((b / 2:Nat):Int)=c)∧(b % 2≠1→x+(a*ex F 1)*el F ((b / 2:Nat):Int)=c):=by
 rw [el_half hb,dist,← mulA,← addA] at h
 rw [Nat.testBit_zero] at h
 constructor
 · intro h1
   rw [decide_eq_true h1] at h
   have e:a*(bk true:El F)=a:=mul1 a
   rwa [e] at h
 · intro h1
   rw [decide_eq_false h1] at h
   have e:a*(bk false:El F)=zr:=mul0 a
   rwa [e,add0] at h
theorem pow_step {x a c:El F} {n:Nat} (h:x*pw a n=c):(n % 2=1→x*a*pw (a*a) (n / 2)=c)∧(n % 2≠1→x*pw (a*a) (n / 2)=c):=by
 have e2:pw (a*a) (n / 2)=pw a (n / 2+n / 2):=by rw [pw_mulx,pw_add]
 constructor
 · intro h1
   rw [e2,mulA,← h,show n=(n / 2+n / 2)+1 by omega]
   congr 1
   show a*pw a _=pw a _*a
   have e:(n / 2+n / 2+1) / 2=n / 2:=by omega
   rw [e,mulC]
 · intro h1
   rw [e2,← h]
   congr 2
   omega
def cvT (P Q:List (El F)) (i k s:Nat):El F:=sm i (fun a=>if s<a then zr else cf P a*cf Q (s - a))+(if i≤s∧s<i+k then cf P i*cf Q (s - i) else zr)
@[irreducible] def tmI (F:Gf) (P Q:List Int) (i k:Nat):List Int:=vis (mk (P.length+Q.length) (cvT (els F P) (els F Q) i k))
@[irreducible] def tmE (P Q:List (El F)):List (El F):=trim (mk (P.length+Q.length) (cvT P Q P.length 0))
@[irreducible] def tmL (F:Gf) (P Q:List Int):List Int:=vis (tmE (trim (els F P)) (trim (els F Q)))
theorem tmI_len {P Q:List Int} {i k:Nat}:(tmI F P Q i k).length=P.length+Q.length:=by unfold tmI;rw [zn,mk_len]
theorem tmI_zero {P Q:List Int}:tmI F P Q 0 0=zo (P.length+Q.length) 0:=by
 unfold tmI mk
 rw [vis,List.map_map]
 refine wv (by simp) fun s h1 h2 => ?_
 rw [th,oz]
 show vi (cvT _ _ 0 0 _)=0
 unfold cvT
 rw [if_neg (by omega)]
 exact vi_zero.2 (add0 _)
theorem tmI_row {P Q:List Int} {i:Nat}:tmI F P Q i Q.length=tmI F P Q (i+1) 0:=by
 unfold tmI mk
 refine congrArg vis (xm fun s _ => ?_)
 show _+_=(_+_)+_
 rw [if_neg (show ¬ (i+1≤s∧s<i+1+0) by omega),add0]
 congr 1
 show _=if s<i then zr else _
 by_cases h:s<i
 · rw [if_neg (by omega),if_pos h]
 · rw [if_neg h]
   by_cases h2:s<i+Q.length
   · rw [if_pos ⟨by omega,h2⟩]
   · rw [if_neg (by omega),cf_of (show (els F Q).length≤s - i by rw [zn];omega),mul0]
theorem tmI_at {P Q:List Int} {i k:Nat} (hi:i<P.length) (hk:k<Q.length):(tmI F P Q i k).getD (i+k) 0=vi (cvT (els F P) (els F Q) i k (i+k)):=by
 unfold tmI
 rw [vis_getD,mk_cf,if_pos (by omega)]
theorem tmI_step {P Q:List Int} {i k:Nat} (hi:i<P.length) (hk:k<Q.length):(tmI F P Q i k).set (i+k) (vi (cvT (els F P) (els F Q) i k (i+k)+cf (els F P) i*cf (els F Q) k))=tmI F P Q i (k+1):=by
 refine wv (by rw [zh,tmI_len,tmI_len]) fun s h1 h2 => ?_
 rw [zh,tmI_len] at h1
 have e:∀ a b,(tmI F P Q a b)[s]? = some (vi (cvT (els F P) (els F Q) a b s)):=fun a b=>by
  unfold tmI mk
  rw [zf,zf,xh h1];rfl
 refine Option.some.inj ?_
 rw [← zt,← zt,e]
 by_cases hs:s=i+k
 · subst hs
   rw [List.getElem?_set_self (by rw [tmI_len];exact h1)]
   congr 2
   unfold cvT
   rw [if_neg (show ¬ (i≤i+k∧i+k<i+k) by omega),if_pos (show i≤i+k∧i+k<i+(k+1) by omega),add0,show i+k - i=k by omega]
 · rw [List.getElem?_set_ne (Ne.symm hs),e]
   congr 2
   unfold cvT
   congr 1
   by_cases h3:i≤s∧s<i+k
   · rw [if_pos h3,if_pos (by omega)]
   · rw [if_neg h3,if_neg (by omega)]
theorem tmI_end {P Q:List Int}:trL F (tmI F P Q P.length 0)=vis (tmE (els F P) (els F Q)):=by
 unfold trL tmI tmE
 rw [els_vis,zn,zn]
theorem tmE_len {P Q:List (El F)}:(tmE P Q).length≤P.length+Q.length:=by
 unfold tmE
 rw [trim_len]
 exact xl (top_le _) (by rw [mk_len];exact zw _)
theorem tmL_len {P Q:List Int}:(tmL F P Q).length≤P.length+Q.length:=by
 unfold tmL
 rw [zn]
 refine xl tmE_len ?_
 rw [trim_len,trim_len]
 have h1:=top_le (els F P)
 have h2:=top_le (els F Q)
 rw [zn] at h1 h2
 omega
theorem tmL_one (P:List Int) (q:Int) (s:Nat):cf (els F (tmL F P [q])) s=cf (els F P) s*el F q:=by
 have hc:∀ s,cf (trim (els F [q])) s=if s=0 then el F q else zr:=fun s=>by
  rw [trim_cf]
  cases s with
  | zero=>rfl
  | succ s=>rw [if_neg (by omega)];exact cf_of (by simp)
 unfold tmL
 rw [els_vis]
 unfold tmE
 rw [trim_cf,mk_cf]
 have e:∀ n,sm n (fun a=>if s<a then zr else cf (trim (els F P)) a*cf (trim (els F [q])) (s - a))=if s<n then cf (els F P) s*el F q else zr:=by
  intro n
  induction n with
  | zero=>rw [if_neg (by omega)];rfl
  | succ n ih=>
    show sm n _+(if s<n then zr else cf (trim (els F P)) n*cf (trim (els F [q])) (s - n))=_
    rw [ih]
    by_cases h1:s<n
    · rw [if_pos h1,if_pos h1,if_pos (by omega),add0]
    · rw [if_neg h1,if_neg h1,zadd,hc,trim_cf]
      by_cases h2:s=n
      · rw [if_pos (by omega),if_pos (by omega),h2]
      · rw [if_neg (by omega),if_neg (by omega),mul0]
 unfold cvT
 rw [e,if_neg (show ¬ ((trim (els F P)).length≤s∧s<(trim (els F P)).length+0) by omega),add0]
 rw [trim_len]
 by_cases h:s<top (els F P)
 · rw [if_pos h,if_pos (by omega)]
 · rw [if_neg h,← trim_cf,cf_of (show (trim (els F P)).length≤s by rw [trim_len];omega),zmul]
   split <;> rfl
end
end
end Go.Vx
namespace Go.Vx
open Go Go.Proofs
noncomputable section
variable [Gl]
theorem wu {n:Nat} (h:n<1000000):IntKind.u64.wrap (n:Int)=(n:Int):=wrap_nat (zk h (by decide))
section
variable (F:Gf)
theorem wm:IntKind.u64.wrap (F.m:Int)=(F.m:Int):=wu (by have:=F.m14;omega)
theorem rlow_ok (a:Int):Tells (C:=C0) Tryz.prog (.fn 66) [] [.int .i64 (F.m:Int),.int .i64 a] (.int .i64 (loI F a)):=by
 have hs:=nF_sz F
 have es:=shl_sz F
 refine loc_pc (P:=Tryz.prog) (E:=⟨[],[],11,[],[],[],none⟩) (L:=[]) mix Tryz.func66 rfl (by kernel_rfl) (by kernel_rfl) rfl rfl ?_
 ((conv=>arg 1;reduce);with_reducible repeat' first | exact ty | refine ta ?_ ?_ | refine ti fun _ => ?_ | refine tf fun _ => ?_ | refine tl ?_)
 all_goals try exact vlf
 · rw [wm];omega
 · rw [wm,es];exact inR64 (n:=(szF F:Int) - 1) (by omega) (by omega)
 · rw [wm,es];exact lo_eq a
def pcRlow:Pc Tryz.prog C0 where
 tg:=.fn 66
 X:=Int
 args a:=[.int .i64 (F.m:Int),.int .i64 a]
 mem _:=[]
 pre _:=True
 res a:=.int .i64 (loI F a)
 mat vs m:=match vs with
  | [_,.int _ a]=>some (a,[])
  | _=>none
 ok a _:=rlow_ok F a
theorem rpoly_ok:Tells (C:=C0) Tryz.prog (.fn 93) [] [.int .i64 (F.m:Int)] (.int .i64 (F.p:Int)):=by
 have h1:=F.m3
 have h2:=F.m14
 refine loc_pc (P:=Tryz.prog) (E:=⟨[],[],14,[],[],[],none⟩) (L:=[]) mix Tryz.func93 rfl (by kernel_rfl) (by kernel_rfl) rfl rfl ?_
 ((conv=>arg 1;reduce);with_reducible repeat' first | exact ty | refine ta ?_ ?_ | refine ti fun _ => ?_ | refine tf fun _ => ?_ | refine tl ?_)
 all_goals try exact vlf
 · rename_i d
   simp only [yd,decide_eq_true_eq,SB.val] at d
   omega
 · show ((F.m:Int) - 3).toNat+0<12
   omega
 · have e:(((F.m:Int) - 3).toNat+0)=F.m - 3:=by omega
   rw [e,← F.po]
   unfold polyN
   rw [if_neg (by omega)]
   obtain ⟨k,hk,hk2⟩:∃ k,F.m - 3=k∧k<12:=⟨_,rfl,by omega⟩
   rw [hk]
   have:∀ k:Fin 12,[(0xB:Int),0x13,0x25,0x43,0x89,0x11D,0x211,0x409,0x805,0x1053,0x201B,0x4443].getD k.1 0=(([0xB,0x13,0x25,0x43,0x89,0x11D,0x211,0x409,0x805,0x1053,0x201B,0x4443].getD k.1 0:Nat):Int):=by decide
   exact this ⟨k,hk2⟩
def pcRpoly:Pc Tryz.prog C0 where
 tg:=.fn 93
 X:=Unit
 args _:=[.int .i64 (F.m:Int)]
 mem _:=[]
 pre _:=True
 res _:=.int .i64 (F.p:Int)
 mat vs m:=match vs with
  | [_]=>some ((),[])
  | _=>none
 ok _ _:=rpoly_ok F
def Mu5 (c:El F):Inv' C0:=⟨5,El F×El F×Nat,fun x=>[(1,.int .i64 (vi x.2.1)),(2,.int .i64 (x.2.2:Int)),(8,.int .i64 (vi x.1))],fun _ m=>m,fun x=>x.2.2<2 ^ F.m∧x.1+x.2.1*el F (x.2.2:Int)=c,fun x=>x.2.2⟩
set_option maxHeartbeats 4000000 in
theorem xmul_ok (a b:Int):Tells (C:=C0) Tryz.prog (.fn 63) [] [.int .i64 (F.m:Int),.int .i64 a,.int .i64 b] (.int .i64 (muI F a b)):=by
 refine loc_pc (P:=Tryz.prog) (E:=⟨[],[pcRlow F,pcRpoly F],39,[],[],[],none⟩) (L:=[Mu5 F (el F a*el F b)]) mix Tryz.func63 rfl (by kernel_rfl) (by kernel_rfl) rfl rfl ?_
 ((conv=>arg 1;reduce);with_reducible repeat' first | exact ty | refine ta ?_ ?_ | refine ti fun _ => ?_ | refine tf fun _ => ?_ | refine tl ?_)
 all_goals try exact vlf
 · refine Stands.one ((Fd.zr,el F a,(el F b).v):El F×El F×Nat) ⟨⟨(el F b).lt,?_⟩,?_⟩
   · show Fd.zr+el F a*el F ((el F b).v:Int)=_
     rw [show ((el F b).v:Int)=vi (el F b) from rfl,el_vi,Fd.zadd]
   ((conv=>arg 1;reduce);with_reducible repeat' first | exact ty | refine ta ?_ ?_ | refine ti fun _ => ?_ | refine tf fun _ => ?_ | refine tl ?_)
   all_goals first | exact vlf | exact loI_eq _ | exact (loI_eq _).symm
 all_goals try (rw [wm F];exact wb F.m)
 iterate 4 (focus
  rename_i x hx d1 d2 d3
  change El F×El F×Nat at x
  obtain ⟨x,a',b'⟩:=x
  obtain ⟨k1,k2⟩:b'<2 ^ F.m∧x+a'*el F (b':Int)=el F a*el F b:=hx
  have d1:(0:Int)<(b':Int):=ng d1
  have kb:b'<2 ^ 62:=zk k1 (zj (by omega) (by have:=F.m14;omega))
  rw [show ibit .and .i64 ((x,a',b'):El F×El F×Nat).2.2 1=((b' % 2:Nat):Int) from odd64 kb] at d2
  rw [wm,show ibit .and .i64 (ishr .i64 (ishl .i64 (vi ((x,a',b'):El F×El F×Nat).2.1) 1) (F.m:Int)) 1=_ from top_bit a'] at d3
  have ms:=mul_step k1 k2
  have hb:b' / 2<2 ^ F.m:=by omega
  simp only [decide_eq_true_eq,decide_eq_false_iff_not] at d2 d3
  have hm:b' / 2<b':=by omega
  have hh:=half64 b'
  cases ht:a'.v.testBit (F.m - 1)
  · have hd:=dbl_no ht
    rw [ht] at d3
    first
    | exact absurd d3 (by decide)
    | (have ms:=ms.1 (by omega)
       refine Stands.one ((x+a',a'*ex F 1,b' / 2):El F×El F×Nat) ⟨⟨hb,ms⟩,hm,?_⟩
       ((conv=>arg 1;reduce);with_reducible repeat' first | exact ty | refine ta ?_ ?_ | refine ti fun _ => ?_ | refine tf fun _ => ?_ | refine tl ?_)
       all_goals first | exact vlf | exact hd | exact xor_vi _ _ | exact hh)
    | (have ms:=ms.2 (by omega)
       refine Stands.one ((x,a'*ex F 1,b' / 2):El F×El F×Nat) ⟨⟨hb,ms⟩,hm,?_⟩
       ((conv=>arg 1;reduce);with_reducible repeat' first | exact ty | refine ta ?_ ?_ | refine ti fun _ => ?_ | refine tf fun _ => ?_ | refine tl ?_)
       all_goals first | exact vlf | exact hd | exact hh)
  · have hd:=dbl_yes ht
    rw [ht] at d3
    first
    | exact absurd rfl d3
    | (have ms:=ms.1 (by omega)
       refine Stands.one ((x+a',a'*ex F 1,b' / 2):El F×El F×Nat) ⟨⟨hb,ms⟩,hm,?_⟩
       ((conv=>arg 1;reduce);with_reducible repeat' first | exact ty | refine ta ?_ ?_ | refine ti fun _ => ?_ | refine tf fun _ => ?_ | refine tl ?_)
       all_goals first | exact vlf | exact hd | exact xor_vi _ _ | exact hh)
    | (have ms:=ms.2 (by omega)
       refine Stands.one ((x,a'*ex F 1,b' / 2):El F×El F×Nat) ⟨⟨hb,ms⟩,hm,?_⟩
       ((conv=>arg 1;reduce);with_reducible repeat' first | exact ty | refine ta ?_ ?_ | refine ti fun _ => ?_ | refine tf fun _ => ?_ | refine tl ?_)
       all_goals first | exact vlf | exact hd | exact hh))
 · rename_i x hx d1
   change El F×El F×Nat at x
   obtain ⟨x,a',b'⟩:=x
   obtain ⟨k1,k2⟩:b'<2 ^ F.m∧x+a'*el F (b':Int)=el F a*el F b:=hx
   have d1:¬ (0:Int)<(b':Int):=nf d1
   obtain rfl:b'=0:=by omega
   rw [muI_eq,← k2]
   have e:el F ((0:Nat):Int)=Fd.zr:=El.ext (by show lw F.m 0=0;unfold lw;simp)
   rw [e,Fd.mul0,Fd.add0]
def pcRmul:Pc Tryz.prog C0 where
 tg:=.fn 63
 X:=Int×Int
 args:=fun (a,b)=>[.int .i64 (F.m:Int),.int .i64 a,.int .i64 b]
 mem _:=[]
 pre _:=True
 res:=fun (a,b)=>.int .i64 (muI F a b)
 mat vs m:=match vs with
  | [_,.int _ a,.int _ b]=>some ((a,b),[])
  | _=>none
 ok:=fun (a,b) _=>xmul_ok F a b
@[irreducible] def pwI (F:Gf) (a:Int) (n:Nat):Int:=vi (Fd.pw (el F a) n)
def Po3 (c:El F):Inv' C0:=⟨3,El F×El F×Nat,fun x=>[(1,.int .i64 (vi x.2.1)),(2,.int .i64 (x.2.2:Int)),(7,.int .i64 (vi x.1))],fun _ m=>m,fun x=>x.2.2<2 ^ 62∧x.1*Fd.pw x.2.1 x.2.2=c,fun x=>x.2.2⟩
theorem rpower_ok (a:Int) (n:Nat) (hn:n<2 ^ 62):Tells (C:=C0) Tryz.prog (.fn 95) [] [.int .i64 (F.m:Int),.int .i64 a,.int .i64 (n:Int)] (.int .i64 (pwI F a n)):=by
 refine loc_pc (P:=Tryz.prog) (E:=⟨[],[pcRlow F,pcRmul F],27,[],[],[],none⟩) (L:=[Po3 F (Fd.pw (el F a) n)]) mix Tryz.func95 rfl (by kernel_rfl) (by kernel_rfl) rfl rfl ?_
 ((conv=>arg 1;reduce);with_reducible repeat' first | exact ty | refine ta ?_ ?_ | refine ti fun _ => ?_ | refine tf fun _ => ?_ | refine tl ?_)
 all_goals try exact vlf
 · refine Stands.one ((Fd.un,el F a,n):El F×El F×Nat) ⟨⟨hn,Fd.umul _⟩,?_⟩
   ((conv=>arg 1;reduce);with_reducible repeat' first | exact ty | refine ta ?_ ?_ | refine ti fun _ => ?_ | refine tf fun _ => ?_ | refine tl ?_)
   all_goals first | exact vlf | exact loI_eq _ | exact (loI_eq _).symm
 all_goals try (
  rename_i x hx d1 d2
  change El F×El F×Nat at x
  obtain ⟨x,a',n'⟩:=x
  obtain ⟨k1,k2⟩:n'<2 ^ 62∧x*Fd.pw a' n'=Fd.pw (el F a) n:=hx
  have d1:(0:Int)<(n':Int):=ng d1
  rw [show ibit .and .i64 ((x,a',n'):El F×El F×Nat).2.2 1=((n' % 2:Nat):Int) from odd64 k1] at d2
  have ms:=pow_step k2
  have e1:muI F (vi x) (vi a')=vi (x*a'):=by rw [muI_eq,el_vi,el_vi]
  have e2:muI F (vi a') (vi a')=vi (a'*a'):=by rw [muI_eq,el_vi]
  simp only [decide_eq_true_eq,decide_eq_false_iff_not] at d2
  first
  | (have ms:=ms.1 (by omega)
     refine Stands.one ((x*a',a'*a',n' / 2):El F×El F×Nat) ⟨⟨by show n' / 2<2 ^ 62;omega,ms⟩,by show n' / 2<n';omega,?_⟩
     ((conv=>arg 1;reduce);with_reducible repeat' first | exact ty | refine ta ?_ ?_ | refine ti fun _ => ?_ | refine tf fun _ => ?_ | refine tl ?_)
     all_goals first | exact vlf | exact e1 | exact e1.symm | exact e2 | exact e2.symm | exact half64 _ | exact (half64 _).symm)
  | (have ms:=ms.2 (by omega)
     refine Stands.one ((x,a'*a',n' / 2):El F×El F×Nat) ⟨⟨by show n' / 2<2 ^ 62;omega,ms⟩,by show n' / 2<n';omega,?_⟩
     ((conv=>arg 1;reduce);with_reducible repeat' first | exact ty | refine ta ?_ ?_ | refine ti fun _ => ?_ | refine tf fun _ => ?_ | refine tl ?_)
     all_goals first | exact vlf | exact e2 | exact e2.symm | exact half64 _ | exact (half64 _).symm))
 · rename_i x hx d1
   change El F×El F×Nat at x
   obtain ⟨x,a',n'⟩:=x
   obtain ⟨k1,k2⟩:n'<2 ^ 62∧x*Fd.pw a' n'=Fd.pw (el F a) n:=hx
   have d1:¬ (0:Int)<(n':Int):=nf d1
   obtain rfl:n'=0:=by omega
   unfold pwI
   rw [← k2]
   exact congrArg vi (Fd.mul1 x).symm
def pcRpower:Pc Tryz.prog C0 where
 tg:=.fn 95
 X:=Int×Int
 args:=fun (a,n)=>[.int .i64 (F.m:Int),.int .i64 a,.int .i64 n]
 mem _:=[]
 pre:=fun (a,n)=>0≤n∧n<4611686018427387904
 res:=fun (a,n)=>.int .i64 (pwI F a n.toNat)
 mat vs m:=match vs with
  | [_,.int _ a,.int _ n]=>some ((a,n),[])
  | _=>none
 ok:=fun (a,n) h=>by
  obtain ⟨k,rfl⟩:=yh h.1
  exact rpower_ok F a k (by have:=h.2;omega)
theorem el_two:el F 2=ex F 1:=by
 refine El.ext ?_
 have h3:=F.m3
 have hp:2 ^ 3≤2 ^ F.m:=zj (by omega) h3
 rw [el_v,show (2:Int)=((2:Nat):Int) from rfl,lw_nat (by omega)]
 show 2=mulx F.m F.p 1
 unfold mulx
 rw [xw (show 1<2 ^ (F.m - 1) from Nat.one_lt_two_pow (by omega)),if_neg ve]
theorem pwI_two (n:Nat):pwI F 2 n=vi (ex F n):=by
 unfold pwI;rw [el_two,ex_pw,Nat.one_mul]
theorem rpow2_ok (n:Int) (h1 : -1000000000<n) (h2:n<1000000000):Tells (C:=C0) Tryz.prog (.fn 94) [] [.int .i64 (F.m:Int),.int .i64 2,.int .i64 n] (.int .i64 (vi (exF F n))):=by
 obtain ⟨hs,h7,hh⟩:=nF_sz F
 have es:=shl_sz F
 have hn:(nF F:Int)=(F.N:Int):=by rw [nF_eq]
 have hz:¬ loI F 2=0:=by rw [loI_eq,el_two];exact fun h=>ex_ne 1 (vi_zero.1 h)
 have e1:(szF F:Int) - 1=(nF F:Int):=by omega
 have t1:=uv n (show (0:Int)<(nF F:Int) by omega)
 have t2 : -(nF F:Int)<n.tmod (nF F:Int):=by
  have h3:=Int.neg_tmod n (nF F:Int)
  have h4:=uv (-n) (show (0:Int)<(nF F:Int) by omega)
  omega
 have t3:(n.tmod (nF F:Int)+(nF F:Int)).tmod (nF F:Int)=n % (nF F:Int):=by
  rw [Int.tmod_eq_emod_of_nonneg (by omega),Int.add_emod_right,Int.tmod_def,Int.sub_emod,Int.mul_emod_right,Int.sub_zero,Int.emod_emod_of_dvd _ (Int.dvd_refl _)]
 refine loc_pc (P:=Tryz.prog) (E:=⟨[],[pcRlow F,pcRpower F],28,[],[],[],none⟩) (L:=[]) mix Tryz.func94 rfl (by kernel_rfl) (by kernel_rfl) rfl rfl ?_
 ((conv=>arg 1;reduce);with_reducible repeat' first | exact ty | refine ta ?_ ?_ | refine ti fun _ => ?_ | refine tf fun _ => ?_ | refine tl ?_)
 all_goals try exact vlf
 all_goals try exact absurd (ng ‹decide (loI F 2=0)=true›) hz
 all_goals rw [wm]
 · omega
 all_goals rw [es,e1]
 · exact inR64 (by omega) (by omega)
 · omega
 · exact inR64 (by omega) (by omega)
 · omega
 · rw [t3]
   exact ⟨Int.emod_nonneg _ (by omega),by have:=Int.emod_lt_of_pos n (show (0:Int)<(nF F:Int) by omega);show n % (nF F:Int)<_;omega⟩
 · rw [t3,pwI_two]
   unfold exF
   rw [hn]
def pcRpow:Pc Tryz.prog C0 where
 tg:=.fn 94
 X:=Int
 args n:=[.int .i64 (F.m:Int),.int .i64 2,.int .i64 n]
 mem _:=[]
 pre n := -1000000000<n∧n<1000000000
 res n:=.int .i64 (vi (exF F n))
 mat vs m:=match vs with
  | [_,_,.int _ n]=>some (n,[])
  | _=>none
 ok n h:=rpow2_ok F n h.1 h.2
theorem rexp_ok (n:Int) (h1 : -1000000000<n) (h2:n<1000000000):Tells (C:=C0) Tryz.prog (.fn 64) [] [.int .i64 (F.m:Int),.int .i64 n] (.int .i64 (vi (exF F n))):=by
 refine loc_pc (P:=Tryz.prog) (E:=⟨[],[pcRpow F],8,[],[],[],none⟩) (L:=[]) mix Tryz.func64 rfl (by kernel_rfl) (by kernel_rfl) rfl rfl ?_
 ((conv=>arg 1;reduce);with_reducible repeat' first | exact ty | refine ta ?_ ?_ | refine ti fun _ => ?_ | refine tf fun _ => ?_ | refine tl ?_)
 all_goals first | exact vlf | exact ⟨h1,h2⟩
def pcRexp:Pc Tryz.prog C0 where
 tg:=.fn 64
 X:=Int
 args n:=[.int .i64 (F.m:Int),.int .i64 n]
 mem _:=[]
 pre n := -1000000000<n∧n<1000000000
 res n:=.int .i64 (vi (exF F n))
 mat vs m:=match vs with
  | [_,.int _ n]=>some (n,[])
  | _=>none
 ok n h:=rexp_ok F n h.1 h.2
theorem pw_inv {a:El F} (h:a≠Fd.zr):Fd.pw a (2 ^ F.m - 2)=Fd.iv a:=by
 obtain ⟨j,_,rfl⟩:=ex_all a h
 refine Fd.iv_uniq ?_
 have h1:Fd.pw (ex F j) (1+(2 ^ F.m - 2))=Fd.un:=by
  rw [show 1+(2 ^ F.m - 2)=F.N by have:=Gf.N3 (F:=F);show 1+(2 ^ F.m - 2)=2 ^ F.m - 1;have:7≤2 ^ F.m - 1:=this;omega]
  rw [ex_pw,xn,← we (F.N*j),ex_mulN];rfl
 rw [Fd.pw_add,Fd.pw_one] at h1
 exact h1
theorem rinv_ok (a:Int) (ha:el F a≠Fd.zr):Tells (C:=C0) Tryz.prog (.fn 67) [] [.int .i64 (F.m:Int),.int .i64 a] (.int .i64 (ivI F a)):=by
 have es:=shl_sz F
 obtain ⟨hs,h7,hh⟩:=nF_sz F
 refine loc_pc (P:=Tryz.prog) (E:=⟨[],[pcRpower F],12,[],[],[],none⟩) (L:=[]) mix Tryz.func67 rfl (by kernel_rfl) (by kernel_rfl) rfl rfl ?_
 ((conv=>arg 1;reduce);with_reducible repeat' first | exact ty | refine ta ?_ ?_ | refine ti fun _ => ?_ | refine tf fun _ => ?_ | refine tl ?_)
 all_goals try exact vlf
 all_goals rw [wm]
 · omega
 all_goals rw [es]
 · exact inR64 (by omega) (by omega)
 · exact ⟨by omega,by show (szF F:Int) - 2<_;omega⟩
 · rw [show ((szF F:Int) - 2).toNat=2 ^ F.m - 2 by rw [← szF_eq];omega]
   unfold pwI ivI
   rw [pw_inv F ha]
def pcRinv:Pc Tryz.prog C0 where
 tg:=.fn 67
 X:=Int
 args a:=[.int .i64 (F.m:Int),.int .i64 a]
 mem _:=[]
 pre a:=el F a≠Fd.zr
 res a:=.int .i64 (ivI F a)
 mat vs m:=match vs with
  | [_,.int _ a]=>some (a,[])
  | _=>none
 ok a h:=rinv_ok F a h
end
end
end Go.Vx
namespace Go.Vx
open Go Go.Proofs
noncomputable section
variable [Gl]
section
variable (F:Gf)
@[irreducible] def stL (A B:List Int) (d e:Int):List Int:=adL F A (scL F B (muI F d (ivI F e)))
theorem scL_len (P:List Int) (a:Int):(scL F P a).length≤P.length:=by
 unfold scL
 show ((trim (mulS (els F P) (el F a))).map vi).length≤_
 rw [zn,trim_len]
 refine xl (top_le _) ?_
 simp [mulS]
abbrev rgC (F:Gf) (bR qR bF qF be qe bl ql:Nat) (k:Nat):List (Ck C0):=[⟨bR,qR,1,false,none,.one [.ptr (k+1) 0 0]⟩,⟨bF,qF,4,false,none,.one [.int .i64 (F.m:Int),.int .i64 (szF F:Int),.sl (k+2) 0 (nF F) (nF F),.sl (k+3) 0 (szF F) (szF F)]⟩,xCk F be qe,lCk F bl ql]
theorem step_ok (b1 q1 b2 q2 bR qR bF qF be qe bl ql:Nat) (o:Bool) (b q:Nat) (l:List Int) (i n c:Nat) (h:i+n≤l.length) (hn:n<1000000000) (ho:o=false→n=0∧c=0) (o':Bool) (b' q':Nat) (l':List Int) (i' n' c':Nat) (h':i'+n'≤l'.length) (hn':n'<1000000000) (ho':o'=false→n'=0∧c'=0) (d e:Int) (he:loI F e≠0) (A B:List Int) (hA:(l.drop i).take n=A) (hB:(l'.drop i').take n'=B):
 Does (C:=C0) Tryz.prog (.fn 86) ([⟨b1,q1,1,false,none,.one [.ptr 3 0 0]⟩,⟨b2,q2,1,false,none,.one [.ptr 2 0 0]⟩] ++ rgC F bR qR bF qF be qe bl ql 2 ++ [⟨b,q,1,false,some o,.rows 3 l⟩,⟨b',q',1,false,some o',.rows 3 l'⟩]) [.sl 6 i n c,.sl 7 i' n' c',.int .i64 d,.int .i64 e,.ptr 0 0 0,.ptr 1 0 0]
  [⟨Os,fun y=>Ow (stL F A B d e) y,fun y=>.sl 8 0 (stL F A B d e).length y.2.2.2,fun y=>[⟨b1,q1,1,false,none,.one [.ptr 3 0 0]⟩,⟨b2,q2,1,false,none,.one [.ptr 2 0 0]⟩] ++ rgC F bR qR bF qF be qe bl ql 2 ++ [⟨b,q,1,false,some o,.rows 3 l⟩,⟨b',q',1,false,some o',.rows 3 l'⟩,osC true y]⟩]:=by
 refine loc_fn (P:=Tryz.prog) (E:=⟨[fcScale F,fcPAdd F],[pcDiv F],27,[(2,[1],[.p 0,.p 1,.p 2,.p 3,.p 4,.e 5,.e 6,.p 7])],[],[],none⟩) (L:=[]) mix Tryz.func86 rfl (by kernel_rfl) (by kernel_rfl) rfl rfl ?_
 ((conv=>arg 1;reduce);with_reducible repeat' first | exact ty | refine ta ?_ ?_ | refine ti fun _ => ?_ | refine tf fun _ => ?_ | refine tl ?_)
 all_goals try exact vlf
 · exact he
 · exact ⟨h',hn',ho'⟩
 · rename_i y hy
   obtain ⟨yo,yb,yl,yc⟩:=y
   have hy:Ow (scL F ((l'.drop i').take n') (muI F d (ivI F e))) (yo,yb,yl,yc):=hy
   have h1:(scL F ((l'.drop i').take n') (muI F d (ivI F e))).length≤yc:=hy.cap
   have h2:yc≤yl.length:=hy.len
   refine ⟨⟨h,hn,ho⟩,?_,?_,hy.nil⟩
   · show 0+(scL F ((l'.drop i').take n') (muI F d (ivI F e))).length≤yl.length
     omega
   · have h1:=scL_len F ((l'.drop i').take n') (muI F d (ivI F e))
     rw [row_len h'] at h1
     show (scL F ((l'.drop i').take n') (muI F d (ivI F e))).length<1000000000
     omega
 · rename_i y hy z hz
   have hy:Ow (scL F ((l'.drop i').take n') (muI F d (ivI F e))) y:=hy
   have hz:Ow (adL F ((l.drop i).take n) ((y.2.2.1.drop 0).take (scL F ((l'.drop i').take n') (muI F d (ivI F e))).length)) z:=hz
   have e1:adL F ((l.drop i).take n) ((y.2.2.1.drop 0).take (scL F ((l'.drop i').take n') (muI F d (ivI F e))).length)=stL F A B d e:=by
    rw [zm,hy.eq,hA,hB]
    unfold stL
    rfl
   rw [e1] at hz
   refine Ends.one z hz ?_
   ((conv=>arg 1;reduce);with_reducible repeat' first | exact ty | refine ta ?_ ?_ | refine ti fun _ => ?_ | refine tf fun _ => ?_ | refine tl ?_)
   all_goals first | exact vlf | exact congrArg wi e1 | exact (congrArg wi e1).symm
abbrev St9:=(Nat×Nat×Nat×Nat)×(Nat×Nat×Nat×Nat×Nat×Nat×Nat×Nat)×Sl3×Sl3×Int×Int
def fcStep:Fc Tryz.prog C0 where
 tg:=.fn 86
 X:=St9
 args:=fun (_,_,(o,b,q,l,i,n,c),(o',b',q',l',i',n',c'),d,e)=>[.sl 6 i n c,.sl 7 i' n' c',.int .i64 d,.int .i64 e,.ptr 0 0 0,.ptr 1 0 0]
 mem:=fun ((b1,q1,b2,q2),(bR,qR,bF,qF,be,qe,bl,ql),(o,b,q,l,i,n,c),(o',b',q',l',i',n',c'),d,e)=>[⟨b1,q1,1,false,none,.one [.ptr 3 0 0]⟩,⟨b2,q2,1,false,none,.one [.ptr 2 0 0]⟩] ++ rgC F bR qR bF qF be qe bl ql 2 ++ [⟨b,q,1,false,some o,.rows 3 l⟩,⟨b',q',1,false,some o',.rows 3 l'⟩]
 pre:=fun (_,_,x,y,d,e)=>(Sl3.pre x∧Sl3.pre y)∧loI F e≠0
 alts:=fun ((b1,q1,b2,q2),(bR,qR,bF,qF,be,qe,bl,ql),(o,b,q,l,i,n,c),(o',b',q',l',i',n',c'),d,e)=>[⟨Os,fun y=>Ow (stL F ((l.drop i).take n) ((l'.drop i').take n') d e) y,fun y=>.sl 8 0 (stL F ((l.drop i).take n) ((l'.drop i').take n') d e).length y.2.2.2,fun y=>[⟨b1,q1,1,false,none,.one [.ptr 3 0 0]⟩,⟨b2,q2,1,false,none,.one [.ptr 2 0 0]⟩] ++ rgC F bR qR bF qF be qe bl ql 2 ++ [⟨b,q,1,false,some o,.rows 3 l⟩,⟨b',q',1,false,some o',.rows 3 l'⟩,osC true y]⟩]
 mat vs m:=match vs with
  | [.sl s i n c,.sl s' i' n' c',.int _ d,.int _ e,.ptr p _ _,.ptr p' _ _]=>match nth m p,nth m p' with
    | ⟨b1,q1,_,_,_,_⟩,⟨b2,q2,_,_,_,.one (.ptr r _ _ :: _)⟩=>match nth m r with
      | ⟨bR,qR,_,_,_,.one (.ptr f _ _ :: _)⟩=>match nth m f with
        | ⟨bF,qF,_,_,_,.one (_ :: _ :: .sl x _ _ _ :: .sl g _ _ _ :: _)⟩=>match nth m x,nth m g,nth m s,nth m s' with
          | ⟨be,qe,_,_,_,_⟩,⟨bl,ql,_,_,_,_⟩,⟨b,q,_,_,o,.rows 3 l⟩,⟨b',q',_,_,o',.rows 3 l'⟩=>some (((b1,q1,b2,q2),(bR,qR,bF,qF,be,qe,bl,ql),(onOf o,b,q,l,i,n,c),(onOf o',b',q',l',i',n',c'),d,e),[p,p',r,f,x,g,s,s'])
          | _,_,_,_=>none
        | _=>none
      | _=>none
    | _,_=>none
  | _=>none
 ok:=fun ((b1,q1,b2,q2),(bR,qR,bF,qF,be,qe,bl,ql),(o,b,q,l,i,n,c),(o',b',q',l',i',n',c'),d,e) h=>step_ok F b1 q1 b2 q2 bR qR bF qF be qe bl ql o b q l i n c h.1.1.1 h.1.1.2.1 h.1.1.2.2 o' b' q' l' i' n' c' h.1.2.1 h.1.2.2.1 h.1.2.2.2 d e h.2 _ _ rfl rfl
end
end
end Go.Vx
namespace Go.Vx
open Go Go.Proofs
noncomputable section
variable [Gl]
section
variable (F:Gf)
@[irreducible] def bC (S:List Int) (n:Nat):List Int:=vis (bmN (els F S) n).C
@[irreducible] def bB (S:List Int) (n:Nat):List Int:=vis (bmN (els F S) n).B
@[irreducible] def bL (S:List Int) (n:Nat):Nat:=(bmN (els F S) n).L
@[irreducible] def bK (S:List Int) (n:Nat):Nat:=(bmN (els F S) n).k
@[irreducible] def bE (S:List Int) (n:Nat):Int:=vi (bmN (els F S) n).e
@[irreducible] def bD (S:List Int) (n:Nat):Int:=vi (bmD (els F S) n (bmN (els F S) n))
variable {F}
theorem bm_zero {S:List Int}:bC F S 0=[1]∧bB F S 0=[1]∧bL F S 0=0∧bK F S 0=1∧bE F S 0=1:=by
 unfold bC bB bL bK bE
 exact ⟨rfl,rfl,rfl,rfl,rfl⟩
theorem bm_fit' {S:List Int} {n:Nat}:bL F S n≤n∧1≤bK F S n∧bK F S n≤n+1∧(bC F S n).length≤n+1∧(bB F S n).length≤n+1∧loI F (bE F S n)≠0:=by
 have h1:=bmN_le (els F S) n
 have h2:=bmN_len (els F S) n
 have h3:=bmN_e (els F S) n
 unfold bC bB bL bK bE
 refine ⟨h1.1,h1.2.1,h1.2.2,?_,?_,?_⟩
 · rw [zn];exact h2.1
 · rw [zn];exact h2.2.1
 · rw [loI_eq,el_vi]
   exact fun e=>h3 (vi_zero.1 e)
theorem bD_eq {S:List Int} {n:Nat}:loI F (ibit .xor .i64 (smV F (bC F S n) S n (bL F S n+1)) 0)=bD F S n:=by
 rw [lo_x0]
 unfold bD smV bC bL
 rw [loI_eq,el_vi,els_vis]
 rfl
theorem st_eq {S:List Int} {n:Nat}:stL F (bC F S n) (zo (bK F S n) 0 ++ bB F S n) (bD F S n) (bE F S n)=vis (bmC (bmN (els F S) n) (bmD (els F S) n (bmN (els F S) n))):=by
 unfold stL adL scL bC bB bK bD bE bmC
 have e0:el F 0=Fd.zr:=El.ext (by show lw F.m 0=0;unfold lw;simp)
 have e1:∀ (k:Nat) (B:List (El F)),els F (zo k 0 ++ vis B)=shP k B:=fun k B=>by
  show (zo k (0:Int) ++ vis B).map (el F)=_
  rw [vq,List.map_replicate,e0]
  unfold shP
  exact congrArg _ (els_vis B)
 rw [muI_eq,ivI_eq,els_vis,els_vis,e1,el_vi,el_vi,el_vi,el_vi]
theorem bm_skip {S:List Int} {n:Nat} (h:bD F S n=0):bC F S (n+1)=bC F S n∧bB F S (n+1)=bB F S n∧bL F S (n+1)=bL F S n∧bK F S (n+1)=bK F S n+1∧bE F S (n+1)=bE F S n:=by
 unfold bD at h
 have h:=vi_zero.1 h
 unfold bC bB bL bK bE
 have e:bmN (els F S) (n+1)=bmS (els F S) n (bmN (els F S) n):=rfl
 rw [e]
 unfold bmS
 rw [if_pos h]
 exact ⟨rfl,rfl,rfl,rfl,rfl⟩
theorem bm_near {S:List Int} {n:Nat} (h:bD F S n≠0) (hl:n<2*bL F S n):bC F S (n+1)=stL F (bC F S n) (zo (bK F S n) 0 ++ bB F S n) (bD F S n) (bE F S n)∧bB F S (n+1)=bB F S n∧bL F S (n+1)=bL F S n∧bK F S (n+1)=bK F S n+1∧bE F S (n+1)=bE F S n:=by
 rw [st_eq]
 unfold bD at h
 unfold bL at hl
 have h:=fun e=>h (vi_zero.2 e)
 unfold bC bB bL bK bE
 have e:bmN (els F S) (n+1)=bmS (els F S) n (bmN (els F S) n):=rfl
 rw [e]
 unfold bmS
 rw [if_neg h,if_pos hl]
 exact ⟨rfl,rfl,rfl,rfl,rfl⟩
theorem bm_far {S:List Int} {n:Nat} (h:bD F S n≠0) (hl:¬ n<2*bL F S n):bC F S (n+1)=stL F (bC F S n) (zo (bK F S n) 0 ++ bB F S n) (bD F S n) (bE F S n)∧bB F S (n+1)=bC F S n∧bL F S (n+1)=n+1 - bL F S n∧bK F S (n+1)=1∧bE F S (n+1)=bD F S n:=by
 rw [st_eq]
 unfold bD at h
 unfold bL at hl
 have h:=fun e=>h (vi_zero.2 e)
 unfold bC bB bL bK bE bD
 have e:bmN (els F S) (n+1)=bmS (els F S) n (bmN (els F S) n):=rfl
 rw [e]
 unfold bmS
 rw [if_neg h,if_neg hl]
 exact ⟨rfl,rfl,rfl,rfl,rfl⟩
theorem wk_v {S l:List Int} {j i z:Nat} {y:Os} (h:Ow (bC F S j) y) (e:(l.drop i).take z=S):loI F (ibit .xor .i64 (smV F (yu (bC F S j).length (yp 0 y.2.2.1)) (yu z (yp i l)) (j:Int).toNat ((bL F S j:Int).toNat+1)) 0)=bD F S j:=by
 rw [zm,h.eq,e,zu,zu,bD_eq]
theorem wk_s {S l sp:List Int} {j i z:Nat} {y y':Os} (h:Ow (bC F S j) y) (h':Ow (bB F S j) y') (e:(l.drop i).take z=S):
 stL F (yu (bC F S j).length (yp 0 y.2.2.1)) (yu ((bK F S j:Int).toNat+(bB F S j).length) (yp 0 (zo (bK F S j:Int).toNat 0 ++ yu (bB F S j).length (yp 0 y'.2.2.1) ++ sp)))
  (loI F (ibit .xor .i64 (smV F (yu (bC F S j).length (yp 0 y.2.2.1)) (yu z (yp i l)) (j:Int).toNat ((bL F S j:Int).toNat+1)) 0)) (bE F S j)=stL F (bC F S j) (zo (bK F S j) 0 ++ bB F S j) (bD F S j) (bE F S j):=by
 rw [wk_v h e,zm,h.eq,zm,zm,h'.eq,zu,vj (by simp)]
variable (F)
def Wk6 (S:List Int):Inv' C0:=⟨6,Nat×Os×Os,fun x=>[(9,.sl 8 0 (bC F S x.1).length x.2.1.2.2.2),(10,.sl 9 0 (bB F S x.1).length x.2.2.2.2.2),(11,.int .i64 (bL F S x.1:Int)),(12,.int .i64 (bK F S x.1:Int)),(13,.int .i64 (bE F S x.1)),(28,.int .i64 (x.1:Int)),(24,.junk),(25,.junk)],fun x m=>match m with
 | [a0,a1,a2,a3,a4,a5,a6,a7,_,_]=>[a0,a1,a2,a3,a4,a5,a6,a7,osC true x.2.1,osC true x.2.2]
 | m=>m,fun x=>x.1≤S.length∧Ow (bC F S x.1) x.2.1∧Ow (bB F S x.1) x.2.2,fun x=>S.length - x.1⟩
@[irreducible] def wkL (S:List Int):List Int:=trL F (bC F S S.length)
@[irreducible] def wkN (S:List Int):Nat:=bL F S S.length
set_option maxHeartbeats 4000000 in
theorem walk_ok (b1 q1 b2 q2 bR qR bF qF be qe bl ql:Nat) (o:Bool) (b q:Nat) (l:List Int) (i n c:Nat) (h:i+n≤l.length) (hn:n<1000000000) (hc:n≤c) (ho:o=false→n=0∧c=0) (S:List Int) (hS:(l.drop i).take (min n 80)=S):
 Does (C:=C0) Tryz.prog (.fn 85) ([⟨b1,q1,1,false,none,.one [.ptr 3 0 0]⟩,⟨b2,q2,1,false,none,.one [.ptr 2 0 0]⟩] ++ rgC F bR qR bF qF be qe bl ql 2 ++ [⟨b,q,1,false,some o,.rows 3 l⟩]) [.ptr 3 0 0,.sl 6 i n c,.fn (.func 86) [] [.ptr 0 0 0,.ptr 1 0 0]]
  [⟨Os,fun y=>Ow (wkL F S) y,fun y=>.tup [.sl 7 0 (wkL F S).length y.2.2.2,.int .i64 (wkN F S:Int)],fun y=>[⟨b1,q1,1,false,none,.one [.ptr 3 0 0]⟩,⟨b2,q2,1,false,none,.one [.ptr 2 0 0]⟩] ++ rgC F bR qR bF qF be qe bl ql 2 ++ [⟨b,q,1,false,some o,.rows 3 l⟩,osC true y]⟩]:=by
 have hSl:S.length=min n 80:=by rw [← hS];exact row_len (by omega)
 have hS':(l.drop i).take (min (n:Int) 80).toNat=S:=by rw [← hS];congr 1;omega
 refine loc_fn (P:=Tryz.prog) (E:=⟨[fcRing,fcShift,fcStep F,fcTrim F],[pcSum F,pcAdd F],70,[],[],[],none⟩) (L:=[Wk6 F S]) mix Tryz.func85 rfl (by kernel_rfl) (by kernel_rfl) rfl rfl ?_
 ((conv=>arg 1;reduce);with_reducible repeat' first | exact ty | refine ta ?_ ?_ | refine ti fun _ => ?_ | refine tf fun _ => ?_ | refine tl ?_)
 all_goals try exact vlf
 · rename_i r hr p1 p2
   obtain ⟨z1,z2,z3,z4,z5⟩:=bm_zero (F:=F) (S:=S)
   refine Stands.one ((0,(true,p1,[1],1),(true,p2,[1],1)):Nat×Os×Os) ⟨⟨zg _,?_,?_⟩,?_⟩
   · show Ow (bC F S 0) _
     rw [z1];exact ⟨rfl,zw _,zw _,fun h=>by cases h⟩
   · show Ow (bB F S 0) _
     rw [z2];exact ⟨rfl,zw _,zw _,fun h=>by cases h⟩
   ((conv=>arg 1;reduce);with_reducible repeat' first | exact ty | refine ta ?_ ?_ | refine ti fun _ => ?_ | refine tf fun _ => ?_ | refine tl ?_)
   all_goals first | exact vlf | (show 1=(bC F S 0).length;rw [z1];rfl) | (show 1=(bB F S 0).length;rw [z2];rfl) | (show (1:Int)=(bK F S 0:Int);rw [z4];rfl) | (show (0:Int)=(bL F S 0:Int);rw [z3];rfl) | (show (1:Int)=bE F S 0;rw [z5])
 · rename_i r hr p1 p2 x hx d1
   obtain ⟨j,yC,yB⟩:=x
   obtain ⟨k1,kC,kB⟩:j≤S.length∧Ow (bC F S j) yC∧Ow (bB F S j) yB:=hx
   obtain ⟨f1,f2,f3,f4,f5,f6⟩:=bm_fit' (F:=F) (S:=S) (n:=j)
   have d1:(j:Int)<((min (n:Int) 80).toNat:Int):=ng d1
   have c1:=kC.cap
   have c2:=kC.len
   refine ⟨⟨⟨by show 0+(bC F S j).length≤yC.2.2.1.length;omega,by show (bC F S j).length<1000000000;omega,kC.nil⟩,by show i+(min (n:Int) 80).toNat≤l.length;omega,by show (min (n:Int) 80).toNat<1000000000;omega,fun h0 => ?_⟩,wb _,Int.ofNat_le.2 f1,d1⟩
   have:=ho h0
   exact ⟨by show (min (n:Int) 80).toNat=0;omega,this.2⟩
 · rename_i r hr p1 p2 x hx d1 d2
   obtain ⟨j,yC,yB⟩:=x
   obtain ⟨k1,kC,kB⟩:j≤S.length∧Ow (bC F S j) yC∧Ow (bB F S j) yB:=hx
   obtain ⟨f1,f2,f3,f4,f5,f6⟩:=bm_fit' (F:=F) (S:=S) (n:=j)
   have d1:(j:Int)<((min (n:Int) 80).toNat:Int):=ng d1
   have d2:decide (loI F (ibit .xor .i64 (smV F (yu (bC F S j).length (yp 0 yC.2.2.1)) (yu (min (n:Int) 80).toNat (yp i l)) (j:Int).toNat ((bL F S j:Int).toNat+1)) 0)=0)=true:=d2
   rw [wk_v kC hS'] at d2
   exact inR64 (n:=(bK F S j:Int)+1) (by omega) (by omega)
 · rename_i r hr p1 p2 x hx d1 d2
   obtain ⟨j,yC,yB⟩:=x
   obtain ⟨k1,kC,kB⟩:j≤S.length∧Ow (bC F S j) yC∧Ow (bB F S j) yB:=hx
   obtain ⟨f1,f2,f3,f4,f5,f6⟩:=bm_fit' (F:=F) (S:=S) (n:=j)
   have d1:(j:Int)<((min (n:Int) 80).toNat:Int):=ng d1
   have d2:decide (loI F (ibit .xor .i64 (smV F (yu (bC F S j).length (yp 0 yC.2.2.1)) (yu (min (n:Int) 80).toNat (yp i l)) (j:Int).toNat ((bL F S j:Int).toNat+1)) 0)=0)=true:=d2
   rw [wk_v kC hS'] at d2
   exact inR64 (n:=(j:Int)+1) (by omega) (by omega)
 · rename_i r hr p1 p2 x hx d1 d2
   obtain ⟨j,yC,yB⟩:=x
   obtain ⟨k1,kC,kB⟩:j≤S.length∧Ow (bC F S j) yC∧Ow (bB F S j) yB:=hx
   obtain ⟨f1,f2,f3,f4,f5,f6⟩:=bm_fit' (F:=F) (S:=S) (n:=j)
   have d1:(j:Int)<((min (n:Int) 80).toNat:Int):=ng d1
   have d2:decide (loI F (ibit .xor .i64 (smV F (yu (bC F S j).length (yp 0 yC.2.2.1)) (yu (min (n:Int) 80).toNat (yp i l)) (j:Int).toNat ((bL F S j:Int).toNat+1)) 0)=0)=true:=d2
   rw [wk_v kC hS'] at d2
   obtain ⟨s1,s2,s3,s4,s5⟩:=bm_skip (ng d2)
   refine Stands.one ((j+1,yC,yB):Nat×Os×Os) ⟨⟨by show j+1≤S.length;omega,by show Ow (bC F S (j+1)) yC;rw [s1];exact kC,by show Ow (bB F S (j+1)) yB;rw [s2];exact kB⟩,by show S.length - (j+1)<S.length - j;omega,?_⟩
   ((conv=>arg 1;reduce);with_reducible repeat' first | exact ty | refine ta ?_ ?_ | refine ti fun _ => ?_ | refine tf fun _ => ?_ | refine tl ?_)
   all_goals first
    | exact vlf
    | (show (bC F S j).length=(bC F S (j+1)).length;rw [s1])
    | (show (bB F S j).length=(bB F S (j+1)).length;rw [s2])
    | (show (bL F S j:Int)=(bL F S (j+1):Int);rw [s3])
    | (show (bK F S j:Int)+1=(bK F S (j+1):Int);rw [s4];rfl)
    | (show bE F S j=bE F S (j+1);rw [s5])
 · rename_i r hr p1 p2 x hx d1 d2
   obtain ⟨j,yC,yB⟩:=x
   obtain ⟨k1,kC,kB⟩:j≤S.length∧Ow (bC F S j) yC∧Ow (bB F S j) yB:=hx
   obtain ⟨f1,f2,f3,f4,f5,f6⟩:=bm_fit' (F:=F) (S:=S) (n:=j)
   have d1:(j:Int)<((min (n:Int) 80).toNat:Int):=ng d1
   have d2:decide (loI F (ibit .xor .i64 (smV F (yu (bC F S j).length (yp 0 yC.2.2.1)) (yu (min (n:Int) 80).toNat (yp i l)) (j:Int).toNat ((bL F S j:Int).toNat+1)) 0)=0)=false:=d2
   rw [wk_v kC hS'] at d2
   have c1:=kB.cap
   have c2:=kB.len
   have c3:=kC.cap
   have c4:=kC.len
   exact ⟨⟨by show 0+(bB F S j).length≤yB.2.2.1.length;omega,by show (bB F S j).length<1000000000;omega,kB.nil⟩,wb _,by show (bK F S j:Int)<1000000000;omega⟩
 · rename_i r hr p1 p2 x hx d1 d2 z hz
   obtain ⟨j,yC,yB⟩:=x
   obtain ⟨k1,kC,kB⟩:j≤S.length∧Ow (bC F S j) yC∧Ow (bB F S j) yB:=hx
   obtain ⟨f1,f2,f3,f4,f5,f6⟩:=bm_fit' (F:=F) (S:=S) (n:=j)
   have d1:(j:Int)<((min (n:Int) 80).toNat:Int):=ng d1
   have d2:decide (loI F (ibit .xor .i64 (smV F (yu (bC F S j).length (yp 0 yC.2.2.1)) (yu (min (n:Int) 80).toNat (yp i l)) (j:Int).toNat ((bL F S j:Int).toNat+1)) 0)=0)=false:=d2
   rw [wk_v kC hS'] at d2
   have c1:=kB.cap
   have c2:=kB.len
   have c3:=kC.cap
   have c4:=kC.len
   refine ⟨⟨⟨by show 0+(bC F S j).length≤yC.2.2.1.length;omega,by show (bC F S j).length<1000000000;omega,kC.nil⟩,?_,by show (bK F S j:Int).toNat+(bB F S j).length<1000000000;omega,fun h0=>by cases h0⟩,f6⟩
   show 0+((bK F S j:Int).toNat+(bB F S j).length)≤(zo (bK F S j:Int).toNat 0 ++ yu (bB F S j).length (yp 0 yB.2.2.1) ++ z.2.2.1).length
   rw [zm,kB.eq,zx,zx,xz]
   omega
 · rename_i r hr p1 p2 x hx d1 d2 z hz y hy
   obtain ⟨j,yC,yB⟩:=x
   obtain ⟨k1,kC,kB⟩:j≤S.length∧Ow (bC F S j) yC∧Ow (bB F S j) yB:=hx
   obtain ⟨f1,f2,f3,f4,f5,f6⟩:=bm_fit' (F:=F) (S:=S) (n:=j)
   have d1:(j:Int)<((min (n:Int) 80).toNat:Int):=ng d1
   have d2:decide (loI F (ibit .xor .i64 (smV F (yu (bC F S j).length (yp 0 yC.2.2.1)) (yu (min (n:Int) 80).toNat (yp i l)) (j:Int).toNat ((bL F S j:Int).toNat+1)) 0)=0)=false:=d2
   rw [wk_v kC hS'] at d2
   exact inR64 (n:=2*(bL F S j:Int)) (by omega) (by omega)
 · rename_i r hr p1 p2 x hx d1 d2 z hz y hy d3
   obtain ⟨j,yC,yB⟩:=x
   obtain ⟨k1,kC,kB⟩:j≤S.length∧Ow (bC F S j) yC∧Ow (bB F S j) yB:=hx
   obtain ⟨f1,f2,f3,f4,f5,f6⟩:=bm_fit' (F:=F) (S:=S) (n:=j)
   have d1:(j:Int)<((min (n:Int) 80).toNat:Int):=ng d1
   have d2:decide (loI F (ibit .xor .i64 (smV F (yu (bC F S j).length (yp 0 yC.2.2.1)) (yu (min (n:Int) 80).toNat (yp i l)) (j:Int).toNat ((bL F S j:Int).toNat+1)) 0)=0)=false:=d2
   rw [wk_v kC hS'] at d2
   exact inR64 (n:=(bK F S j:Int)+1) (by omega) (by omega)
 · rename_i r hr p1 p2 x hx d1 d2 z hz y hy d3
   obtain ⟨j,yC,yB⟩:=x
   obtain ⟨k1,kC,kB⟩:j≤S.length∧Ow (bC F S j) yC∧Ow (bB F S j) yB:=hx
   obtain ⟨f1,f2,f3,f4,f5,f6⟩:=bm_fit' (F:=F) (S:=S) (n:=j)
   have d1:(j:Int)<((min (n:Int) 80).toNat:Int):=ng d1
   have d2:decide (loI F (ibit .xor .i64 (smV F (yu (bC F S j).length (yp 0 yC.2.2.1)) (yu (min (n:Int) 80).toNat (yp i l)) (j:Int).toNat ((bL F S j:Int).toNat+1)) 0)=0)=false:=d2
   rw [wk_v kC hS'] at d2
   exact inR64 (n:=(j:Int)+1) (by omega) (by omega)
 · rename_i r hr p1 p2 x hx d1 d2 z hz y hy d3
   obtain ⟨j,yC,yB⟩:=x
   obtain ⟨k1,kC,kB⟩:j≤S.length∧Ow (bC F S j) yC∧Ow (bB F S j) yB:=hx
   obtain ⟨f1,f2,f3,f4,f5,f6⟩:=bm_fit' (F:=F) (S:=S) (n:=j)
   have d1:(j:Int)<((min (n:Int) 80).toNat:Int):=ng d1
   have d2:decide (loI F (ibit .xor .i64 (smV F (yu (bC F S j).length (yp 0 yC.2.2.1)) (yu (min (n:Int) 80).toNat (yp i l)) (j:Int).toNat ((bL F S j:Int).toNat+1)) 0)=0)=false:=d2
   rw [wk_v kC hS'] at d2
   have d3:(j:Int)<2*(bL F S j:Int):=ng d3
   have hy:Ow (stL F (yu (bC F S j).length (yp 0 yC.2.2.1)) (yu ((bK F S j:Int).toNat+(bB F S j).length) (yp 0 (zo (bK F S j:Int).toNat 0 ++ yu (bB F S j).length (yp 0 yB.2.2.1) ++ z.2.2.1)))
    (loI F (ibit .xor .i64 (smV F (yu (bC F S j).length (yp 0 yC.2.2.1)) (yu (min (n:Int) 80).toNat (yp i l)) (j:Int).toNat ((bL F S j:Int).toNat+1)) 0)) (bE F S j)) y:=hy
   have es:=wk_s (sp:=z.2.2.1) kC kB hS'
   rw [es] at hy
   obtain ⟨s1,s2,s3,s4,s5⟩:=bm_near (nf d2) (show j<2*bL F S j by omega)
   refine Stands.one ((j+1,y,yB):Nat×Os×Os) ⟨⟨by show j+1≤S.length;omega,by show Ow (bC F S (j+1)) y;rw [s1];exact hy,by show Ow (bB F S (j+1)) yB;rw [s2];exact kB⟩,by show S.length - (j+1)<S.length - j;omega,?_⟩
   ((conv=>arg 1;reduce);with_reducible repeat' first | exact ty | refine ta ?_ ?_ | refine ti fun _ => ?_ | refine tf fun _ => ?_ | refine tl ?_)
   all_goals first
    | exact vlf
    | (show _=(bC F S (j+1)).length;rw [s1];exact congrArg wi es)
    | (show (bB F S j).length=(bB F S (j+1)).length;rw [s2])
    | (show (bL F S j:Int)=(bL F S (j+1):Int);rw [s3])
    | (show (bK F S j:Int)+1=(bK F S (j+1):Int);rw [s4];rfl)
    | (show bE F S j=bE F S (j+1);rw [s5])
 · rename_i r hr p1 p2 x hx d1 d2 z hz y hy d3
   obtain ⟨j,yC,yB⟩:=x
   obtain ⟨k1,kC,kB⟩:j≤S.length∧Ow (bC F S j) yC∧Ow (bB F S j) yB:=hx
   obtain ⟨f1,f2,f3,f4,f5,f6⟩:=bm_fit' (F:=F) (S:=S) (n:=j)
   have d1:(j:Int)<((min (n:Int) 80).toNat:Int):=ng d1
   have d2:decide (loI F (ibit .xor .i64 (smV F (yu (bC F S j).length (yp 0 yC.2.2.1)) (yu (min (n:Int) 80).toNat (yp i l)) (j:Int).toNat ((bL F S j:Int).toNat+1)) 0)=0)=false:=d2
   rw [wk_v kC hS'] at d2
   exact inR64 (n:=(j:Int)+1) (by omega) (by omega)
 · rename_i r hr p1 p2 x hx d1 d2 z hz y hy d3
   obtain ⟨j,yC,yB⟩:=x
   obtain ⟨k1,kC,kB⟩:j≤S.length∧Ow (bC F S j) yC∧Ow (bB F S j) yB:=hx
   obtain ⟨f1,f2,f3,f4,f5,f6⟩:=bm_fit' (F:=F) (S:=S) (n:=j)
   have d1:(j:Int)<((min (n:Int) 80).toNat:Int):=ng d1
   have d2:decide (loI F (ibit .xor .i64 (smV F (yu (bC F S j).length (yp 0 yC.2.2.1)) (yu (min (n:Int) 80).toNat (yp i l)) (j:Int).toNat ((bL F S j:Int).toNat+1)) 0)=0)=false:=d2
   rw [wk_v kC hS'] at d2
   exact inR64 (n:=(j:Int)+1 - (bL F S j:Int)) (by omega) (by omega)
 · rename_i r hr p1 p2 x hx d1 d2 z hz y hy d3
   obtain ⟨j,yC,yB⟩:=x
   obtain ⟨k1,kC,kB⟩:j≤S.length∧Ow (bC F S j) yC∧Ow (bB F S j) yB:=hx
   obtain ⟨f1,f2,f3,f4,f5,f6⟩:=bm_fit' (F:=F) (S:=S) (n:=j)
   have d1:(j:Int)<((min (n:Int) 80).toNat:Int):=ng d1
   have d2:decide (loI F (ibit .xor .i64 (smV F (yu (bC F S j).length (yp 0 yC.2.2.1)) (yu (min (n:Int) 80).toNat (yp i l)) (j:Int).toNat ((bL F S j:Int).toNat+1)) 0)=0)=false:=d2
   rw [wk_v kC hS'] at d2
   exact inR64 (n:=(j:Int)+1) (by omega) (by omega)
 · rename_i r hr p1 p2 x hx d1 d2 z hz y hy d3
   obtain ⟨j,yC,yB⟩:=x
   obtain ⟨k1,kC,kB⟩:j≤S.length∧Ow (bC F S j) yC∧Ow (bB F S j) yB:=hx
   obtain ⟨f1,f2,f3,f4,f5,f6⟩:=bm_fit' (F:=F) (S:=S) (n:=j)
   have d1:(j:Int)<((min (n:Int) 80).toNat:Int):=ng d1
   have d2:decide (loI F (ibit .xor .i64 (smV F (yu (bC F S j).length (yp 0 yC.2.2.1)) (yu (min (n:Int) 80).toNat (yp i l)) (j:Int).toNat ((bL F S j:Int).toNat+1)) 0)=0)=false:=d2
   rw [wk_v kC hS'] at d2
   have d3:¬ (j:Int)<2*(bL F S j:Int):=nf d3
   have hy:Ow (stL F (yu (bC F S j).length (yp 0 yC.2.2.1)) (yu ((bK F S j:Int).toNat+(bB F S j).length) (yp 0 (zo (bK F S j:Int).toNat 0 ++ yu (bB F S j).length (yp 0 yB.2.2.1) ++ z.2.2.1)))
    (loI F (ibit .xor .i64 (smV F (yu (bC F S j).length (yp 0 yC.2.2.1)) (yu (min (n:Int) 80).toNat (yp i l)) (j:Int).toNat ((bL F S j:Int).toNat+1)) 0)) (bE F S j)) y:=hy
   have es:=wk_s (sp:=z.2.2.1) kC kB hS'
   rw [es] at hy
   have ev:=wk_v kC hS'
   obtain ⟨s1,s2,s3,s4,s5⟩:=bm_far (nf d2) (show ¬ j<2*bL F S j by omega)
   refine Stands.one ((j+1,y,yC):Nat×Os×Os) ⟨⟨by show j+1≤S.length;omega,by show Ow (bC F S (j+1)) y;rw [s1];exact hy,by show Ow (bB F S (j+1)) yC;rw [s2];exact kC⟩,by show S.length - (j+1)<S.length - j;omega,?_⟩
   ((conv=>arg 1;reduce);with_reducible repeat' first | exact ty | refine ta ?_ ?_ | refine ti fun _ => ?_ | refine tf fun _ => ?_ | refine tl ?_)
   all_goals first
    | exact vlf
    | (show _=(bC F S (j+1)).length;rw [s1];exact congrArg wi es)
    | (show (bC F S j).length=(bB F S (j+1)).length;rw [s2])
    | (show (j:Int)+1 - (bL F S j:Int)=(bL F S (j+1):Int);rw [s3];omega)
    | (show (1:Int)=(bK F S (j+1):Int);rw [s4];rfl)
    | (show _=bE F S (j+1);rw [s5];exact ev)
 · rename_i r hr p1 p2 x hx d1
   obtain ⟨j,yC,yB⟩:=x
   obtain ⟨k1,kC,kB⟩:j≤S.length∧Ow (bC F S j) yC∧Ow (bB F S j) yB:=hx
   obtain ⟨f1,f2,f3,f4,f5,f6⟩:=bm_fit' (F:=F) (S:=S) (n:=j)
   have c3:=kC.cap
   have c4:=kC.len
   exact ⟨by show 0+(bC F S j).length≤yC.2.2.1.length;omega,by show (bC F S j).length<1000000000;omega,kC.nil⟩
 · rename_i r hr p1 p2 x hx d1 y hy
   obtain ⟨j,yC,yB⟩:=x
   obtain ⟨k1,kC,kB⟩:j≤S.length∧Ow (bC F S j) yC∧Ow (bB F S j) yB:=hx
   have d1:¬ (j:Int)<((min (n:Int) 80).toNat:Int):=nf d1
   obtain rfl:j=S.length:=by omega
   have hy:Ow (trL F (yu (bC F S S.length).length (yp 0 yC.2.2.1))) y:=hy
   have e:trL F (yu (bC F S S.length).length (yp 0 yC.2.2.1))=wkL F S:=by
    rw [zm,kC.eq];unfold wkL;rfl
   have e2:bL F S S.length=wkN F S:=by unfold wkN;rfl
   rw [e] at hy
   refine Ends.one y hy ?_
   ((conv=>arg 1;reduce);with_reducible repeat' first | exact ty | refine ta ?_ ?_ | refine ti fun _ => ?_ | refine tf fun _ => ?_ | refine tl ?_)
   all_goals first | exact vlf | exact congrArg wi e | exact (congrArg wi e).symm | exact congrArg (fun k:Nat=>(k:Int)) e2 | exact congrArg (fun k:Nat=>(k:Int)) e2.symm
def fcWalk:Fc Tryz.prog C0 where
 tg:=.fn 85
 X:=(Nat×Nat×Nat×Nat)×(Nat×Nat×Nat×Nat×Nat×Nat×Nat×Nat)×Sl3
 args:=fun (_,_,(o,b,q,l,i,n,c))=>[.ptr 3 0 0,.sl 6 i n c,.fn (.func 86) [] [.ptr 0 0 0,.ptr 1 0 0]]
 mem:=fun ((b1,q1,b2,q2),(bR,qR,bF,qF,be,qe,bl,ql),(o,b,q,l,i,n,c))=>[⟨b1,q1,1,false,none,.one [.ptr 3 0 0]⟩,⟨b2,q2,1,false,none,.one [.ptr 2 0 0]⟩] ++ rgC F bR qR bF qF be qe bl ql 2 ++ [⟨b,q,1,false,some o,.rows 3 l⟩]
 pre:=fun (_,_,x)=>Sl3.pre x∧x.2.2.2.2.2.1≤x.2.2.2.2.2.2
 alts:=fun ((b1,q1,b2,q2),(bR,qR,bF,qF,be,qe,bl,ql),(o,b,q,l,i,n,c))=>[⟨Os,fun y=>Ow (wkL F ((l.drop i).take (min n 80))) y,fun y=>.tup [.sl 7 0 (wkL F ((l.drop i).take (min n 80))).length y.2.2.2,.int .i64 (wkN F ((l.drop i).take (min n 80)):Int)],fun y=>[⟨b1,q1,1,false,none,.one [.ptr 3 0 0]⟩,⟨b2,q2,1,false,none,.one [.ptr 2 0 0]⟩] ++ rgC F bR qR bF qF be qe bl ql 2 ++ [⟨b,q,1,false,some o,.rows 3 l⟩,osC true y]⟩]
 mat vs m:=match vs with
  | [_,.sl s i n c,.fn _ _ [.ptr p _ _,.ptr p' _ _]]=>match nth m p,nth m p' with
    | ⟨b1,q1,_,_,_,_⟩,⟨b2,q2,_,_,_,.one (.ptr r _ _ :: _)⟩=>match nth m r with
      | ⟨bR,qR,_,_,_,.one (.ptr f _ _ :: _)⟩=>match nth m f with
        | ⟨bF,qF,_,_,_,.one (_ :: _ :: .sl x _ _ _ :: .sl g _ _ _ :: _)⟩=>match nth m x,nth m g,nth m s with
          | ⟨be,qe,_,_,_,_⟩,⟨bl,ql,_,_,_,_⟩,⟨b,q,_,_,o,.rows 3 l⟩=>some (((b1,q1,b2,q2),(bR,qR,bF,qF,be,qe,bl,ql),(onOf o,b,q,l,i,n,c)),[p,p',r,f,x,g,s])
          | _,_,_=>none
        | _=>none
      | _=>none
    | _,_=>none
  | _=>none
 ok:=fun ((b1,q1,b2,q2),(bR,qR,bF,qF,be,qe,bl,ql),(o,b,q,l,i,n,c)) h=>walk_ok F b1 q1 b2 q2 bR qR bF qF be qe bl ql o b q l i n c h.1.1 h.1.2.1 h.2 h.1.2.2 _ rfl
theorem locate_ok (bF qF be qe bl ql:Nat) (o:Bool) (b q:Nat) (l:List Int) (i n c:Nat) (h:i+n≤l.length) (hn:n<1000000000) (hc:n≤c) (ho:o=false→n=0∧c=0):
 Does (C:=C0) Tryz.prog (.fn 59) [fld F bF qF,xCk F be qe,lCk F bl ql,⟨b,q,1,false,some o,.rows 3 l⟩] [.ptr 0 0 0,.sl 3 i n c]
  [⟨Os,fun y=>Ow (wkL F ((l.drop i).take (min n 80))) y,fun y=>.tup [.sl 4 0 (wkL F ((l.drop i).take (min n 80))).length y.2.2.2,.int .i64 (wkN F ((l.drop i).take (min n 80)):Int)],fun y=>[fld F bF qF,xCk F be qe,lCk F bl ql,⟨b,q,1,false,some o,.rows 3 l⟩,osC true y]⟩]:=by
 refine loc_fn (P:=Tryz.prog) (E:=⟨[fcRing,fcWalk F],[],15,[],[],[],none⟩) (L:=[]) mix Tryz.func59 rfl (by kernel_rfl) (by kernel_rfl) rfl rfl ?_
 ((conv=>arg 1;reduce);with_reducible repeat' first | exact ty | refine ta ?_ ?_ | refine ti fun _ => ?_ | refine tf fun _ => ?_ | refine tl ?_)
 all_goals try exact vlf
 · exact ⟨⟨h,hn,ho⟩,hc⟩
 · rename_i y hy
   refine Ends.one y hy ?_
   exact vgo
def fcLocate:Fc Tryz.prog C0 where
 tg:=.fn 59
 X:=(Nat×Nat×Nat×Nat×Nat×Nat)×Sl3
 args:=fun (_,(o,b,q,l,i,n,c))=>[.ptr 0 0 0,.sl 3 i n c]
 mem:=fun ((bF,qF,be,qe,bl,ql),(o,b,q,l,i,n,c))=>[fld F bF qF,xCk F be qe,lCk F bl ql,⟨b,q,1,false,some o,.rows 3 l⟩]
 pre:=fun (_,x)=>Sl3.pre x∧x.2.2.2.2.2.1≤x.2.2.2.2.2.2
 alts:=fun ((bF,qF,be,qe,bl,ql),(o,b,q,l,i,n,c))=>[⟨Os,fun y=>Ow (wkL F ((l.drop i).take (min n 80))) y,fun y=>.tup [.sl 4 0 (wkL F ((l.drop i).take (min n 80))).length y.2.2.2,.int .i64 (wkN F ((l.drop i).take (min n 80)):Int)],fun y=>[fld F bF qF,xCk F be qe,lCk F bl ql,⟨b,q,1,false,some o,.rows 3 l⟩,osC true y]⟩]
 mat vs m:=match vs with
  | [.ptr f _ _,.sl s i n c]=>match nth m f with
    | ⟨bF,qF,_,_,_,.one (_ :: _ :: .sl x _ _ _ :: .sl g _ _ _ :: _)⟩=>match nth m x,nth m g,nth m s with
      | ⟨be,qe,_,_,_,_⟩,⟨bl,ql,_,_,_,_⟩,⟨b,q,_,_,o,.rows 3 l⟩=>some (((bF,qF,be,qe,bl,ql),(onOf o,b,q,l,i,n,c)),[f,x,g,s])
      | _,_,_=>none
    | _=>none
  | _=>none
 ok:=fun ((bF,qF,be,qe,bl,ql),(o,b,q,l,i,n,c)) h=>locate_ok F bF qF be qe bl ql o b q l i n c h.1.1 h.1.2.1 h.2 h.1.2.2
end
end
end Go.Vx
namespace Go.Vx
section
variable {c d:Codec}
end
end Go.Vx
namespace Go.Vx
open Go Go.Proofs
noncomputable section
variable [Gl]
section
variable (F:Gf)
theorem begun_ok (bF qF:Nat) (o:Bool) (b q:Nat) (l:List Int) (i n c:Nat) (h:i+n≤l.length) (hn:n<1000000000) (hc:n≤c) (ho:o=false→n=0∧c=0) (k:Int) (P:List Int) (hP:(l.drop i).take (min n 2048)=P):
 Does (C:=C0) Tryz.prog (.fn 90) [⟨bF,qF,4,false,none,.one [.junk,.int .i64 (szF F:Int)]⟩,⟨b,q,1,false,some o,.rows 3 l⟩] [.ptr 0 0 0,.sl 1 i n c,.int .i64 k]
  [⟨Os,fun y=>Ow (trL F P) y,fun y=>.agg [.ptr 0 0 0,.sl 2 0 (trL F P).length y.2.2.2,.int .i64 (min k ((szF F:Int) - 1))],fun y=>[⟨bF,qF,4,false,none,.one [.junk,.int .i64 (szF F:Int)]⟩,⟨b,q,1,false,some o,.rows 3 l⟩,osC true y]⟩]:=by
 refine loc_fn (P:=Tryz.prog) (E:=⟨[fcRing,fcTrim F],[pcSize],24,[],[],[],none⟩) (L:=[]) mix Tryz.func90 rfl (by kernel_rfl) (by kernel_rfl) rfl rfl ?_
 ((conv=>arg 1;reduce);with_reducible repeat' first | exact ty | refine ta ?_ ?_ | refine ti fun _ => ?_ | refine tf fun _ => ?_ | refine tl ?_)
 all_goals try exact vlf
 · exact ⟨by show i+(min (n:Int) 2048).toNat≤l.length;omega,by show (min (n:Int) 2048).toNat<1000000000;omega,fun h0=>⟨by have:=ho h0;show (min (n:Int) 2048).toNat=0;omega,(ho h0).2⟩⟩
 · obtain ⟨hs,h7,hh⟩:=nF_sz F
   exact inR64 (n:=(szF F:Int) - 1) (by omega) (by omega)
 · rename_i r1 r hr y hy
   have hP':(l.drop i).take (min (n:Int) 2048).toNat=P:=by rw [← hP];congr 1;omega
   have hy:Ow (trL F ((l.drop i).take (min (n:Int) 2048).toNat)) y:=hy
   rw [hP'] at hy
   refine Ends.one y hy ?_
   ((conv=>arg 1;reduce);with_reducible repeat' first | exact ty | refine ta ?_ ?_ | refine ti fun _ => ?_ | refine tf fun _ => ?_ | refine tl ?_)
   all_goals first | exact vlf | (rw [hP'])
def fcBegun:Fc Tryz.prog C0 where
 tg:=.fn 90
 X:=(Nat×Nat)×Sl3×Int
 args:=fun (_,(o,b,q,l,i,n,c),k)=>[.ptr 0 0 0,.sl 1 i n c,.int .i64 k]
 mem:=fun ((bF,qF),(o,b,q,l,i,n,c),k)=>[⟨bF,qF,4,false,none,.one [.junk,.int .i64 (szF F:Int)]⟩,⟨b,q,1,false,some o,.rows 3 l⟩]
 pre:=fun (_,x,_)=>Sl3.pre x∧x.2.2.2.2.2.1≤x.2.2.2.2.2.2
 alts:=fun ((bF,qF),(o,b,q,l,i,n,c),k)=>[⟨Os,fun y=>Ow (trL F ((l.drop i).take (min n 2048))) y,fun y=>.agg [.ptr 0 0 0,.sl 2 0 (trL F ((l.drop i).take (min n 2048))).length y.2.2.2,.int .i64 (min k ((szF F:Int) - 1))],fun y=>[⟨bF,qF,4,false,none,.one [.junk,.int .i64 (szF F:Int)]⟩,⟨b,q,1,false,some o,.rows 3 l⟩,osC true y]⟩]
 mat vs m:=match vs with
  | [.ptr f _ _,.sl s i n c,.int _ k]=>match nth m f,nth m s with
    | ⟨bF,qF,_,_,_,_⟩,⟨b,q,_,_,o,.rows 3 l⟩=>some (((bF,qF),(onOf o,b,q,l,i,n,c),k),[f,s])
    | _,_=>none
  | _=>none
 ok:=fun ((bF,qF),(o,b,q,l,i,n,c),k) h=>begun_ok F bF qF o b q l i n c h.1.1 h.1.2.1 h.2 h.1.2.2 k _ rfl
theorem chien_ok (bF qF:Nat) (o:Bool) (b q:Nat) (l:List Int) (i n c:Nat) (k:Int):
 Does (C:=C0) Tryz.prog (.fn 92) [⟨bF,qF,4,false,none,.one []⟩,⟨b,q,1,false,some o,.rows 3 l⟩] [.agg [.ptr 0 0 0,.sl 1 i n c,.int .i64 k]]
  [⟨Nat,fun y=>True,fun y=>.fn (.func 119) [] [.ptr 2 0 0],fun y=>[⟨bF,qF,4,false,none,.one []⟩,⟨b,q,1,false,some o,.rows 3 l⟩,⟨y,0,3,true,none,.one [.ptr 0 0 0,.sl 1 i n c,.int .i64 k]⟩]⟩]:=by
 refine loc_fn (P:=Tryz.prog) (E:=⟨[],[],4,[],[],[],none⟩) (L:=[]) mix Tryz.func92 rfl (by kernel_rfl) (by kernel_rfl) rfl rfl ?_
 ((conv=>arg 1;reduce);with_reducible repeat' first | exact ty | refine ta ?_ ?_ | refine ti fun _ => ?_ | refine tf fun _ => ?_ | refine tl ?_)
 all_goals try exact vlf
 rename_i y
 refine Ends.one y trivial ?_
 exact vgo
def fcChien:Fc Tryz.prog C0 where
 tg:=.fn 92
 X:=(Nat×Nat)×Sl3×Int
 args:=fun (_,(o,b,q,l,i,n,c),k)=>[.agg [.ptr 0 0 0,.sl 1 i n c,.int .i64 k]]
 mem:=fun ((bF,qF),(o,b,q,l,i,n,c),k)=>[⟨bF,qF,4,false,none,.one []⟩,⟨b,q,1,false,some o,.rows 3 l⟩]
 pre _:=True
 alts:=fun ((bF,qF),(o,b,q,l,i,n,c),k)=>[⟨Nat,fun y=>True,fun y=>.fn (.func 119) [] [.ptr 2 0 0],fun y=>[⟨bF,qF,4,false,none,.one []⟩,⟨b,q,1,false,some o,.rows 3 l⟩,⟨y,0,3,true,none,.one [.ptr 0 0 0,.sl 1 i n c,.int .i64 k]⟩]⟩]
 mat vs m:=match vs with
  | [.agg [.ptr f _ _,.sl s i n c,.int _ k]]=>match nth m f,nth m s with
    | ⟨bF,qF,_,_,_,_⟩,⟨b,q,_,_,o,.rows 3 l⟩=>some (((bF,qF),(onOf o,b,q,l,i,n,c),k),[f,s])
    | _,_=>none
  | _=>none
 ok:=fun ((bF,qF),(o,b,q,l,i,n,c),k) _=>chien_ok bF qF o b q l i n c k
end
end
end Go.Vx
namespace Go.Vx
open Go Go.Proofs
noncomputable section
variable [Gl]
section
variable (F:Gf)
def tv (P:List Int) (i k:Nat):El F:=cf (els F P) k*Fd.pw (exF F (-(k:Int))) i
@[irreducible] def tI (P:List Int) (i j:Nat):List Int:=(xq P.length).map fun k=>if k<j then vi (tv F P (i+1) k) else vi (tv F P i k)
@[irreducible] def yS (P:List Int) (i j:Nat):Int:=vi (Fd.sm j fun k=>tv F P i k)
@[irreducible] def rtL (P:List Int) (i:Nat):List Int:=((xq i).filter fun a:Nat=>decide (yS F P a P.length=0)).map fun a:Nat=>(a:Int)
variable {F}
theorem tI_len {P:List Int} {i j:Nat}:(tI F P i j).length=P.length:=by unfold tI;simp
theorem tI_zero {P:List Int} (h:vis (els F P)=P):tI F P 0 0=P:=by
 unfold tI
 refine wv (by simp) fun k h1 h2 => ?_
 simp only [th,sj,xi,if_false]
 have:P.getD k 0=vi (cf (els F P) k):=by rw [← vis_getD,h]
 rw [zy,zt h2] at this
 rw [show P[k]=_ from this]
 unfold tv
 show vi (cf (els F P) k*Fd.un)=_
 rw [Fd.mulC,Fd.umul]
theorem tI_next {P:List Int} {i:Nat}:tI F P i P.length=tI F P (i+1) 0:=by
 unfold tI
 refine xm fun k hk => ?_
 rw [if_pos (List.mem_range.1 hk),if_neg (xi k)]
theorem tI_at {P:List Int} {i j:Nat} {sp:List Int} (h:j<P.length):(tI F P i j ++ sp).getD j 0=vi (tv F P i j):=by
 simp only [zy,yx (show j<(tI F P i j).length by rw [tI_len];exact h)]
 unfold tI
 simp only [zf,xh h,yr,ym,if_neg (ua j)]
theorem tI_set {P:List Int} {i j:Nat} {sp:List Int} (h:j<P.length):(tI F P i j ++ sp).set j (muI F (vi (tv F P i j)) (vi (exF F (-(j:Int)))))=tI F P i (j+1) ++ sp:=by
 rw [tu _ _ (by rw [tI_len];exact h)]
 congr 1
 unfold tI
 rw [set_map h]
 refine xm fun k _ => ?_
 by_cases hk:k=j
 · subst hk
   rw [if_pos rfl,if_pos (by omega),muI_eq,el_vi,el_vi]
   unfold tv
   rw [Fd.mulA]
   rfl
 · rw [if_neg hk]
   by_cases h2:k<j
   · rw [if_pos h2,if_pos (by omega)]
   · rw [if_neg h2,if_neg (by omega)]
theorem yS_zero {P:List Int} {i:Nat}:yS F P i 0=0:=by unfold yS;rfl
theorem yS_succ {P:List Int} {i j:Nat}:ibit .xor .i64 (yS F P i j) (vi (tv F P i j))=yS F P i (j+1):=by
 unfold yS
 rw [xor_vi]
 rfl
theorem rtL_yes {P:List Int} {i:Nat} (h:yS F P i P.length=0):rtL F P (i+1)=rtL F P i ++ [(i:Int)]:=by
 unfold rtL
 rw [uc,sk,vq]
 simp [h]
theorem rtL_no {P:List Int} {i:Nat} (h:yS F P i P.length≠0):rtL F P (i+1)=rtL F P i:=by
 unfold rtL
 rw [uc,sk,vq]
 simp [h]
theorem rtL_len {P:List Int} {i:Nat}:(rtL F P i).length≤i:=by
 unfold rtL
 rw [zn]
 exact xl (List.length_filter_le _ _) (by simp)
theorem rtL_zero {P:List Int}:rtL F P 0=[]:=by unfold rtL;rfl
variable (F)
abbrev Oq:=Bool×Nat×Nat×List Int×Nat
structure Oqw (L:List Int) (y:Oq):Prop where
 eq:y.2.2.2.1.take L.length=L
 cap:L.length≤y.2.2.2.2
 len:y.2.2.2.2≤y.2.2.2.1.length
 nil:y.1=false→L.length=0∧y.2.2.2.2=0
abbrev oqC (wr:Bool) (y:Oq):Ck C0:=⟨y.2.1,y.2.2.1,1,wr,some y.1,.rows 3 y.2.2.2.1⟩
def Ch2n (P:List Int) (N:Nat):Inv' C0:=⟨2,Nat×List Int,fun x=>[(14,.int .i64 (x.1:Int))],fun x m=>match m with
 | a0 :: a1 :: a2 :: a3 :: a4 :: bs :: a6 :: tr :: _=>[a0,a1,a2,a3,a4,⟨bs.block,bs.base,bs.sz,bs.wr,bs.gl,.one [.nils]⟩,a6,⟨tr.block,tr.base,1,true,tr.gl,.rows 3 (tI F P x.1 0 ++ x.2)⟩]
 | m=>m,fun x=>x.1≤N∧rtL F P x.1=[]∧(P.length=0→x.2.length=0),fun x=>N - x.1⟩
def Ch2s (P:List Int) (N:Nat):Inv' C0:=⟨2,Nat×List Int×Oq,fun x=>[(14,.int .i64 (x.1:Int))],fun x m=>match m with
 | a0 :: a1 :: a2 :: a3 :: a4 :: bs :: a6 :: tr :: _=>[a0,a1,a2,a3,a4,⟨bs.block,bs.base,bs.sz,bs.wr,bs.gl,.one [.sl 8 0 (rtL F P x.1).length x.2.2.2.2.2.2]⟩,a6,⟨tr.block,tr.base,1,true,tr.gl,.rows 3 (tI F P x.1 0 ++ x.2.1)⟩,⟨x.2.2.2.1,x.2.2.2.2.1,1,true,none,.rows 3 x.2.2.2.2.2.1⟩]
 | m=>m,fun x=>x.1≤N∧Oqw (rtL F P x.1) (true,x.2.2.2)∧(P.length=0→x.2.1.length=0)∧rtL F P x.1≠[],fun x=>N - x.1⟩
def Ch6n (P:List Int) (N:Nat):Inv' C0:=⟨6,Nat×Nat×List Int,fun x=>[(14,.int .i64 (x.1:Int)),(4,.int .i64 (x.1:Int)),(19,.int .i64 (x.2.1:Int)),(5,.int .i64 (yS F P x.1 x.2.1))],fun x m=>match m with
 | a0 :: a1 :: a2 :: a3 :: a4 :: bs :: a6 :: tr :: _=>[a0,a1,a2,a3,a4,⟨bs.block,bs.base,bs.sz,bs.wr,bs.gl,.one [.nils]⟩,a6,⟨tr.block,tr.base,1,true,tr.gl,.rows 3 (tI F P x.1 x.2.1 ++ x.2.2)⟩]
 | m=>m,fun x=>x.1<N∧x.2.1≤P.length∧rtL F P x.1=[]∧(P.length=0→x.2.2.length=0),fun x=>P.length - x.2.1⟩
def Ch6s (P:List Int) (N:Nat):Inv' C0:=⟨6,Nat×Nat×List Int×Oq,fun x=>[(14,.int .i64 (x.1:Int)),(4,.int .i64 (x.1:Int)),(19,.int .i64 (x.2.1:Int)),(5,.int .i64 (yS F P x.1 x.2.1))],fun x m=>match m with
 | a0 :: a1 :: a2 :: a3 :: a4 :: bs :: a6 :: tr :: _=>[a0,a1,a2,a3,a4,⟨bs.block,bs.base,bs.sz,bs.wr,bs.gl,.one [.sl 8 0 (rtL F P x.1).length x.2.2.2.2.2.2.2]⟩,a6,⟨tr.block,tr.base,1,true,tr.gl,.rows 3 (tI F P x.1 x.2.1 ++ x.2.2.1)⟩,⟨x.2.2.2.2.1,x.2.2.2.2.2.1,1,true,none,.rows 3 x.2.2.2.2.2.2.1⟩]
 | m=>m,fun x=>x.1<N∧x.2.1≤P.length∧Oqw (rtL F P x.1) (true,x.2.2.2.2)∧(P.length=0→x.2.2.1.length=0)∧rtL F P x.1≠[],fun x=>P.length - x.2.1⟩
def itChien (P:List Int) (N:Nat):It Tryz.prog C0:=⟨119,Tryz.f119,_,⟨[],[pcExp F,pcMul F],46,[(9,[6],[.p 0,.p 1,.p 2,.p 3,.p 4,.p 5,.p 6,.p 7,.p 8,.e 9,.e 10,.p 11,.e 12])],[],[],none⟩,[Ch2n F P N,Ch2s F P N,Ch6n F P N,Ch6s F P N],Tryz.func119,rfl,(by kernel_rfl),(by kernel_rfl)⟩
set_option maxHeartbeats 4000000 in
theorem roots_ok (bF qF be qe bl ql:Nat) (o:Bool) (b q:Nat) (l:List Int) (i n c:Nat) (h:i+n≤l.length) (hn:n<1000000000) (ho:o=false→n=0∧c=0) (k:Int) (hk:k<1000000000) (P:List Int) (hP:(l.drop i).take n=P) (hv:vis (els F P)=P):
 Does (C:=C0) Tryz.prog (.fn 91) [fld F bF qF,xCk F be qe,lCk F bl ql,⟨b,q,1,false,some o,.rows 3 l⟩] [.agg [.ptr 0 0 0,.sl 3 i n c,.int .i64 k],.fn (.func 92) [] []]
  [⟨Oq,fun y=>Oqw (rtL F P (max 0 k).toNat) y,fun y=>.sl 4 0 (rtL F P (max 0 k).toNat).length y.2.2.2.2,fun y=>[fld F bF qF,xCk F be qe,lCk F bl ql,⟨b,q,1,false,some o,.rows 3 l⟩,oqC true y]⟩]:=by
 have by3:Tryz.prog.types[3].bytes=8:=by kernel_rfl
 have lI:=fun a b=>tI_len (F:=F) (P:=P) (i:=a) (j:=b)
 have hL:P.length=n:=by rw [← hP];exact row_len h
 have key:∀ {a b:Nat} {Q:Prop},(a:Int)=(b:Int)→rtL F P a=[]→rtL F P b≠[]→Q:=fun e h1 h2=>by
  rw [Int.ofNat.inj e] at h1;exact absurd h1 h2
 have key':∀ {a b:Nat} {Q:Prop},(a:Int)=(b:Int)→rtL F P a≠[]→rtL F P b=[]→Q:=fun e h1 h2=>by
  rw [Int.ofNat.inj e] at h1;exact absurd h2 h1
 refine loc_fnR (P:=Tryz.prog) (E:=⟨[fcChien],[],20,[],[],[],none⟩) (L:=[]) mix [itChien F P (max 0 k).toNat] Tryz.func91 rfl (by kernel_rfl) (by kernel_rfl) rfl rfl ?_
 ((conv=>arg 1;reduce);with_reducible repeat' first | exact ty | refine ta ?_ ?_ | refine ti fun _ => ?_ | refine tf fun _ => ?_ | refine tl ?_)
 all_goals try exact vlf
 all_goals try exact key (by assumption) (‹(Ch2n F P (max 0 k).toNat).inv _›).2.1 (‹(Ch6s F P (max 0 k).toNat).inv _›).2.2.2.2
 all_goals try exact key' (by assumption) (‹(Ch2s F P (max 0 k).toNat).inv _›).2.2.2 (‹(Ch6n F P (max 0 k).toNat).inv _›).2.2.1
 · exact ⟨h,by rw [by3];omega⟩
 · exact fun h0=>⟨(ho h0).1,(ho h0).1⟩
 · rename_i g1 g2 yy hyy g3 g4 sp hsp
   change List Int at sp
   refine Stands.one ((0,sp):Nat×List Int) ⟨⟨zg _,rtL_zero,fun h0=>hsp (by omega)⟩,?_⟩
   ((conv=>arg 1;reduce);with_reducible repeat' first | exact ty | refine ta ?_ ?_ | refine ti fun _ => ?_ | refine tf fun _ => ?_ | refine tl ?_)
   all_goals first | exact vlf | (show tI F P 0 0 ++ sp=(l.drop i).take n ++ sp;rw [tI_zero hv,hP])
 all_goals try (
  rename_i g1 g2 yy hyy g3 g4 sp hsp x hx d1
  change Nat×List Int at x
  obtain ⟨i0,sq0⟩:=x
  obtain ⟨k1,k2,k3⟩:i0≤(max 0 k).toNat∧rtL F P i0=[]∧(P.length=0→sq0.length=0):=hx
  have d1:(i0:Int)<max 0 k:=ng d1
  refine Stands.one ((i0,0,sq0):Nat×Nat×List Int) ⟨⟨by show i0<(max 0 k).toNat;omega,zg _,k2,k3⟩,?_⟩
  ((conv=>arg 1;reduce);with_reducible repeat' first | exact ty | refine ta ?_ ?_ | refine ti fun _ => ?_ | refine tf fun _ => ?_ | refine tl ?_)
  all_goals first | exact vlf | exact yS_zero.symm)
 all_goals try (
  rename_i g1 g2 yy hyy g3 g4 sp hsp x hx d1 z hz e1 e2 d2
  change Nat×List Int at x
  obtain ⟨i0,sq0⟩:=x
  obtain ⟨k1,k2,k3⟩:i0≤(max 0 k).toNat∧rtL F P i0=[]∧(P.length=0→sq0.length=0):=hx
  change Nat×Nat×List Int at z
  obtain ⟨i,j,sq⟩:=z
  obtain ⟨m1,m2,m3,m4⟩:i<(max 0 k).toNat∧j≤P.length∧rtL F P i=[]∧(P.length=0→sq.length=0):=hz
  have e1:(i0:Int)=(i:Int):=e1
  have d2:(j:Int)<(n:Int):=ng d2
  first
  | exact blt_on (by omega)
  | exact d2
  | (show (j:Int).toNat+0<(tI F P i j ++ sq).length;rw [zx,lI];omega)
  | exact inR64 (n:=0 - (j:Int)) (by omega) (by omega)
  | exact inR64 (n:=(j:Int)+1) (by omega) (by omega)
  | (show -4611686018427387904≤0 - (j:Int)∧0 - (j:Int)≤4611686018427387904;omega)
  | (refine Stands.one ((i,j+1,sq):Nat×Nat×List Int) ⟨⟨m1,by show j+1≤P.length;omega,m3,m4⟩,by show P.length - (j+1)<P.length - j;omega,?_⟩
     ((conv=>arg 1;reduce);with_reducible repeat' first | exact ty | refine ta ?_ ?_ | refine ti fun _ => ?_ | refine tf fun _ => ?_ | refine tl ?_)
     all_goals first
      | exact vlf
      | (show ibit .xor .i64 (yS F P i j) ((tI F P i j ++ sq).getD ((j:Int).toNat+0) 0)=yS F P i (j+1)
         rw [zu,za j,tI_at (P:=P) (j:=j) (by omega),yS_succ])
      | (show tI F P i (j+1) ++ sq=(tI F P i j ++ sq).set ((j:Int).toNat+0) (muI F ((tI F P i j ++ sq).getD ((j:Int).toNat+0) 0) (vi (exF F (0 - (j:Int)))))
         rw [zu,za j,tI_at (P:=P) (j:=j) (by omega),Int.zero_sub,tI_set (P:=P) (j:=j) (by omega)])))
 all_goals try (
  rename_i g1 g2 yy hyy g3 g4 sp hsp x hx d1 z hz e1 e2 d2 d3
  change Nat×List Int at x
  obtain ⟨i0,sq0⟩:=x
  obtain ⟨k1,k2,k3⟩:i0≤(max 0 k).toNat∧rtL F P i0=[]∧(P.length=0→sq0.length=0):=hx
  change Nat×Nat×List Int at z
  obtain ⟨i,j,sq⟩:=z
  obtain ⟨m1,m2,m3,m4⟩:i<(max 0 k).toNat∧j≤P.length∧rtL F P i=[]∧(P.length=0→sq.length=0):=hz
  have e1:(i0:Int)=(i:Int):=e1
  have d2:¬ (j:Int)<(n:Int):=nf d2
  have d3:¬ yS F P i j=0:=nf d3
  obtain rfl:j=P.length:=by omega
  first
  | exact inR64 (n:=(i:Int)+1) (by omega) (by omega)
  | (have rr:=rtL_no d3
     refine Stands.one ((i+1,sq):Nat×List Int) ⟨⟨by show i+1≤(max 0 k).toNat;omega,by rw [rr];exact m3,m4⟩,by show (max 0 k).toNat - (i+1)<(max 0 k).toNat - i0;omega,?_⟩
     ((conv=>arg 1;reduce);with_reducible repeat' first | exact ty | refine ta ?_ ?_ | refine ti fun _ => ?_ | refine tf fun _ => ?_ | refine tl ?_)
     all_goals first | exact vlf | (show tI F P (i+1) 0 ++ sq=tI F P i P.length ++ sq;rw [tI_next]) | (show (rtL F P i).length=(rtL F P (i+1)).length;rw [rr]) | (show (rtL F P (i+1)).length=(rtL F P i).length;rw [rr]) | (show (i0:Int)+1=((i+1:Nat):Int);omega) | (show (i:Int)+1=((i+1:Nat):Int);omega)))
 all_goals try (
  rename_i g1 g2 yy hyy g3 g4 sp hsp x hx d1 z hz e1 e2 d2 d3 g5
  change Nat×List Int at x
  obtain ⟨i0,sq0⟩:=x
  obtain ⟨k1,k2,k3⟩:i0≤(max 0 k).toNat∧rtL F P i0=[]∧(P.length=0→sq0.length=0):=hx
  change Nat×Nat×List Int at z
  obtain ⟨i,j,sq⟩:=z
  obtain ⟨m1,m2,m3,m4⟩:i<(max 0 k).toNat∧j≤P.length∧rtL F P i=[]∧(P.length=0→sq.length=0):=hz
  have e1:(i0:Int)=(i:Int):=e1
  have r1:=rtL_len (F:=F) (P:=P) (i:=i)
  first
  | exact ⟨zw 1,by rw [by3];omega⟩
  | exact ⟨m3.cap,by have h9:yc≤yl.length:=m3.len;show 0+yc≤yl.length;omega,zw 1,by rw [by3];show ((rtL F P i).length+1)*8≤_;omega⟩)
 all_goals try (
  rename_i g1 g2 yy hyy g3 g4 sp hsp x hx d1 z hz e1 e2 d2 d3 g5 g6 s2 hs2
  change Nat×List Int at x
  obtain ⟨i0,sq0⟩:=x
  obtain ⟨k1,k2,k3⟩:i0≤(max 0 k).toNat∧rtL F P i0=[]∧(P.length=0→sq0.length=0):=hx
  change Nat×Nat×List Int at z
  obtain ⟨i,j,sq⟩:=z
  obtain ⟨m1,m2,m3,m4⟩:i<(max 0 k).toNat∧j≤P.length∧rtL F P i=[]∧(P.length=0→sq.length=0):=hz
  have e1:(i0:Int)=(i:Int):=e1
  have d2:¬ (j:Int)<(n:Int):=nf d2
  have d3:yS F P i j=0:=ng d3
  change List Int at s2
  obtain rfl:j=P.length:=by omega
  first
  | exact inR64 (n:=(i:Int)+1) (by omega) (by omega)
  | (have rr:=rtL_yes d3
     refine Stands.next (Stands.one ((i+1,sq,(true,g6,0,(i:Int) :: s2,1+s2.length)):Nat×List Int×Oq) ⟨⟨by show i+1≤(max 0 k).toNat;omega,⟨by rw [rr,m3];rfl,by rw [rr,m3];show 1≤1+s2.length;omega,by show 1+s2.length≤((i:Int) :: s2).length;rw [List.length_cons];omega,fun h=>by cases h⟩,m4,by show rtL F P (i+1)≠[];rw [rr];simp⟩,by show (max 0 k).toNat - (i+1)<(max 0 k).toNat - i0;omega,?_⟩)
     ((conv=>arg 1;reduce);with_reducible repeat' first | exact ty | refine ta ?_ ?_ | refine ti fun _ => ?_ | refine tf fun _ => ?_ | refine tl ?_)
     all_goals first | exact vlf | (show tI F P (i+1) 0 ++ sq=tI F P i P.length ++ sq;rw [tI_next]) | (show (rtL F P (i+1)).length=1;rw [rr,m3];rfl) | (show (rtL F P (i+1)).length=(rtL F P i).length+1;rw [rr,zx];rfl) | (show (i0:Int)+1=((i+1:Nat):Int);omega) | (show (i:Int)+1=((i+1:Nat):Int);omega) | rfl))
 all_goals try (
  rename_i g1 g2 yy hyy g3 g4 sp hsp x hx d1
  change Nat×List Int at x
  obtain ⟨i0,sq0⟩:=x
  obtain ⟨k1,k2,k3⟩:i0≤(max 0 k).toNat∧rtL F P i0=[]∧(P.length=0→sq0.length=0):=hx
  have d1:¬ (i0:Int)<max 0 k:=nf d1
  have ei:i0=(max 0 k).toNat:=by omega
  refine Ends.one ((false,0,0,[],0):Oq) (by show Oqw (rtL F P (max 0 k).toNat) _;rw [← ei,k2];exact ⟨rfl,zw _,zw _,fun _=>⟨rfl,rfl⟩⟩) ?_
  ((conv=>arg 1;reduce);with_reducible repeat' first | exact ty | refine ta ?_ ?_ | refine ti fun _ => ?_ | refine tf fun _ => ?_ | refine tl ?_)
  all_goals first | exact vlf | (rw [← ei,k2];rfl) | (rw [← ei]))
 all_goals try (
  rename_i g1 g2 yy hyy g3 g4 sp hsp x hx d1
  change Nat×List Int×Oq at x
  obtain ⟨i0,sq0,yo0,yb0,yq0,yl0,yc0⟩:=x
  obtain ⟨k1,k2,k3,k4⟩:i0≤(max 0 k).toNat∧Oqw (rtL F P i0) (true,yb0,yq0,yl0,yc0)∧(P.length=0→sq0.length=0)∧rtL F P i0≠[]:=hx
  have d1:(i0:Int)<max 0 k:=ng d1
  refine Stands.next (Stands.one ((i0,0,sq0,(true,yb0,yq0,yl0,yc0)):Nat×Nat×List Int×Oq) ⟨⟨by show i0<(max 0 k).toNat;omega,zg _,k2,k3,k4⟩,?_⟩)
  ((conv=>arg 1;reduce);with_reducible repeat' first | exact ty | refine ta ?_ ?_ | refine ti fun _ => ?_ | refine tf fun _ => ?_ | refine tl ?_)
  all_goals first | exact vlf | exact yS_zero.symm)
 all_goals try (
  rename_i g1 g2 yy hyy g3 g4 sp hsp x hx d1 z hz e1 e2 d2
  change Nat×List Int×Oq at x
  obtain ⟨i0,sq0,yo0,yb0,yq0,yl0,yc0⟩:=x
  obtain ⟨k1,k2,k3,k4⟩:i0≤(max 0 k).toNat∧Oqw (rtL F P i0) (true,yb0,yq0,yl0,yc0)∧(P.length=0→sq0.length=0)∧rtL F P i0≠[]:=hx
  change Nat×Nat×List Int×Oq at z
  obtain ⟨i,j,sq,yo,yb,yq,yl,yc⟩:=z
  obtain ⟨m1,m2,m3,m4,m5⟩:i<(max 0 k).toNat∧j≤P.length∧Oqw (rtL F P i) (true,yb,yq,yl,yc)∧(P.length=0→sq.length=0)∧rtL F P i≠[]:=hz
  have e1:(i0:Int)=(i:Int):=e1
  have d2:(j:Int)<(n:Int):=ng d2
  first
  | exact blt_on (by omega)
  | exact d2
  | (show (j:Int).toNat+0<(tI F P i j ++ sq).length;rw [zx,lI];omega)
  | exact inR64 (n:=0 - (j:Int)) (by omega) (by omega)
  | exact inR64 (n:=(j:Int)+1) (by omega) (by omega)
  | (show -4611686018427387904≤0 - (j:Int)∧0 - (j:Int)≤4611686018427387904;omega)
  | (refine Stands.next (Stands.one ((i,j+1,sq,(true,yb,yq,yl,yc)):Nat×Nat×List Int×Oq) ⟨⟨m1,by show j+1≤P.length;omega,m3,m4,m5⟩,by show P.length - (j+1)<P.length - j;omega,?_⟩)
     ((conv=>arg 1;reduce);with_reducible repeat' first | exact ty | refine ta ?_ ?_ | refine ti fun _ => ?_ | refine tf fun _ => ?_ | refine tl ?_)
     all_goals first
      | exact vlf
      | (show ibit .xor .i64 (yS F P i j) ((tI F P i j ++ sq).getD ((j:Int).toNat+0) 0)=yS F P i (j+1)
         rw [zu,za j,tI_at (P:=P) (j:=j) (by omega),yS_succ])
      | (show tI F P i (j+1) ++ sq=(tI F P i j ++ sq).set ((j:Int).toNat+0) (muI F ((tI F P i j ++ sq).getD ((j:Int).toNat+0) 0) (vi (exF F (0 - (j:Int)))))
         rw [zu,za j,tI_at (P:=P) (j:=j) (by omega),Int.zero_sub,tI_set (P:=P) (j:=j) (by omega)])))
 all_goals try (
  rename_i g1 g2 yy hyy g3 g4 sp hsp x hx d1 z hz e1 e2 d2 d3
  change Nat×List Int×Oq at x
  obtain ⟨i0,sq0,yo0,yb0,yq0,yl0,yc0⟩:=x
  obtain ⟨k1,k2,k3,k4⟩:i0≤(max 0 k).toNat∧Oqw (rtL F P i0) (true,yb0,yq0,yl0,yc0)∧(P.length=0→sq0.length=0)∧rtL F P i0≠[]:=hx
  change Nat×Nat×List Int×Oq at z
  obtain ⟨i,j,sq,yo,yb,yq,yl,yc⟩:=z
  obtain ⟨m1,m2,m3,m4,m5⟩:i<(max 0 k).toNat∧j≤P.length∧Oqw (rtL F P i) (true,yb,yq,yl,yc)∧(P.length=0→sq.length=0)∧rtL F P i≠[]:=hz
  have e1:(i0:Int)=(i:Int):=e1
  have d2:¬ (j:Int)<(n:Int):=nf d2
  have d3:¬ yS F P i j=0:=nf d3
  obtain rfl:j=P.length:=by omega
  first
  | exact inR64 (n:=(i:Int)+1) (by omega) (by omega)
  | (have rr:=rtL_no d3
     refine Stands.next (Stands.one ((i+1,sq,(true,yb,yq,yl,yc)):Nat×List Int×Oq) ⟨⟨by show i+1≤(max 0 k).toNat;omega,(show Oqw (rtL F P (i+1)) (true,yb,yq,yl,yc) by rw [rr];exact m3),m4,(show rtL F P (i+1)≠[] by rw [rr];exact m5)⟩,by show (max 0 k).toNat - (i+1)<(max 0 k).toNat - i0;omega,?_⟩)
     ((conv=>arg 1;reduce);with_reducible repeat' first | exact ty | refine ta ?_ ?_ | refine ti fun _ => ?_ | refine tf fun _ => ?_ | refine tl ?_)
     all_goals first | exact vlf | (show tI F P (i+1) 0 ++ sq=tI F P i P.length ++ sq;rw [tI_next]) | (show (rtL F P i).length=(rtL F P (i+1)).length;rw [rr]) | (show (rtL F P (i+1)).length=(rtL F P i).length;rw [rr]) | (show (i0:Int)+1=((i+1:Nat):Int);omega) | (show (i:Int)+1=((i+1:Nat):Int);omega)))
 all_goals try (
  rename_i g1 g2 yy hyy g3 g4 sp hsp x hx d1 z hz e1 e2 d2 d3 g5
  change Nat×List Int×Oq at x
  obtain ⟨i0,sq0,yo0,yb0,yq0,yl0,yc0⟩:=x
  obtain ⟨k1,k2,k3,k4⟩:i0≤(max 0 k).toNat∧Oqw (rtL F P i0) (true,yb0,yq0,yl0,yc0)∧(P.length=0→sq0.length=0)∧rtL F P i0≠[]:=hx
  change Nat×Nat×List Int×Oq at z
  obtain ⟨i,j,sq,yo,yb,yq,yl,yc⟩:=z
  obtain ⟨m1,m2,m3,m4,m5⟩:i<(max 0 k).toNat∧j≤P.length∧Oqw (rtL F P i) (true,yb,yq,yl,yc)∧(P.length=0→sq.length=0)∧rtL F P i≠[]:=hz
  have e1:(i0:Int)=(i:Int):=e1
  have r1:=rtL_len (F:=F) (P:=P) (i:=i)
  first
  | exact ⟨zw 1,by rw [by3];omega⟩
  | exact ⟨m3.cap,by have h9:yc≤yl.length:=m3.len;show 0+yc≤yl.length;omega,zw 1,by rw [by3];show ((rtL F P i).length+1)*8≤_;omega⟩)
 all_goals try (
  rename_i g1 g2 yy hyy g3 g4 sp hsp x hx d1 z hz e1 e2 d2 d3 g5 g6 g7 s2 c2 h1 h2
  change Nat×List Int×Oq at x
  obtain ⟨i0,sq0,yo0,yb0,yq0,yl0,yc0⟩:=x
  obtain ⟨k1,k2,k3,k4⟩:i0≤(max 0 k).toNat∧Oqw (rtL F P i0) (true,yb0,yq0,yl0,yc0)∧(P.length=0→sq0.length=0)∧rtL F P i0≠[]:=hx
  change Nat×Nat×List Int×Oq at z
  obtain ⟨i,j,sq,yo,yb,yq,yl,yc⟩:=z
  obtain ⟨m1,m2,m3,m4,m5⟩:i<(max 0 k).toNat∧j≤P.length∧Oqw (rtL F P i) (true,yb,yq,yl,yc)∧(P.length=0→sq.length=0)∧rtL F P i≠[]:=hz
  have e1:(i0:Int)=(i:Int):=e1
  have d2:¬ (j:Int)<(n:Int):=nf d2
  have d3:yS F P i j=0:=ng d3
  change List Int at s2
  obtain rfl:j=P.length:=by omega
  first
  | exact inR64 (n:=(i:Int)+1) (by omega) (by omega)
  | (have rr:=rtL_yes d3
     refine Stands.next (Stands.one ((i+1,sq,(true,g6,g7,yl.take (rtL F P i).length ++ [(i:Int)] ++ s2,c2)):Nat×List Int×Oq) ⟨⟨by show i+1≤(max 0 k).toNat;omega,⟨by rw [rr,zx];show (yl.take (rtL F P i).length ++ [(i:Int)] ++ s2).take ((rtL F P i).length+1)=_;rw [m3.eq,vj (by simp)],by rw [rr,zx];exact h1,by rw [zx,zx,m3.eq];exact h2,fun h=>by cases h⟩,m4,by show rtL F P (i+1)≠[];rw [rr];simp⟩,by show (max 0 k).toNat - (i+1)<(max 0 k).toNat - i0;omega,?_⟩)
     ((conv=>arg 1;reduce);with_reducible repeat' first | exact ty | refine ta ?_ ?_ | refine ti fun _ => ?_ | refine tf fun _ => ?_ | refine tl ?_)
     all_goals first | exact vlf | (show tI F P (i+1) 0 ++ sq=tI F P i P.length ++ sq;rw [tI_next]) | (show (rtL F P (i+1)).length=1;rw [rr,m3];rfl) | (show (rtL F P (i+1)).length=(rtL F P i).length+1;rw [rr,zx];rfl) | (show (i0:Int)+1=((i+1:Nat):Int);omega) | (show (i:Int)+1=((i+1:Nat):Int);omega) | rfl))
 all_goals try (
  rename_i g1 g2 yy hyy g3 g4 sp hsp x hx d1
  change Nat×List Int×Oq at x
  obtain ⟨i0,sq0,yo0,yb0,yq0,yl0,yc0⟩:=x
  obtain ⟨k1,k2,k3,k4⟩:i0≤(max 0 k).toNat∧Oqw (rtL F P i0) (true,yb0,yq0,yl0,yc0)∧(P.length=0→sq0.length=0)∧rtL F P i0≠[]:=hx
  have d1:¬ (i0:Int)<max 0 k:=nf d1
  have ei:i0=(max 0 k).toNat:=by omega
  refine Ends.one ((true,yb0,yq0,yl0,yc0):Oq) (by show Oqw (rtL F P (max 0 k).toNat) _;rw [← ei];exact k2) ?_
  ((conv=>arg 1;reduce);with_reducible repeat' first | exact ty | refine ta ?_ ?_ | refine ti fun _ => ?_ | refine tf fun _ => ?_ | refine tl ?_)
  all_goals first | exact vlf | (rw [← ei,k2];rfl) | (rw [← ei]))
end
end
end Go.Vx
namespace Go.Vx
open Go Go.Proofs
noncomputable section
variable [Gl]
section
variable (F:Gf)
def fcRoots:Fc Tryz.prog C0 where
 tg:=.fn 91
 X:=(Nat×Nat×Nat×Nat×Nat×Nat)×Sl3×Int
 args:=fun (_,(o,b,q,l,i,n,c),k)=>[.agg [.ptr 0 0 0,.sl 3 i n c,.int .i64 k],.fn (.func 92) [] []]
 mem:=fun ((bF,qF,be,qe,bl,ql),(o,b,q,l,i,n,c),k)=>[fld F bF qF,xCk F be qe,lCk F bl ql,⟨b,q,1,false,some o,.rows 3 l⟩]
 pre:=fun (_,(o,b,q,l,i,n,c),k)=>Sl3.pre (o,b,q,l,i,n,c)∧k<1000000000∧vis (els F ((l.drop i).take n))=(l.drop i).take n
 alts:=fun ((bF,qF,be,qe,bl,ql),(o,b,q,l,i,n,c),k)=>[⟨Oq,fun y=>Oqw (rtL F ((l.drop i).take n) (max 0 k).toNat) y,fun y=>.sl 4 0 (rtL F ((l.drop i).take n) (max 0 k).toNat).length y.2.2.2.2,fun y=>[fld F bF qF,xCk F be qe,lCk F bl ql,⟨b,q,1,false,some o,.rows 3 l⟩,oqC true y]⟩]
 mat vs m:=match vs with
  | [.agg [.ptr f _ _,.sl s i n c,.int _ k],_]=>match nth m f with
    | ⟨bF,qF,_,_,_,.one (_ :: _ :: .sl x _ _ _ :: .sl g _ _ _ :: _)⟩=>match nth m x,nth m g,nth m s with
      | ⟨be,qe,_,_,_,_⟩,⟨bl,ql,_,_,_,_⟩,⟨b,q,_,_,o,.rows 3 l⟩=>some (((bF,qF,be,qe,bl,ql),(onOf o,b,q,l,i,n,c),k),[f,x,g,s])
      | _,_,_=>none
    | _=>none
  | _=>none
 ok:=fun ((bF,qF,be,qe,bl,ql),(o,b,q,l,i,n,c),k) h=>roots_ok F bF qF be qe bl ql o b q l i n c h.1.1 h.1.2.1 h.1.2.2 k h.2.1 _ rfl h.2.2
@[irreducible] def srL (P:List Int) (k:Int):List Int:=rtL F (trL F P) (max 0 (min k ((szF F:Int) - 1))).toNat
theorem trL_vis (P:List Int):vis (els F (trL F P))=trL F P:=by
 unfold trL
 rw [els_vis]
theorem trL_le (P:List Int):(trL F P).length≤P.length:=by
 rw [trL_len];exact trN_le
theorem search_ok (bF qF be qe bl ql:Nat) (o:Bool) (b q:Nat) (l:List Int) (i n c:Nat) (h:i+n≤l.length) (hn:n<1000000000) (hc:n≤c) (ho:o=false→n=0∧c=0) (k:Int):
 Does (C:=C0) Tryz.prog (.fn 62) [fld F bF qF,xCk F be qe,lCk F bl ql,⟨b,q,1,false,some o,.rows 3 l⟩] [.ptr 0 0 0,.sl 3 i n c,.int .i64 k]
  [⟨Oq,fun y=>Oqw (srL F ((l.drop i).take (min n 2048)) k) y,fun y=>.sl 4 0 (srL F ((l.drop i).take (min n 2048)) k).length y.2.2.2.2,fun y=>[fld F bF qF,xCk F be qe,lCk F bl ql,⟨b,q,1,false,some o,.rows 3 l⟩,oqC true y]⟩]:=by
 refine loc_fn (P:=Tryz.prog) (E:=⟨[fcBegun F,fcRoots F],[],12,[],[],[],none⟩) (L:=[]) mix Tryz.func62 rfl (by kernel_rfl) (by kernel_rfl) rfl rfl ?_
 ((conv=>arg 1;reduce);with_reducible repeat' first | exact ty | refine ta ?_ ?_ | refine ti fun _ => ?_ | refine tf fun _ => ?_ | refine tl ?_)
 all_goals try exact vlf
 · exact ⟨⟨h,hn,ho⟩,hc⟩
 · rename_i y hy
   obtain ⟨yo,yb,yl,yc⟩:=y
   have hy:Ow (trL F ((l.drop i).take (min n 2048))) (yo,yb,yl,yc):=hy
   have h1:(trL F ((l.drop i).take (min n 2048))).length≤yc:=hy.cap
   have h2:yc≤yl.length:=hy.len
   have h3:=trL_le F ((l.drop i).take (min n 2048))
   rw [row_len (show i+min n 2048≤l.length by omega)] at h3
   have h4:yl.take (trL F ((l.drop i).take (min n 2048))).length=trL F ((l.drop i).take (min n 2048)):=hy.eq
   obtain ⟨hs,h7,hh⟩:=nF_sz F
   refine ⟨⟨by show 0+(trL F ((l.drop i).take (min n 2048))).length≤yl.length;omega,by show (trL F ((l.drop i).take (min n 2048))).length<1000000000;omega,hy.nil⟩,by show min k ((szF F:Int) - 1)<1000000000;omega,?_⟩
   show vis (els F ((yl.drop 0).take (trL F ((l.drop i).take (min n 2048))).length))=(yl.drop 0).take (trL F ((l.drop i).take (min n 2048))).length
   rw [zm,h4,trL_vis]
 · rename_i y hy z hz
   obtain ⟨yo,yb,yl,yc⟩:=y
   have hy:Ow (trL F ((l.drop i).take (min n 2048))) (yo,yb,yl,yc):=hy
   have h4:yl.take (trL F ((l.drop i).take (min n 2048))).length=trL F ((l.drop i).take (min n 2048)):=hy.eq
   have hz:Oqw (rtL F ((yl.drop 0).take (trL F ((l.drop i).take (min n 2048))).length) (max 0 (min k ((szF F:Int) - 1))).toNat) z:=hz
   have e:rtL F ((yl.drop 0).take (trL F ((l.drop i).take (min n 2048))).length) (max 0 (min k ((szF F:Int) - 1))).toNat=srL F ((l.drop i).take (min n 2048)) k:=by
    rw [zm,h4];unfold srL;rfl
   rw [e] at hz
   refine Ends.one z hz ?_
   ((conv=>arg 1;reduce);with_reducible repeat' first | exact ty | refine ta ?_ ?_ | refine ti fun _ => ?_ | refine tf fun _ => ?_ | refine tl ?_)
   all_goals first | exact vlf | exact congrArg wi e | exact (congrArg wi e).symm
def fcSearch:Fc Tryz.prog C0 where
 tg:=.fn 62
 X:=(Nat×Nat×Nat×Nat×Nat×Nat)×Sl3×Int
 args:=fun (_,(o,b,q,l,i,n,c),k)=>[.ptr 0 0 0,.sl 3 i n c,.int .i64 k]
 mem:=fun ((bF,qF,be,qe,bl,ql),(o,b,q,l,i,n,c),k)=>[fld F bF qF,xCk F be qe,lCk F bl ql,⟨b,q,1,false,some o,.rows 3 l⟩]
 pre:=fun (_,x,k)=>Sl3.pre x∧x.2.2.2.2.2.1≤x.2.2.2.2.2.2
 alts:=fun ((bF,qF,be,qe,bl,ql),(o,b,q,l,i,n,c),k)=>[⟨Oq,fun y=>Oqw (srL F ((l.drop i).take (min n 2048)) k) y,fun y=>.sl 4 0 (srL F ((l.drop i).take (min n 2048)) k).length y.2.2.2.2,fun y=>[fld F bF qF,xCk F be qe,lCk F bl ql,⟨b,q,1,false,some o,.rows 3 l⟩,oqC true y]⟩]
 mat vs m:=match vs with
  | [.ptr f _ _,.sl s i n c,.int _ k]=>match nth m f with
    | ⟨bF,qF,_,_,_,.one (_ :: _ :: .sl x _ _ _ :: .sl g _ _ _ :: _)⟩=>match nth m x,nth m g,nth m s with
      | ⟨be,qe,_,_,_,_⟩,⟨bl,ql,_,_,_,_⟩,⟨b,q,_,_,o,.rows 3 l⟩=>some (((bF,qF,be,qe,bl,ql),(onOf o,b,q,l,i,n,c),k),[f,x,g,s])
      | _,_,_=>none
    | _=>none
  | _=>none
 ok:=fun ((bF,qF,be,qe,bl,ql),(o,b,q,l,i,n,c),k) h=>search_ok F bF qF be qe bl ql o b q l i n c h.1.1 h.1.2.1 h.2 h.1.2.2 k
end
end
end Go.Vx
namespace Go.Vx
open Go Go.Proofs
noncomputable section
variable [Gl]
section
@[irreducible] def clnB (P:List Int):Bool:=P.all fun x=>decide (x=0)
theorem clnB_iff {P:List Int}:clnB P=true↔∀ x∈P,x=0:=by unfold clnB;simp
theorem clnB_yes {P:List Int} (h:∀ a,a<P.length→P.getD a 0=0):clnB P=true:=by
 refine clnB_iff.2 fun x hx => ?_
 obtain ⟨a,ha,rfl⟩:=List.mem_iff_getElem.1 hx
 have:=h a ha
 rwa [zy,zt ha] at this
theorem clnB_no {P:List Int} {a:Nat} (ha:a<P.length) (h:P.getD a 0≠0):clnB P=false:=by
 refine Bool.eq_false_iff.2 fun e=>h ?_
 rw [zy,zt ha]
 exact clnB_iff.1 e _ (List.getElem_mem ha)
def Cl2 (P:List Int):Inv' C0:=⟨2,Nat,fun i=>[(7,.int .i64 (i:Int))],fun i m=>m,fun i=>i≤P.length∧∀ j,j<i→P.getD j 0=0,fun i=>P.length - i⟩
theorem clean_ok (o:Bool) (b q:Nat) (l:List Int) (i n c:Nat) (h:i+n≤l.length) (hn:n<1000000000) (ho:o=false→n=0∧c=0) (P:List Int) (hP:(l.drop i).take n=P):
 Tells (C:=C0) Tryz.prog (.fn 58) [⟨b,q,1,false,some o,.rows 3 l⟩] [.sl 0 i n c] (.bool (SB.tm (clnB P))):=by
 have hL:P.length=n:=by rw [← hP];exact row_len h
 have pv:∀ j,j<n→l.getD (j+i) 0=P.getD j 0:=by rw [← hP];exact row_at
 refine loc_pc (P:=Tryz.prog) (E:=⟨[],[],14,[],[],[],none⟩) (L:=[Cl2 P]) mix Tryz.func58 rfl (by kernel_rfl) (by kernel_rfl) rfl rfl ?_
 ((conv=>arg 1;reduce);with_reducible repeat' first | exact ty | refine ta ?_ ?_ | refine ti fun _ => ?_ | refine tf fun _ => ?_ | refine tl ?_)
 all_goals try exact vlf
 · refine Stands.one (0:Nat) ⟨⟨zg _,fun j hj=>absurd hj (xi j)⟩,?_⟩
   exact vgo
 all_goals try (
  rename_i j hj d
  change Nat at j
  obtain ⟨k1,k2⟩:j≤P.length∧∀ a,a<j→P.getD a 0=0:=hj
  have d:(j:Int)<(n:Int):=ng d
  first
  | exact on_of ho (by omega)
  | exact d
  | (show (j:Int).toNat+i<l.length;omega))
 all_goals try (
  rename_i j hj d e
  change Nat at j
  obtain ⟨k1,k2⟩:j≤P.length∧∀ a,a<j→P.getD a 0=0:=hj
  have d:(j:Int)<(n:Int):=ng d
  first
  | exact inR64 (n:=(j:Int)+1) (by omega) (by omega)
  | (have e:l.getD ((j:Int).toNat+i) 0≠0:=ng e
     rw [zu,pv j (by omega)] at e
     exact (clnB_no (by omega) e).symm)
  | (have e:¬ l.getD ((j:Int).toNat+i) 0≠0:=nf e
     rw [zu,pv j (by omega)] at e
     have e:=Classical.not_not.1 e
     refine Stands.one (j+1:Nat) ⟨⟨by show j+1≤P.length;omega,fun a ha => ?_⟩,by show P.length - (j+1)<P.length - j;omega,?_⟩
     · by_cases h9:a=j
       · rw [h9];exact e
       · exact k2 a (by omega)
     exact vgo))
 · rename_i j hj d
   change Nat at j
   obtain ⟨k1,k2⟩:j≤P.length∧∀ a,a<j→P.getD a 0=0:=hj
   have d:¬ (j:Int)<(n:Int):=nf d
   exact (clnB_yes fun a ha=>k2 a (by omega)).symm
def pcClean:Pc Tryz.prog C0 where
 tg:=.fn 58
 X:=Sl3
 args:=fun (o,b,q,l,i,n,c)=>[.sl 0 i n c]
 mem:=fun (o,b,q,l,i,n,c)=>[⟨b,q,1,false,some o,.rows 3 l⟩]
 pre:=Sl3.pre
 res:=fun (o,b,q,l,i,n,c)=>.bool (SB.tm (clnB ((l.drop i).take n)))
 mat vs m:=match vs with
  | [.sl s i n c]=>match nth m s with
    | ⟨b,q,_,_,g,.rows 3 l⟩=>some ((onOf g,b,q,l,i,n,c),[s])
    | _=>none
  | _=>none
 ok:=fun (o,b,q,l,i,n,c) h=>clean_ok o b q l i n c h.1 h.2.1 h.2.2 _ rfl
end
end
end Go.Vx
namespace Go.Vx
open Go Go.Proofs
noncomputable section
variable [Gl]
theorem coT_ok (b q:Nat) (v:Int):Tells (C:=C0) Tryz.prog (.fn 61) [⟨b,q,263,false,none,.one [.junk,.int .i64 v]⟩] [.ptr 0 0 0] (.int .i64 v):=by
 refine loc_pc (P:=Tryz.prog) (E:=⟨[],[],7,[],[],[],none⟩) (L:=[]) mix Tryz.func61 rfl (by kernel_rfl) (by kernel_rfl) rfl rfl ?_
 exact vgo
def pcCoT:Pc Tryz.prog C0 where
 tg:=.fn 61
 X:=Nat×Nat×Int
 args _:=[.ptr 0 0 0]
 mem:=fun (b,q,v)=>[⟨b,q,263,false,none,.one [.junk,.int .i64 v]⟩]
 pre _:=True
 res:=fun (b,q,v)=>.int .i64 v
 mat vs m:=match vs with
  | [.ptr c _ _]=>match nth m c with
    | ⟨b,q,_,_,_,.one (_ :: .int _ v :: _)⟩=>some ((b,q,v),[c])
    | _=>none
  | _=>none
 ok:=fun (b,q,v) _=>coT_ok b q v
theorem coData_ok (b q:Nat) (v:Int):Tells (C:=C0) Tryz.prog (.fn 31) [⟨b,q,263,false,none,.one [.junk,.junk,.int .i64 v]⟩] [.ptr 0 0 0] (.int .i64 v):=by
 refine loc_pc (P:=Tryz.prog) (E:=⟨[],[],7,[],[],[],none⟩) (L:=[]) mix Tryz.func31 rfl (by kernel_rfl) (by kernel_rfl) rfl rfl ?_
 exact vgo
def pcCoData:Pc Tryz.prog C0 where
 tg:=.fn 31
 X:=Nat×Nat×Int
 args _:=[.ptr 0 0 0]
 mem:=fun (b,q,v)=>[⟨b,q,263,false,none,.one [.junk,.junk,.int .i64 v]⟩]
 pre _:=True
 res:=fun (b,q,v)=>.int .i64 v
 mat vs m:=match vs with
  | [.ptr c _ _]=>match nth m c with
    | ⟨b,q,_,_,_,.one (_ :: _ :: .int _ v :: _)⟩=>some ((b,q,v),[c])
    | _=>none
  | _=>none
 ok:=fun (b,q,v) _=>coData_ok b q v
theorem coDegree_ok (b q:Nat) (v:Int):Tells (C:=C0) Tryz.prog (.fn 33) [⟨b,q,263,false,none,.one [.junk,.junk,.junk,.int .i64 v]⟩] [.ptr 0 0 0] (.int .i64 v):=by
 refine loc_pc (P:=Tryz.prog) (E:=⟨[],[],7,[],[],[],none⟩) (L:=[]) mix Tryz.func33 rfl (by kernel_rfl) (by kernel_rfl) rfl rfl ?_
 exact vgo
def pcCoDegree:Pc Tryz.prog C0 where
 tg:=.fn 33
 X:=Nat×Nat×Int
 args _:=[.ptr 0 0 0]
 mem:=fun (b,q,v)=>[⟨b,q,263,false,none,.one [.junk,.junk,.junk,.int .i64 v]⟩]
 pre _:=True
 res:=fun (b,q,v)=>.int .i64 v
 mat vs m:=match vs with
  | [.ptr c _ _]=>match nth m c with
    | ⟨b,q,_,_,_,.one (_ :: _ :: _ :: .int _ v :: _)⟩=>some ((b,q,v),[c])
    | _=>none
  | _=>none
 ok:=fun (b,q,v) _=>coDegree_ok b q v
theorem coParity_ok (b q:Nat) (v:Int):Tells (C:=C0) Tryz.prog (.fn 32) [⟨b,q,263,false,none,.one [.junk,.junk,.junk,.junk,.int .i64 v]⟩] [.ptr 0 0 0] (.int .i64 v):=by
 refine loc_pc (P:=Tryz.prog) (E:=⟨[],[],7,[],[],[],none⟩) (L:=[]) mix Tryz.func32 rfl (by kernel_rfl) (by kernel_rfl) rfl rfl ?_
 exact vgo
def pcCoParity:Pc Tryz.prog C0 where
 tg:=.fn 32
 X:=Nat×Nat×Int
 args _:=[.ptr 0 0 0]
 mem:=fun (b,q,v)=>[⟨b,q,263,false,none,.one [.junk,.junk,.junk,.junk,.int .i64 v]⟩]
 pre _:=True
 res:=fun (b,q,v)=>.int .i64 v
 mat vs m:=match vs with
  | [.ptr c _ _]=>match nth m c with
    | ⟨b,q,_,_,_,.one (_ :: _ :: _ :: _ :: .int _ v :: _)⟩=>some ((b,q,v),[c])
    | _=>none
  | _=>none
 ok:=fun (b,q,v) _=>coParity_ok b q v
theorem coBits_ok (b q:Nat) (v w:Int) (h1:0≤v) (h2:v<1000000000) (h3:0≤w) (h4:w<1000000000):Tells (C:=C0) Tryz.prog (.fn 49) [⟨b,q,263,false,none,.one [.junk,.junk,.int .i64 v,.int .i64 w]⟩] [.ptr 0 0 0] (.int .i64 (8*v+w)):=by
 refine loc_pc (P:=Tryz.prog) (E:=⟨[],[],13,[],[],[],none⟩) (L:=[]) mix Tryz.func49 rfl (by kernel_rfl) (by kernel_rfl) rfl rfl ?_
 ((conv=>arg 1;reduce);with_reducible repeat' first | exact ty | refine ta ?_ ?_ | refine ti fun _ => ?_ | refine tf fun _ => ?_ | refine tl ?_)
 all_goals try exact vlf
 all_goals first | exact inR64 (n:=8*v) (by omega) (by omega) | exact inR64 (n:=8*v+w) (by omega) (by omega)
def pcCoBits:Pc Tryz.prog C0 where
 tg:=.fn 49
 X:=Nat×Nat×Int×Int
 args _:=[.ptr 0 0 0]
 mem:=fun (b,q,v,w)=>[⟨b,q,263,false,none,.one [.junk,.junk,.int .i64 v,.int .i64 w]⟩]
 pre:=fun (b,q,v,w)=>0≤v∧v<1000000000∧0≤w∧w<1000000000
 res:=fun (b,q,v,w)=>.int .i64 (8*v+w)
 mat vs m:=match vs with
  | [.ptr c _ _]=>match nth m c with
    | ⟨b,q,_,_,_,.one (_ :: _ :: .int _ v :: .int _ w :: _)⟩=>some ((b,q,v,w),[c])
    | _=>none
  | _=>none
 ok:=fun (b,q,v,w) h=>coBits_ok b q v w h.1 h.2.1 h.2.2.1 h.2.2.2
theorem coField_ok (b q bF qF:Nat):Tells (C:=C0) Tryz.prog (.fn 60) [⟨b,q,263,false,none,.one [.ptr 1 0 0]⟩,⟨bF,qF,4,false,none,.one []⟩] [.ptr 0 0 0] (.ptr 1 0 0):=by
 refine loc_pc (P:=Tryz.prog) (E:=⟨[],[],7,[],[],[],none⟩) (L:=[]) mix Tryz.func60 rfl (by kernel_rfl) (by kernel_rfl) rfl rfl ?_
 exact vgo
def pcCoField:Pc Tryz.prog C0 where
 tg:=.fn 60
 X:=Nat×Nat×Nat×Nat
 args _:=[.ptr 0 0 0]
 mem:=fun (b,q,bF,qF)=>[⟨b,q,263,false,none,.one [.ptr 1 0 0]⟩,⟨bF,qF,4,false,none,.one []⟩]
 pre _:=True
 res _:=.ptr 1 0 0
 mat vs m:=match vs with
  | [.ptr c _ _]=>match nth m c with
    | ⟨b,q,_,_,_,.one (.ptr f _ _ :: _)⟩=>match nth m f with
      | ⟨bF,qF,_,_,_,_⟩=>some ((b,q,bF,qF),[c,f])
    | _=>none
  | _=>none
 ok:=fun (b,q,bF,qF) _=>coField_ok b q bF qF
end
end Go.Vx
namespace Go.Vx
open Go Go.Proofs
noncomputable section
variable [Gl]
section
variable (F:Gf)
def sS (A:List Int) (a i:Nat):El F:=Fd.su (A.take a) fun p=>Fd.pw (exF F p) (i+1)
@[irreducible] def sI (A:List Int) (T a j:Nat):List Int:=(xq T).map fun i=>if i<j then vi (sS F A (a+1) i) else vi (sS F A a i)
@[irreducible] def svL (A:List Int) (T:Nat):List Int:=(xq T).map fun i=>vi (Fd.su A fun p=>Fd.pw (exF F p) (i+1))
@[irreducible] def xI (A:List Int) (a j:Nat):Int:=vi (Fd.pw (exF F (A.getD a 0)) j)
variable {F}
theorem sI_len {A:List Int} {T a j:Nat}:(sI F A T a j).length=T:=by unfold sI;simp
theorem sI_zero {A:List Int} {T:Nat}:zo T (0:Int)=sI F A T 0 0:=by
 unfold sI
 refine wv (by simp) fun i h1 h2 => ?_
 simp only [oz,th,sj,xi,if_false]
 rfl
theorem sI_next {A:List Int} {T a:Nat}:sI F A T a T=sI F A T (a+1) 0:=by
 unfold sI
 refine xm fun k hk => ?_
 rw [if_pos (List.mem_range.1 hk),if_neg (xi k)]
theorem sI_end {A:List Int} {T:Nat}:sI F A T A.length 0=svL F A T:=by
 unfold sI svL
 refine xm fun k hk => ?_
 rw [if_neg (xi k)]
 unfold sS
 rw [xb]
theorem xI_zero {A:List Int} {a:Nat}:xI F A a 0=1:=by unfold xI;rfl
theorem xI_succ {A:List Int} {a j:Nat}:muI F (xI F A a j) (vi (exF F (A.getD a 0)))=xI F A a (j+1):=by
 unfold xI
 rw [muI_eq,el_vi,el_vi]
 rfl
theorem sS_succ {A:List Int} {a i:Nat} (h:a<A.length):sS F A (a+1) i=sS F A a i+Fd.pw (exF F (A.getD a 0)) (i+1):=by
 unfold sS
 rw [re,Fd.su_app]
 congr 1
 rw [zy,zt h]
 show Fd.pw _ _+Fd.zr=_
 rw [Fd.add0]
 rfl
theorem sI_set {A:List Int} {T a j:Nat} (h:j<T) (ha:a<A.length):(sI F A T a j).set j (loI F (ibit .xor .i64 ((sI F A T a j).getD j 0) (xI F A a (j+1))))=sI F A T a (j+1):=by
 have e:(sI F A T a j).getD j 0=vi (sS F A a j):=by
  unfold sI
  simp only [zy,zf,xh h,yr,ym,if_neg (ua j)]
 rw [e,lo_xor]
 unfold xI
 rw [el_vi,el_vi,← sS_succ ha]
 unfold sI
 rw [set_map h]
 refine xm fun k _ => ?_
 by_cases hk:k=j
 · subst hk
   rw [if_pos rfl,if_pos (by omega)]
 · rw [if_neg hk]
   by_cases h2:k<j
   · rw [if_pos h2,if_pos (by omega)]
   · rw [if_neg h2,if_neg (by omega)]
variable (F)
def Sv5 (A:List Int) (T:Nat):Inv' C0:=⟨5,Nat,fun a=>[(23,.int .i64 (a:Int))],fun a m=>match m with
 | [a0,a1,a2,a3,a4,x]=>[a0,a1,a2,a3,a4,⟨x.block,x.base,1,true,none,.rows 3 (sI F A T a 0)⟩]
 | m=>m,fun a=>a≤A.length,fun a=>A.length - a⟩
def Sv10 (A:List Int) (T:Nat):Inv' C0:=⟨10,Nat×Nat,fun x=>[(23,.int .i64 (x.1:Int)),(32,.int .i64 (x.2:Int)),(11,.int .i64 (xI F A x.1 x.2)),(10,.int .i64 (vi (exF F (A.getD x.1 0))))],fun x m=>match m with
 | [a0,a1,a2,a3,a4,s]=>[a0,a1,a2,a3,a4,⟨s.block,s.base,1,true,none,.rows 3 (sI F A T x.1 x.2)⟩]
 | m=>m,fun x=>x.1<A.length∧x.2≤T,fun x=>T - x.2⟩
set_option maxHeartbeats 4000000 in
theorem values_ok (bC qC bF qF be qe bl ql:Nat) (t:Nat) (ht:t<1000000) (o:Bool) (b q:Nat) (l:List Int) (i n c:Nat) (h:i+n≤l.length) (hn:n<1000000000) (ho:o=false→n=0∧c=0) (A:List Int) (hA:(l.drop i).take n=A) (hb:∀ a,a<n→0≤A.getD a 0∧A.getD a 0<1000000000):
 Does (C:=C0) Tryz.prog (.fn 83) ([⟨bC,qC,263,false,none,.one [.ptr 1 0 0,.int .i64 (t:Int)]⟩] ++ [⟨bF,qF,4,false,none,.one [.int .i64 (F.m:Int),.int .i64 (szF F:Int),.sl 2 0 (nF F) (nF F),.sl 3 0 (szF F) (szF F)]⟩,xCk F be qe,lCk F bl ql] ++ [⟨b,q,1,false,some o,.rows 3 l⟩]) [.ptr 0 0 0,.sl 4 i n c]
  [⟨Nat,fun _=>True,fun y=>.sl 5 0 (2*t) (2*t),fun y=>[⟨bC,qC,263,false,none,.one [.ptr 1 0 0,.int .i64 (t:Int)]⟩] ++ [⟨bF,qF,4,false,none,.one [.int .i64 (F.m:Int),.int .i64 (szF F:Int),.sl 2 0 (nF F) (nF F),.sl 3 0 (szF F) (szF F)]⟩,xCk F be qe,lCk F bl ql] ++ [⟨b,q,1,false,some o,.rows 3 l⟩,⟨y,0,1,true,none,.rows 3 (svL F A (2*t))⟩]⟩]:=by
 have hby:(Tryz.prog.types[3].bytes:Int)=8:=by kernel_rfl
 have lI:=fun a j=>sI_len (F:=F) (A:=A) (T:=2*t) (a:=a) (j:=j)
 have hL:A.length=n:=by rw [← hA];exact row_len h
 have pv:∀ j,j<n→l.getD (j+i) 0=A.getD j 0:=by rw [← hA];exact row_at
 refine loc_fn (P:=Tryz.prog) (E:=⟨[],[pcCoT,pcCoField,pcExp F,pcMul F,pcAdd F],52,[],[],[],none⟩) (L:=[Sv5 F A (2*t),Sv10 F A (2*t)]) mix Tryz.func83 rfl (by kernel_rfl) (by kernel_rfl) rfl rfl ?_
 ((conv=>arg 1;reduce);with_reducible repeat' first | exact ty | refine ta ?_ ?_ | refine ti fun _ => ?_ | refine tf fun _ => ?_ | refine tl ?_)
 all_goals try exact vlf
 · exact ⟨by omega,by omega,by rw [hby];omega,by omega⟩
 · refine Stands.one (0:Nat) ⟨zg _,?_⟩
   ((conv=>arg 1;reduce);with_reducible repeat' first | exact ty | refine ta ?_ ?_ | refine ti fun _ => ?_ | refine tf fun _ => ?_ | refine tl ?_)
   all_goals first | exact vlf | (show sI F A (2*t) 0 0=zo (2*(t:Int)).toNat (0:Int);rw [show (2*(t:Int)).toNat=2*t by omega,sI_zero])
 all_goals try (
  rename_i y a ha d
  change Nat at a
  have ha:a≤A.length:=ha
  have d:(a:Int)<(n:Int):=ng d
  first
  | exact on_of ho (by omega)
  | exact d
  | (show (a:Int).toNat+i<l.length;omega)
  | (have h9:=hb a (by omega)
     show -4611686018427387904≤l.getD ((a:Int).toNat+i) 0∧l.getD ((a:Int).toNat+i) 0≤4611686018427387904
     rw [zu,pv a (by omega)]
     omega)
  | (refine Stands.one ((a,0):Nat×Nat) ⟨⟨by show a<A.length;omega,zg _⟩,?_⟩
     ((conv=>arg 1;reduce);with_reducible repeat' first | exact ty | refine ta ?_ ?_ | refine ti fun _ => ?_ | refine tf fun _ => ?_ | refine tl ?_)
     all_goals first
      | exact vlf
      | exact xI_zero.symm
      | (show vi (exF F (l.getD ((a:Int).toNat+i) 0))=vi (exF F (A.getD a 0));rw [zu,pv a (by omega)])))
 all_goals try (
  rename_i y a ha d z hz e1 e2 d2
  change Nat at a
  change Nat×Nat at z
  obtain ⟨a',j⟩:=z
  obtain ⟨k1,k2⟩:a'<A.length∧j≤2*t:=hz
  have ha:a≤A.length:=ha
  have e1:(a:Int)=(a':Int):=e1
  obtain rfl:a=a':=by omega
  have d2:(j:Int)<((2*(t:Int)).toNat:Int):=ng d2
  first
  | exact d2
  | (show (j:Int).toNat+0<(sI F A (2*t) a j).length;rw [lI];omega)
  | exact inR64 (n:=(j:Int)+1) (by omega) (by omega)
  | (have e2:vi (exF F (l.getD ((a:Int).toNat+i) 0))=vi (exF F (A.getD a 0)):=e2
     refine Stands.one ((a,j+1):Nat×Nat) ⟨⟨k1,by show j+1≤2*t;omega⟩,by show 2*t - (j+1)<2*t - j;omega,?_⟩
     ((conv=>arg 1;reduce);with_reducible repeat' first | exact ty | refine ta ?_ ?_ | refine ti fun _ => ?_ | refine tf fun _ => ?_ | refine tl ?_)
     all_goals first
      | exact vlf
      | (show muI F (xI F A a j) (vi (exF F (A.getD a 0)))=xI F A a (j+1);rw [xI_succ])
      | (show muI F (xI F A a j) (vi (exF F (l.getD ((a:Int).toNat+i) 0)))=xI F A a (j+1);rw [e2,xI_succ])
      | (show sI F A (2*t) a (j+1)=(sI F A (2*t) a j).set ((j:Int).toNat+0) (loI F (ibit .xor .i64 ((sI F A (2*t) a j).getD ((j:Int).toNat+0) 0) (muI F (xI F A a j) (vi (exF F (A.getD a 0))))))
         rw [xI_succ,zu,za j,sI_set (A:=A) (T:=2*t) (a:=a) (j:=j) (by omega) k1])))
 all_goals try (
  rename_i y a ha d z hz e1 e2 d2
  change Nat at a
  change Nat×Nat at z
  obtain ⟨a',j⟩:=z
  obtain ⟨k1,k2⟩:a'<A.length∧j≤2*t:=hz
  have ha:a≤A.length:=ha
  have e1:(a:Int)=(a':Int):=e1
  obtain rfl:a=a':=by omega
  have d2:¬ (j:Int)<((2*(t:Int)).toNat:Int):=nf d2
  obtain rfl:j=2*t:=by omega
  first
  | exact inR64 (n:=(a:Int)+1) (by omega) (by omega)
  | (refine Stands.next (Stands.one (a+1:Nat) ⟨by show a+1≤A.length;omega,by show A.length - (a+1)<A.length - a;omega,?_⟩)
     ((conv=>arg 1;reduce);with_reducible repeat' first | exact ty | refine ta ?_ ?_ | refine ti fun _ => ?_ | refine tf fun _ => ?_ | refine tl ?_)
     all_goals first | exact vlf | exact sI_next.symm | exact sI_next)
  | (refine Stands.one (a+1:Nat) ⟨by show a+1≤A.length;omega,by show A.length - (a+1)<A.length - a;omega,?_⟩
     ((conv=>arg 1;reduce);with_reducible repeat' first | exact ty | refine ta ?_ ?_ | refine ti fun _ => ?_ | refine tf fun _ => ?_ | refine tl ?_)
     all_goals first | exact vlf | exact sI_next.symm | exact sI_next))
 · rename_i y a ha d
   change Nat at a
   have ha:a≤A.length:=ha
   have d:¬ (a:Int)<(n:Int):=nf d
   obtain rfl:a=A.length:=by omega
   refine Ends.one y trivial ?_
   ((conv=>arg 1;reduce);with_reducible repeat' first | exact ty | refine ta ?_ ?_ | refine ti fun _ => ?_ | refine tf fun _ => ?_ | refine tl ?_)
   all_goals first | exact vlf | exact sI_end.symm | exact sI_end | (show 2*t=(2*(t:Int)).toNat;omega) | (show (2*(t:Int)).toNat=2*t;omega)
def fcValues:Fc Tryz.prog C0 where
 tg:=.fn 83
 X:=(Nat×Nat×Nat)×(Nat×Nat×Nat×Nat×Nat×Nat)×Sl3
 args:=fun (_,_,(o,b,q,l,i,n,c))=>[.ptr 0 0 0,.sl 4 i n c]
 mem:=fun ((bC,qC,t),(bF,qF,be,qe,bl,ql),(o,b,q,l,i,n,c))=>[⟨bC,qC,263,false,none,.one [.ptr 1 0 0,.int .i64 (t:Int)]⟩] ++ [⟨bF,qF,4,false,none,.one [.int .i64 (F.m:Int),.int .i64 (szF F:Int),.sl 2 0 (nF F) (nF F),.sl 3 0 (szF F) (szF F)]⟩,xCk F be qe,lCk F bl ql] ++ [⟨b,q,1,false,some o,.rows 3 l⟩]
 pre:=fun ((_,_,t),_,(o,b,q,l,i,n,c))=>t<1000000∧Sl3.pre (o,b,q,l,i,n,c)∧∀ a,a<n→0≤((l.drop i).take n).getD a 0∧((l.drop i).take n).getD a 0<1000000000
 alts:=fun ((bC,qC,t),(bF,qF,be,qe,bl,ql),(o,b,q,l,i,n,c))=>[⟨Nat,fun _=>True,fun y=>.sl 5 0 (2*t) (2*t),fun y=>[⟨bC,qC,263,false,none,.one [.ptr 1 0 0,.int .i64 (t:Int)]⟩] ++ [⟨bF,qF,4,false,none,.one [.int .i64 (F.m:Int),.int .i64 (szF F:Int),.sl 2 0 (nF F) (nF F),.sl 3 0 (szF F) (szF F)]⟩,xCk F be qe,lCk F bl ql] ++ [⟨b,q,1,false,some o,.rows 3 l⟩,⟨y,0,1,true,none,.rows 3 (svL F ((l.drop i).take n) (2*t))⟩]⟩]
 mat vs m:=match vs with
  | [.ptr p _ _,.sl s i n c]=>match nth m p with
    | ⟨bC,qC,_,_,_,.one (.ptr f _ _ :: .int _ (t:Nat) :: _)⟩=>match nth m f with
      | ⟨bF,qF,_,_,_,.one (_ :: _ :: .sl x _ _ _ :: .sl g _ _ _ :: _)⟩=>match nth m x,nth m g,nth m s with
        | ⟨be,qe,_,_,_,_⟩,⟨bl,ql,_,_,_,_⟩,⟨b,q,_,_,o,.rows 3 l⟩=>some (((bC,qC,t),(bF,qF,be,qe,bl,ql),(onOf o,b,q,l,i,n,c)),[p,f,x,g,s])
        | _,_,_=>none
      | _=>none
    | _=>none
  | [.ptr p _ _,.nils]=>match nth m p with
    | ⟨bC,qC,_,_,_,.one (.ptr f _ _ :: .int _ (t:Nat) :: _)⟩=>match nth m f with
      | ⟨bF,qF,_,_,_,.one (_ :: _ :: .sl x _ _ _ :: .sl g _ _ _ :: _)⟩=>match nth m x,nth m g with
        | ⟨be,qe,_,_,_,_⟩,⟨bl,ql,_,_,_,_⟩=>some (((bC,qC,t),(bF,qF,be,qe,bl,ql),(false,0,0,[],0,0,0)),[p,f,x,g,m.length])
      | _=>none
    | _=>none
  | _=>none
 ok:=fun ((bC,qC,t),(bF,qF,be,qe,bl,ql),(o,b,q,l,i,n,c)) h=>values_ok F bC qC bF qF be qe bl ql t h.1 o b q l i n c h.2.1.1 h.2.1.2.1 h.2.1.2.2 _ rfl h.2.2
end
end
end Go.Vx
