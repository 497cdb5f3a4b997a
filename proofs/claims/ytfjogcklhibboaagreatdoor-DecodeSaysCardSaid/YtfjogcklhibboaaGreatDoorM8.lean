/-
  Round 10: the document's FromRoots, cosets and leaders.
  Round 10: the document's bits of bytes: bit, Degree, bits, Of.
  Round 10: the document's BinMul, Minimal, Generator.
  Round 10: the fields and codes of the statements, worked out by the kernel.
  Round 10: the codes of the statements; bytes with bits struck off or laid in: plain facts.
  Round 10: the document's New, Parity, Clear; copies.
  Round 10: a Decoder: decode.New, Code, measure.
  Round 10: a Decoder: find.
  Round 10: encode.New's contract; a Decoder: seek.
  Round 10: a Decoder: turn.
  Round 10: Decode: the walk.
  Round 10: Decode's contract.
  Conditions: none.
-/
import Derived.Test.YtfjogcklhibboaaGreatDoorM6
import Derived.Test.YtfjogcklhibboaaGreatDoorM7
import Derived.KernelRfl
open Bool renaming not_eq_true' → yi, or_eq_false_iff → xf, or_eq_true → yd
open Int renaming eq_ofNat_of_zero_le → yh, natCast_nonneg → wb, ofNat_tdiv → yj, ofNat_tmod → zb, tmod_lt_of_pos → uv, toNat_natCast → zu
open List renaming drop_zero → zm, eq_nil_of_length_eq_zero → vg, foldl_append → uo, foldl_cons → ut, getD_eq_getElem?_getD → zy, getElem?_eq_getElem → zt, length_append → zx, length_replicate → xz, length_set → zh, length_take → ze, replicate → zo, take_left → ou, take_of_length_le → zc, take_zero → sf
open Nat renaming and_le_left → ub, ble → wc, ble_eq_true_of_le → oq, blt → ye, le_refl → zw, lt_succ_self → wt, mod_lt → yv, pow_le_pow_right → zj, zero_add → we, zero_le → zg
set_option linter.unusedVariables false
set_option linter.unusedSimpArgs false
set_option linter.unusedSectionVars false
set_option maxRecDepth 100000
namespace Go.Vx
open Go Go.Proofs
noncomputable section
variable [Gl]
section
variable (F:Gf)
abbrev Lq:=List Int×Oq
def Fr3 (n:Nat):Inv' C0:=⟨3,Nat×Lq,fun x=>[(6,.int .i64 (x.1:Int)),(5,.sl 1 0 x.2.1.length x.2.2.2.2.2.2),(7,.junk)],fun x m=>match m with
 | p :: _=>[p,oqC true x.2.2]
 | m=>m,fun x=>x.1≤n∧Oqw x.2.1 x.2.2∧x.2.1.length≤1+2*x.1,fun x=>n - x.1⟩
set_option maxHeartbeats 4000000 in
theorem rfroots_ok (o:Bool) (b q:Nat) (l:List Int) (i n c:Nat) (h:i+n≤l.length) (hn:n<10000000) (ho:o=false→n=0∧c=0):
 Does (C:=C0) Tryz.prog (.fn 110) [⟨b,q,1,false,some o,.rows 3 l⟩] [.int .i64 (F.m:Int),.sl 0 i n c]
  [⟨Lq,fun y=>Oqw y.1 y.2∧y.1.length≤1+2*n,fun y=>.sl 1 0 y.1.length y.2.2.2.2.2,fun y=>[⟨b,q,1,false,some o,.rows 3 l⟩,oqC true y.2]⟩]:=by
 have hby:(Tryz.prog.types[3].bytes:Int)=8:=by kernel_rfl
 refine loc_fn (P:=Tryz.prog) (E:=⟨[fcRtimes F],[],23,[],[],[],none⟩) (L:=[Fr3 n]) mix Tryz.func110 rfl (by kernel_rfl) (by kernel_rfl) rfl rfl ?_
 ((conv=>arg 1;reduce);with_reducible repeat' first | exact ty | refine ta ?_ ?_ | refine ti fun _ => ?_ | refine tf fun _ => ?_ | refine tl ?_)
 all_goals try exact vlf
 · refine Stands.one ((0,[1],(true,‹Nat›,0,[1],1)):Nat×Lq) ⟨⟨zg _,⟨rfl,zw _,zw _,nofun⟩,zw _⟩,?_⟩
   exact vgo
 iterate 4 (focus
  rename_i b0 x hx d
  change Nat×Lq at x
  obtain ⟨j,L,y⟩:=x
  have d:(j:Int)<(n:Int):=ng d
  first
  | exact on_of ho (by omega)
  | exact d
  | (show (j:Int).toNat+i<l.length;omega))
 · rename_i b0 x hx d b1
   change Nat×Lq at x
   obtain ⟨j,L,y⟩:=x
   obtain ⟨k1,k2,k3⟩:j≤n∧Oqw L y∧L.length≤1+2*j:=hx
   have c1:=k2.cap
   have c2:=k2.len
   exact ⟨⟨⟨by show 0+L.length≤y.2.2.2.1.length;omega,by show L.length<1000000000;omega,k2.nil⟩,by show L.length<100000000;omega⟩,⟨by show 0+2≤2;omega,by show 2<1000000000;omega,nofun⟩,by show 2<100000000;omega⟩
 iterate 2 (focus
  rename_i b0 x hx d b1 z hz
  change Nat×Lq at x
  change Oq at z
  obtain ⟨j,L,y⟩:=x
  obtain ⟨k1,k2,k3⟩:j≤n∧Oqw L y∧L.length≤1+2*j:=hx
  have d:(j:Int)<(n:Int):=ng d
  first
  | exact inR64 (n:=(j:Int)+1) (by omega) (by omega)
  | (have hl:=tmL_len (F:=F) (P:=(y.2.2.2.1.drop 0).take L.length) (Q:=[l.getD ((j:Int).toNat+i) 0,1])
     rw [zm,k2.eq] at hl
     have hl:(tmL F L [l.getD ((j:Int).toNat+i) 0,1]).length≤L.length+2:=hl
     have hz:Oqw (tmL F ((y.2.2.2.1.drop 0).take L.length) [l.getD ((j:Int).toNat+i) 0,1]) z:=hz
     rw [zm,k2.eq] at hz
     refine Stands.one ((j+1,tmL F L [l.getD ((j:Int).toNat+i) 0,1],z):Nat×Lq) ⟨⟨by show j+1≤n;omega,hz,by show (tmL F L _).length≤1+2*(j+1);omega⟩,by show n - (j+1)<n - j;omega,?_⟩
     ((conv=>arg 1;reduce);with_reducible repeat' first | exact ty | refine ta ?_ ?_ | refine ti fun _ => ?_ | refine tf fun _ => ?_ | refine tl ?_)
     all_goals first
      | exact vlf
      | (show (tmL F ((y.2.2.2.1.drop 0).take L.length) [l.getD ((j:Int).toNat+i) 0,1]).length=(tmL F L [l.getD ((j:Int).toNat+i) 0,1]).length;rw [zm,k2.eq])
      | (show (tmL F L [l.getD ((j:Int).toNat+i) 0,1]).length=(tmL F ((y.2.2.2.1.drop 0).take L.length) [l.getD ((j:Int).toNat+i) 0,1]).length;rw [zm,k2.eq])))
 · rename_i b0 x hx d
   change Nat×Lq at x
   obtain ⟨j,L,y⟩:=x
   obtain ⟨k1,k2,k3⟩:j≤n∧Oqw L y∧L.length≤1+2*j:=hx
   refine Ends.one ((L,y):Lq) ⟨k2,by show L.length≤1+2*n;omega⟩ ?_
   exact vgo
def fcRfroots:Fc Tryz.prog C0 where
 tg:=.fn 110
 X:=Sl3
 args:=fun (o,b,q,l,i,n,c)=>[.int .i64 (F.m:Int),.sl 0 i n c]
 mem:=fun (o,b,q,l,i,n,c)=>[⟨b,q,1,false,some o,.rows 3 l⟩]
 pre:=fun (o,b,q,l,i,n,c)=>Sl3.pre (o,b,q,l,i,n,c)∧n<10000000
 alts:=fun (o,b,q,l,i,n,c)=>[⟨Lq,fun y=>Oqw y.1 y.2∧y.1.length≤1+2*n,fun y=>.sl 1 0 y.1.length y.2.2.2.2.2,fun y=>[⟨b,q,1,false,some o,.rows 3 l⟩,oqC true y.2]⟩]
 mat vs m:=match vs with
  | [_,.sl s i n c]=>match nth m s with
    | ⟨b,q,_,_,g,.rows 3 l⟩=>some ((onOf g,b,q,l,i,n,c),[s])
    | _=>none
  | _=>none
 ok:=fun (o,b,q,l,i,n,c) h=>rfroots_ok F o b q l i n c h.1.1 h.2 h.1.2.2
theorem tmod_low (i:Int) {n:Nat} (h:0<n) : -(n:Int)<i.tmod (n:Int):=by
 have h3:=Int.neg_tmod i (n:Int)
 have h4:=uv (-i) (show (0:Int)<(n:Int) by omega)
 omega
def Rng (L:List Int) (n:Nat):Prop:=∀ x∈L,0≤x∧x<(n:Int)
def Co5':Inv' C0:=⟨5,List Bool×Nat,fun x=>[(7,.int .i64 (x.2:Int))],fun x m=>match m with
 | [s]=>[⟨s.block,s.base,1,true,none,.rows 4 x.1⟩]
 | m=>m,fun x=>x.1.length=nF F∧x.2<nF F,fun x=>cfB x.1⟩
def Co10 (S:List Bool):Inv' C0:=⟨10,Nat×Lq,fun x=>[(9,.int .i64 (x.1:Int)),(8,.sl 1 0 x.2.1.length x.2.2.2.2.2.2)],fun x m=>match m with
 | s :: _=>[s,oqC true x.2.2]
 | m=>m,fun x=>x.1≤nF F∧Oqw x.2.1 x.2.2∧x.2.1.length≤x.1∧Rng x.2.1 (nF F),fun x=>nF F - x.1⟩
set_option maxHeartbeats 4000000 in
theorem rcoset_ok (i:Int) (h1 : -1000000000<i) (h2:i<1000000000):
 Does (C:=C0) Tryz.prog (.fn 109) [] [.int .i64 (F.m:Int),.int .i64 i]
  [⟨Lq,fun y=>Oqw y.1 y.2∧y.1.length≤nF F∧Rng y.1 (nF F),fun y=>.sl 0 0 y.1.length y.2.2.2.2.2,fun y=>[oqC true y.2]⟩]:=by
 obtain ⟨hs,h7,hh⟩:=nF_sz F
 have es:=shl_sz F
 have e1:(szF F:Int) - 1=(nF F:Int):=by omega
 have hb4:(Tryz.prog.types[4].bytes:Int)=1:=by kernel_rfl
 have hby:Tryz.prog.types[3].bytes=8:=by kernel_rfl
 have t1:=uv i (show (0:Int)<(nF F:Int) by omega)
 have t2:=tmod_low i (show 0<nF F by omega)
 have eM:ishl .i64 1 (IntKind.u64.wrap (F.m:Int)) - 1=(nF F:Int):=by rw [wm,es,e1]
 refine loc_fn (P:=Tryz.prog) (E:=⟨[],[],50,[],[],[],none⟩) (L:=[Co5' F,Co10 F []]) mix Tryz.func109 rfl (by kernel_rfl) (by kernel_rfl) rfl rfl ?_
 ((conv=>arg 1;reduce);with_reducible repeat' first | exact ty | refine ta ?_ ?_ | refine ti fun _ => ?_ | refine tf fun _ => ?_ | refine tl ?_)
 all_goals try exact vlf
 all_goals try first
  | (rw [wm];omega)
  | (rw [eM];exact inR64 (by omega) (by omega))
  | (rw [eM];omega)
  | (rw [eM,hb4];omega)
 · have t1:=uv (i.tmod (nF F:Int)+nF F) (show (0:Int)<(nF F:Int) by omega)
   have t3:=Int.tmod_nonneg (nF F:Int) (show (0:Int)≤i.tmod (nF F:Int)+nF F by omega)
   refine Stands.one ((zo (nF F) false,((i.tmod (nF F:Int)+nF F).tmod (nF F:Int)).toNat):List Bool×Nat) ⟨⟨xz,by show _<_;omega⟩,?_⟩
   ((conv=>arg 1;reduce);with_reducible repeat' first | exact ty | refine ta ?_ ?_ | refine ti fun _ => ?_ | refine tf fun _ => ?_ | refine tl ?_)
   all_goals first | exact vlf | (rw [eM];rfl) | (rw [eM];show _=(((_:Int).toNat:Nat):Int);omega) | (rw [eM];show (((_:Int).toNat:Nat):Int)=_;omega)
 all_goals try (
  rename_i b0 x hx
  change List Bool×Nat at x
  obtain ⟨S,k⟩:=x
  obtain ⟨k1,k2⟩:S.length=nF F∧k<nF F:=hx
  first
  | (rw [eM];show (k:Int)<((nF F:Int).toNat:Int);omega)
  | (show (k:Int).toNat+0<S.length;omega))
 all_goals try (
  rename_i b0 x hx d
  change List Bool×Nat at x
  obtain ⟨S,k⟩:=x
  obtain ⟨k1,k2⟩:S.length=nF F∧k<nF F:=hx
  have d:(!S.getD ((k:Int).toNat+0) false)=true:=d
  rw [show (k:Int).toNat+0=k by omega,yi] at d
  have d':S.getD k true=false:=by
   rw [zy,zt (by omega)] at d ⊢;exact d
  first
  | (rw [eM];show (k:Int)<((nF F:Int).toNat:Int);omega)
  | (show (k:Int).toNat+0<S.length;omega)
  | exact inR64 (n:=2*(k:Int)) (by omega) (by omega)
  | (rw [eM];show (nF F:Int)≠0;omega)
  | (have hc:=cfB_set S k (by omega) d'
     have e2:(2*(k:Int)).tmod (nF F:Int)=((2*k % nF F:Nat):Int):=(zb (2*k) (nF F)).symm
     refine Stands.one ((S.set k true,2*k % nF F):List Bool×Nat) ⟨⟨by show (S.set k true).length=_;rw [zh];exact k1,yv _ (by omega)⟩,by show cfB (S.set k true)<cfB S;omega,?_⟩
     ((conv=>arg 1;reduce);with_reducible repeat' first | exact ty | refine ta ?_ ?_ | refine ti fun _ => ?_ | refine tf fun _ => ?_ | refine tl ?_)
     all_goals first | exact vlf | (rw [eM];exact e2) | (rw [eM];exact e2.symm)))
 · rename_i b0 x hx d
   change List Bool×Nat at x
   obtain ⟨S,k⟩:=x
   obtain ⟨k1,k2⟩:S.length=nF F∧k<nF F:=hx
   refine Stands.one ((0,[],(false,0,0,[],0)):Nat×Lq) ⟨⟨zg _,Oqw.none,zw _,fun x hx=>nomatch hx⟩,?_⟩
   exact vgo
 all_goals try (
  rename_i b0 w hw dw x hx d
  change Nat×Lq at x
  obtain ⟨j,L,y⟩:=x
  rw [eM] at d
  have d:(j:Int)<(nF F:Int):=ng d
  have w1:w.1.length=nF F:=hw.1
  first
  | (rw [eM];show (j:Int)<((nF F:Int).toNat:Int);omega)
  | (show (j:Int).toNat+0<w.1.length;omega))
 all_goals try (
  rename_i b0 w hw dw x hx d dz b1
  change Nat×Lq at x
  obtain ⟨j,L,y⟩:=x
  obtain ⟨k1,k2,k3,k4⟩:j≤nF F∧Oqw L y∧L.length≤j∧Rng L (nF F):=hx
  have c1:=k2.cap
  have c2:=k2.len
  first
  | (rw [hby];exact ⟨c1,by show 0+y.2.2.2.2≤y.2.2.2.1.length;omega,zw _,by show (L.length+1)*8≤_;omega⟩)
  | exact k2.nil)
 iterate 2 (focus
  rename_i b0 w hw dw x hx d dz g1 g2 g3 sp k h3 h4
  change Nat×Lq at x
  change List Int at sp
  obtain ⟨j,L,y⟩:=x
  obtain ⟨k1,k2,k3,k4⟩:j≤nF F∧Oqw L y∧L.length≤j∧Rng L (nF F):=hx
  rw [eM] at d
  have d:(j:Int)<(nF F:Int):=ng d
  have h3:L.length+1≤k:=h3
  have h4:k≤L.length+1+sp.length:=h4
  first
  | exact inR64 (n:=(j:Int)+1) (by omega) (by omega)
  | (refine Stands.one ((j+1,L ++ [(j:Int)],(true,g2,g3,y.2.2.2.1.take L.length ++ [(j:Int)] ++ sp,k)):Nat×Lq) ⟨⟨by show j+1≤nF F;omega,k2.snoc _ _ _ _ _ sp _ rfl h3 h4 rfl,by show (L ++ [_]).length≤j+1;rw [zx];show L.length+1≤j+1;omega,fun z hz => ?_⟩,by show nF F - (j+1)<nF F - j;omega,?_⟩
     · rcases List.mem_append.1 hz with hz | hz
       · exact k4 z hz
       · rw [List.mem_singleton.1 hz];omega
     ((conv=>arg 1;reduce);with_reducible repeat' first | exact ty | refine ta ?_ ?_ | refine ti fun _ => ?_ | refine tf fun _ => ?_ | refine tl ?_)
     all_goals first | exact vlf | (show L.length+1=(L ++ [(j:Int)]).length;rw [zx];rfl) | (show (L ++ [(j:Int)]).length=L.length+1;rw [zx];rfl)))
 all_goals try (
  rename_i b0 w hw dw x hx d dz
  change Nat×Lq at x
  obtain ⟨j,L,y⟩:=x
  obtain ⟨k1,k2,k3,k4⟩:j≤nF F∧Oqw L y∧L.length≤j∧Rng L (nF F):=hx
  rw [eM] at d
  have d:(j:Int)<(nF F:Int):=ng d
  first
  | exact inR64 (n:=(j:Int)+1) (by omega) (by omega)
  | (refine Stands.one ((j+1,L,y):Nat×Lq) ⟨⟨by show j+1≤nF F;omega,k2,by show L.length≤j+1;omega,k4⟩,by show nF F - (j+1)<nF F - j;omega,?_⟩
     exact vgo))
 all_goals try (
  rename_i b0 w hw dw x hx d
  change Nat×Lq at x
  obtain ⟨j,L,y⟩:=x
  obtain ⟨k1,k2,k3,k4⟩:j≤nF F∧Oqw L y∧L.length≤j∧Rng L (nF F):=hx
  refine Ends.one ((L,y):Lq) ⟨k2,by show L.length≤nF F;omega,k4⟩ ?_
  exact vgo)
def fcRcoset:Fc Tryz.prog C0 where
 tg:=.fn 109
 X:=Int
 args i:=[.int .i64 (F.m:Int),.int .i64 i]
 mem _:=[]
 pre i := -1000000000<i∧i<1000000000
 alts i:=[⟨Lq,fun y=>Oqw y.1 y.2∧y.1.length≤nF F∧Rng y.1 (nF F),fun y=>.sl 0 0 y.1.length y.2.2.2.2.2,fun y=>[oqC true y.2]⟩]
 mat vs m:=match vs with
  | [_,.int _ i]=>some (i,[])
  | _=>none
 ok i h:=rcoset_ok F i h.1 h.2
def Le10 (t:Nat):Inv' C0:=⟨10,Nat×Oq,fun x=>[(11,.int .i64 (2*(x.1:Int)+1)),(9,.int .i64 ((lsO (nF F) x.1).2.2:Int)),(10,.sl 1 0 (lsO (nF F) x.1).2.1.length x.2.2.2.2.2)],fun x m=>match m with
 | s :: _=>[⟨s.block,s.base,1,true,none,.rows 4 (lsO (nF F) x.1).1⟩,oqC true x.2]
 | m=>m,fun x=>x.1≤t∧Oqw (lsO (nF F) x.1).2.1 x.2,fun x=>t - x.1⟩
def Le15 (t:Nat):Inv' C0:=⟨15,Nat×List Bool×Nat×Nat,fun x=>[(11,.int .i64 (2*(x.1:Int)+1)),(12,.int .i64 (x.2.2.1:Int)),(9,.int .i64 (x.2.2.2:Int))],fun x m=>match m with
 | s :: m=>⟨s.block,s.base,1,true,none,.rows 4 x.2.1⟩ :: m
 | m=>m,fun x=>x.1<t∧x.2.1.length=nF F∧x.2.2.1<nF F∧LsAt (nF F) x.2.2.1 x.2.1 x.2.2.2 (lsI (nF F) (nF F+1) ((2*x.1+1) % nF F) (lsO (nF F) x.1).1 (lsO (nF F) x.1).2.2),fun x=>cfB x.2.1⟩
set_option maxHeartbeats 4000000 in
theorem rleast_ok (t:Nat) (t1:1≤t) (t40:t≤40) (hD:(lsO (nF F) t).2.2<nF F):
 Does (C:=C0) Tryz.prog (.fn 55) [] [.int .i64 (F.m:Int),.int .i64 (t:Int)]
  [⟨Oq,fun y=>Oqw (lsO (nF F) t).2.1 y,fun y=>.tup [.int .i64 ((lsO (nF F) t).2.2:Int),.sl 0 0 (lsO (nF F) t).2.1.length y.2.2.2.2,.int .i64 0],fun y=>[oqC true y]⟩]:=by
 obtain ⟨hs,h7,hh⟩:=nF_sz F
 have es:=shl_sz F
 have e1:(szF F:Int) - 1=(nF F:Int):=by omega
 have hb4:(Tryz.prog.types[4].bytes:Int)=1:=by kernel_rfl
 have hby:Tryz.prog.types[3].bytes=8:=by kernel_rfl
 have m3:=F.m3
 have m14:=F.m14
 have eM:ishl .i64 1 (IntKind.u64.wrap (F.m:Int)) - 1=(nF F:Int):=by rw [wm,es,e1]
 refine loc_fn (P:=Tryz.prog) (E:=⟨[],[],67,[],[],[],none⟩) (L:=[Le10 F t,Le15 F t]) mix Tryz.func55 rfl (by kernel_rfl) (by kernel_rfl) rfl rfl ?_
 ((conv=>arg 1;reduce);with_reducible repeat' first | exact ty | refine ta ?_ ?_ | refine ti fun _ => ?_ | refine tf fun _ => ?_ | refine tl ?_)
 all_goals try exact vlf
 · exfalso
   rename_i d
   simp only [yd,decide_eq_true_eq,SB.val] at d
   omega
 · exfalso
   rename_i d0 d
   simp only [yd,decide_eq_true_eq,SB.val] at d
   omega
 all_goals try first
  | (rw [wm];omega)
  | (rw [eM];exact inR64 (by omega) (by omega))
  | (rw [eM];omega)
  | (rw [eM,hb4];omega)
 · refine Stands.one ((0,(false,0,0,[],0)):Nat×Oq) ⟨⟨zg _,by rw [lsO_zero];exact Oqw.none⟩,?_⟩
   ((conv=>arg 1;reduce);with_reducible repeat' first | exact ty | refine ta ?_ ?_ | refine ti fun _ => ?_ | refine tf fun _ => ?_ | refine tl ?_)
   all_goals first
    | exact vlf
    | (show (lsO (nF F) 0).1=_;rw [eM,lsO_zero];rfl)
    | (show _=(lsO (nF F) 0).1;rw [eM,lsO_zero];rfl)
    | (show _=(((lsO (nF F) 0).2.2:Nat):Int);rw [lsO_zero];rfl)
    | (show (0:Nat)=(lsO (nF F) 0).2.1.length;rw [lsO_zero];rfl)
    | (show (lsO (nF F) 0).2.1.length=0;rw [lsO_zero];rfl)
 all_goals try (
  rename_i d0 d1 b0 x hx d
  change Nat×Oq at x
  obtain ⟨j,y⟩:=x
  obtain ⟨k1,k2⟩:j≤t∧Oqw (lsO (nF F) j).2.1 y:=hx
  have e2:(2*(j:Int)+1).tmod (nF F:Int)=(((2*j+1) % nF F:Nat):Int):=(zb (2*j+1) (nF F)).symm
  have e3:=yv (2*j+1) (show 0<nF F by omega)
  have e4:=(lsO_facts (nF F) j).1
  rw [eM]
  first
  | (show (nF F:Int)≠0;omega)
  | (show 0≤(2*(j:Int)+1).tmod (nF F:Int);rw [e2];omega)
  | (show (2*(j:Int)+1).tmod (nF F:Int)<((nF F:Int).toNat:Int);rw [e2];omega)
  | (show ((2*(j:Int)+1).tmod (nF F:Int)).toNat+0<(lsO (nF F) j).1.length;rw [e2];omega))
 all_goals try (
  rename_i d0 d1 b0 x hx d dz
  change Nat×Oq at x
  obtain ⟨j,y⟩:=x
  obtain ⟨k1,k2⟩:j≤t∧Oqw (lsO (nF F) j).2.1 y:=hx
  have d:2*(j:Int)+1<2*(t:Int):=ng d
  have e2:(2*(j:Int)+1).tmod (nF F:Int)=(((2*j+1) % nF F:Nat):Int):=(zb (2*j+1) (nF F)).symm
  have dz:(lsO (nF F) j).1.getD (((2*(j:Int)+1).tmod (ishl .i64 1 (IntKind.u64.wrap (F.m:Int)) - 1)).toNat+0) false=true:=dz
  first
  | exact inR64 (n:=2*(j:Int)+1+2) (by omega) (by omega)
  | (rw [eM,e2,show (((2*j+1) % nF F:Nat):Int).toNat+0=(2*j+1) % nF F by omega] at dz
     have eL:lsO (nF F) (j+1)=lsO (nF F) j:=by
      rw [lsO_succ,if_pos]
      rw [zy] at dz ⊢
      cases h:(lsO (nF F) j).1[(2*j+1) % nF F]? with
      | none=>rfl
      | some v=>rw [h] at dz;exact dz
     refine Stands.one ((j+1,y):Nat×Oq) ⟨⟨by show j+1≤t;omega,by show Oqw (lsO (nF F) (j+1)).2.1 y;rw [eL];exact k2⟩,by show t - (j+1)<t - j;omega,?_⟩
     ((conv=>arg 1;reduce);with_reducible repeat' first | exact ty | refine ta ?_ ?_ | refine ti fun _ => ?_ | refine tf fun _ => ?_ | refine tl ?_)
     all_goals first
      | exact vlf
      | (show 2*(j:Int)+1+2=2*((j+1:Nat):Int)+1;omega)
      | (show (lsO (nF F) (j+1)).1=(lsO (nF F) j).1;rw [eL])
      | (show ((lsO (nF F) j).2.2:Int)=((lsO (nF F) (j+1)).2.2:Int);rw [eL])
      | (show (lsO (nF F) j).2.1.length=(lsO (nF F) (j+1)).2.1.length;rw [eL])
      | (show (lsO (nF F) (j+1)).2.1.length=(lsO (nF F) j).2.1.length;rw [eL])))
 all_goals try (
  rename_i d0 d1 b0 x hx d dz b1
  change Nat×Oq at x
  obtain ⟨j,y⟩:=x
  obtain ⟨k1,k2⟩:j≤t∧Oqw (lsO (nF F) j).2.1 y:=hx
  have c1:=k2.cap
  have c2:=k2.len
  have c3:=(lsO_facts (nF F) j).2.2.1
  first
  | (rw [hby];exact ⟨c1,by show 0+y.2.2.2.2≤y.2.2.2.1.length;omega,zw _,by show ((lsO (nF F) j).2.1.length+1)*8≤_;omega⟩)
  | exact k2.nil)
 · rename_i d0 d1 b0 x hx d dz g1 g2 g3 sp k h3 h4
   change Nat×Oq at x
   obtain ⟨j,y⟩:=x
   have d:2*(j:Int)+1<2*(t:Int):=ng d
   have e2:(2*(j:Int)+1).tmod (nF F:Int)=(((2*j+1) % nF F:Nat):Int):=(zb (2*j+1) (nF F)).symm
   have e4:=(lsO_facts (nF F) j).1
   refine Stands.one ((j,(lsO (nF F) j).1,(2*j+1) % nF F,(lsO (nF F) j).2.2):Nat×List Bool×Nat×Nat) ⟨⟨by show j<t;omega,e4,yv _ (by omega),nF F+1,by have:=cfB_le (lsO (nF F) j).1;show cfB (lsO (nF F) j).1≤_;omega,rfl⟩,?_⟩
   ((conv=>arg 1;reduce);with_reducible repeat' first | exact ty | refine ta ?_ ?_ | refine ti fun _ => ?_ | refine tf fun _ => ?_ | refine tl ?_)
   all_goals first | exact vlf | (rw [eM];exact e2) | (rw [eM];exact e2.symm)
 all_goals try (
  rename_i d0 d1 b0 x hx d dz g1 g2 g3 sp k h3 h4 z hz e
  change Nat×List Bool×Nat×Nat at z
  obtain ⟨j,S,u,v⟩:=z
  obtain ⟨k1,k2,k3,k4⟩:j<t∧S.length=nF F∧u<nF F∧_:=hz
  first
  | (rw [eM];show (u:Int)<((nF F:Int).toNat:Int);omega)
  | (show (u:Int).toNat+0<S.length;omega))
 all_goals try (
  rename_i d0 d1 b0 x hx d dz g1 g2 g3 sp k h3 h4 z hz e dn
  change Nat×List Bool×Nat×Nat at z
  obtain ⟨j,S,u,v⟩:=z
  obtain ⟨k1,k2,k3,k4⟩:j<t∧S.length=nF F∧u<nF F∧LsAt (nF F) u S v (lsI (nF F) (nF F+1) ((2*j+1) % nF F) (lsO (nF F) j).1 (lsO (nF F) j).2.2):=hz
  have dn:(!S.getD ((u:Int).toNat+0) false)=true:=dn
  rw [show (u:Int).toNat+0=u by omega,yi] at dn
  have dn':S.getD u true=false:=by
   rw [zy,zt (by omega)] at dn ⊢;exact dn
  first
  | (rw [eM];show (u:Int)<((nF F:Int).toNat:Int);omega)
  | (show (u:Int).toNat+0<S.length;omega)
  | (have hv:=k4.le (by omega)
     exact inR64 (n:=(v:Int)+1) (by omega) (by
      have h5:=(lsI_len (nF F) (nF F+1) ((2*j+1) % nF F) (lsO (nF F) j).1 (lsO (nF F) j).2.2).2
      have h6:=(lsO_facts (nF F) j).2.1
      have h7:j*(nF F+1)≤40*(nF F+1):=Nat.mul_le_mul_right _ (by omega)
      omega))
  | exact inR64 (n:=2*(u:Int)) (by omega) (by omega)
  | (rw [eM];show (nF F:Int)≠0;omega)
  | (have hc:=cfB_set S u (by omega) dn'
     have e2:(2*(u:Int)).tmod (nF F:Int)=((2*u % nF F:Nat):Int):=(zb (2*u) (nF F)).symm
     refine Stands.one ((j,S.set u true,2*u % nF F,v+1):Nat×List Bool×Nat×Nat) ⟨⟨k1,by show (S.set u true).length=_;rw [zh];exact k2,yv _ (by omega),k4.next (by omega) dn'⟩,by show cfB (S.set u true)<cfB S;omega,?_⟩
     ((conv=>arg 1;reduce);with_reducible repeat' first | exact ty | refine ta ?_ ?_ | refine ti fun _ => ?_ | refine tf fun _ => ?_ | refine tl ?_)
     all_goals first | exact vlf | (rw [eM];exact e2) | (rw [eM];exact e2.symm)))
 iterate 2 (focus
  rename_i d0 d1 b0 x hx d dz g1 g2 g3 sp k h3 h4 z hz e dn
  change Nat×Oq at x
  change List Int at sp
  change Nat×List Bool×Nat×Nat at z
  obtain ⟨i,y⟩:=x
  obtain ⟨x1,x2⟩:i≤t∧Oqw (lsO (nF F) i).2.1 y:=hx
  obtain ⟨j,S,u,v⟩:=z
  obtain ⟨k1,k2,k3,k4⟩:j<t∧S.length=nF F∧u<nF F∧LsAt (nF F) u S v (lsI (nF F) (nF F+1) ((2*j+1) % nF F) (lsO (nF F) j).1 (lsO (nF F) j).2.2):=hz
  have e:2*(i:Int)+1=2*(j:Int)+1:=e
  obtain rfl:i=j:=by omega
  have h3:(lsO (nF F) i).2.1.length+1≤k:=h3
  have h4:k≤(lsO (nF F) i).2.1.length+1+sp.length:=h4
  first
  | exact inR64 (n:=2*(i:Int)+1+2) (by omega) (by omega)
  | (have dn:(!S.getD ((u:Int).toNat+0) false)=false:=dn
     rw [show (u:Int).toNat+0=u by omega,Bool.not_eq_false'] at dn
     have dn':S.getD u true=true:=by
      rw [zy,zt (by omega)] at dn ⊢;exact dn
     have e2:(2*(i:Int)+1).tmod (nF F:Int)=(((2*i+1) % nF F:Nat):Int):=(zb (2*i+1) (nF F)).symm
     have dz:(lsO (nF F) i).1.getD (((2*(i:Int)+1).tmod (ishl .i64 1 (IntKind.u64.wrap (F.m:Int)) - 1)).toNat+0) false=false:=dz
     rw [eM,e2,show (((2*i+1) % nF F:Nat):Int).toNat+0=(2*i+1) % nF F by omega] at dz
     have eR:=k4.stop dn'
     have eL:lsO (nF F) (i+1)=(S,(lsO (nF F) i).2.1 ++ [2*(i:Int)+1],v):=by
      rw [lsO_succ,if_neg,eR]
      have e4:=(lsO_facts (nF F) i).1
      have e3:=yv (2*i+1) (show 0<nF F by omega)
      rw [zy,zt (by omega)] at dz ⊢
      rw [show (lsO (nF F) i).1[(2*i+1) % nF F]=false from dz]
      exact Bool.false_ne_true
     refine Stands.one ((i+1,(true,g2,g3,y.2.2.2.1.take (lsO (nF F) i).2.1.length ++ [2*(i:Int)+1] ++ sp,k)):Nat×Oq) ⟨⟨by show i+1≤t;omega,by show Oqw (lsO (nF F) (i+1)).2.1 _;rw [eL];exact x2.snoc _ _ _ _ _ sp _ rfl h3 h4 rfl⟩,by show t - (i+1)<t - i;omega,?_⟩
     ((conv=>arg 1;reduce);with_reducible repeat' first | exact ty | refine ta ?_ ?_ | refine ti fun _ => ?_ | refine tf fun _ => ?_ | refine tl ?_)
     all_goals first
      | exact vlf
      | (show 2*(i:Int)+1+2=2*((i+1:Nat):Int)+1;omega)
      | (show (lsO (nF F) (i+1)).1=S;rw [eL])
      | (show (v:Int)=((lsO (nF F) (i+1)).2.2:Int);rw [eL])
      | (show (lsO (nF F) i).2.1.length+1=(lsO (nF F) (i+1)).2.1.length;rw [eL];show _=((lsO (nF F) i).2.1 ++ [2*(i:Int)+1]).length;rw [zx];rfl)
      | (show (lsO (nF F) (i+1)).2.1.length=(lsO (nF F) i).2.1.length+1;rw [eL];show ((lsO (nF F) i).2.1 ++ [2*(i:Int)+1]).length=_;rw [zx];rfl)))
 all_goals try (
  rename_i d0 d1 b0 x hx d dn
  change Nat×Oq at x
  obtain ⟨j,y⟩:=x
  obtain ⟨k1,k2⟩:j≤t∧Oqw (lsO (nF F) j).2.1 y:=hx
  have d:¬ 2*(j:Int)+1<2*(t:Int):=nf d
  obtain rfl:j=t:=by omega
  rw [eM] at dn
  simp only [decide_eq_true_eq,decide_eq_false_iff_not] at dn
  first
  | (exfalso;omega)
  | (refine Ends.one (y:Oq) k2 ?_
     exact vgo))
def fcRleast:Fc Tryz.prog C0 where
 tg:=.fn 55
 X:=Nat
 args t:=[.int .i64 (F.m:Int),.int .i64 (t:Int)]
 mem _:=[]
 pre t:=1≤t∧t≤40∧(lsO (nF F) t).2.2<nF F
 alts t:=[⟨Oq,fun y=>Oqw (lsO (nF F) t).2.1 y,fun y=>.tup [.int .i64 ((lsO (nF F) t).2.2:Int),.sl 0 0 (lsO (nF F) t).2.1.length y.2.2.2.2,.int .i64 0],fun y=>[oqC true y]⟩]
 mat vs m:=match vs with
  | [_,.int _ (t:Nat)]=>some (t,[])
  | _=>none
 ok t h:=rleast_ok F t h.1 h.2.1 h.2.2
end
end
end Go.Vx
namespace Go.Vx
open Go Go.Proofs
noncomputable section
variable [Gl]
abbrev obC (wr:Bool) (y:Oq):Ck C0:=⟨y.2.1,y.2.2.1,1,wr,some y.1,.rows 5 y.2.2.2.1⟩
theorem rbit_ok (o:Bool) (b q:Nat) (l:List Int) (i n c:Nat) (h:i+n≤l.length) (hn:n<1000000000) (ho:o=false→n=0∧c=0) (z:Nat) (hz:z<10000000000) (P:List Int) (hP:(l.drop i).take n=P) (kP:Byt8 P):
 Tells (C:=C0) Tryz.prog (.fn 74) [⟨b,q,1,false,some o,.rows 5 l⟩] [.sl 0 i n c,.int .i64 (z:Int)] (.int .i64 ((bt P z).toNat:Int)):=by
 have e1:(z:Int).tdiv 8=((z / 8:Nat):Int):=(yj z 8).symm
 have e2:(z:Int).tmod 8=((z % 8:Nat):Int):=(zb z 8).symm
 refine loc_pc (P:=Tryz.prog) (E:=⟨[],[],25,[],[],[],none⟩) (L:=[]) mix Tryz.func74 rfl (by kernel_rfl) (by kernel_rfl) rfl rfl ?_
 ((conv=>arg 1;reduce);with_reducible repeat' first | exact ty | refine ta ?_ ?_ | refine ti fun _ => ?_ | refine tf fun _ => ?_ | refine tl ?_)
 all_goals try exact vlf
 all_goals (
  rename_i d
  simp only [yd,xf,decide_eq_true_eq,decide_eq_false_iff_not,SB.val,e1] at d)
 · rw [bt_out (by rw [← hP,row_len h];omega)];rfl
 all_goals have wz:IntKind.u64.wrap ((z:Int).tmod 8)=((z % 8:Nat):Int):=by rw [e2];exact wu (by omega)
 all_goals first
  | exact on_of ho (by omega)
  | (show (z:Int).tdiv 8<(n:Int);rw [e1];omega)
  | (show ((z:Int).tdiv 8).toNat+i<l.length;rw [e1];omega)
  | (rw [wz];omega)
  | (have hx:0≤P.getD (z / 8) 0∧P.getD (z / 8) 0<256:=by
      rw [zy,zt (by rw [← hP,row_len h];omega),Option.getD_some]
      exact kP _ (List.getElem_mem _)
     obtain ⟨x,hx2⟩:=yh hx.1
     have h3:x / 2 ^ (z % 8)≤x:=Nat.div_le_self _ _
     have eG:l.getD (((z:Int).tdiv 8).toNat+i) 0=(x:Int):=by
      rw [e1,zu,row_at (n:=n) (z / 8) (by omega),hP,hx2]
     have eS:ishr .u8 (l.getD (((z:Int).tdiv 8).toNat+i) 0) (IntKind.u64.wrap ((z:Int).tmod 8))=((x / 2 ^ (z % 8):Nat):Int):=by
      rw [eG,wz,shr8 .u8 x (z % 8) (show z % 8≤8 by omega)]
     have hx3:x<256:=by omega
     first
     | (show inR .i64 (ishr .u8 (l.getD (((z:Int).tdiv 8).toNat+i) 0) (IntKind.u64.wrap ((z:Int).tmod 8)))
        rw [eS]
        generalize x / 2 ^ (z % 8)=u at h3
        exact inR64 (n:=(u:Int)) (by omega) (by omega))
     | (show ibit .and .i64 (ishr .u8 (l.getD (((z:Int).tdiv 8).toNat+i) 0) (IntKind.u64.wrap ((z:Int).tmod 8))) 1=((bt P z).toNat:Int)
        rw [eS,odd64 (by omega)]
        have eB:bt P z=x.testBit (z % 8):=by unfold bt;rw [hx2];rfl
        rw [eB,Nat.testBit_eq_decide_div_mod_eq]
        by_cases h9:x / 2 ^ (z % 8) % 2=1
        · rw [decide_eq_true h9,h9];rfl
        · rw [decide_eq_false h9,show x / 2 ^ (z % 8) % 2=0 by omega];rfl))
def pcRbit:Pc Tryz.prog C0 where
 tg:=.fn 74
 X:=Sl3×Int
 args:=fun ((o,b,q,l,i,n,c),z)=>[.sl 0 i n c,.int .i64 z]
 mem:=fun ((o,b,q,l,i,n,c),z)=>[⟨b,q,1,false,some o,.rows 5 l⟩]
 pre:=fun (s,z)=>Sl3.pre s∧(0≤z∧z<10000000000)∧Byt8 ((s.2.2.2.1.drop s.2.2.2.2.1).take s.2.2.2.2.2.1)
 res:=fun ((o,b,q,l,i,n,c),z)=>.int .i64 ((bt ((l.drop i).take n) z.toNat).toNat:Int)
 mat vs m:=match vs with
  | [.sl s i n c,.int _ z]=>match nth m s with
    | ⟨b,q,_,_,g,.rows 5 l⟩=>some (((onOf g,b,q,l,i,n,c),z),[s])
    | _=>none
  | _=>none
 ok:=fun ((o,b,q,l,i,n,c),z) h=>by
  obtain ⟨z,rfl⟩:=yh h.2.1.1
  exact rbit_ok o b q l i n c h.1.1 h.1.2.1 h.1.2.2 z (Int.ofNat_lt.1 h.2.1.2) _ rfl h.2.2
def Gd2 (n:Nat):Inv' C0:=⟨2,Nat,fun x=>[(3,.int .i64 ((x:Int) - 1))],fun _ m=>m,fun x=>x≤8*n,fun x=>x⟩
theorem rdeg_ok (o:Bool) (b q:Nat) (l:List Int) (i n c:Nat) (h:i+n≤l.length) (hn:n<1000000000) (ho:o=false→n=0∧c=0) (kP:Byt8 ((l.drop i).take n)):
 Does (C:=C0) Tryz.prog (.fn 107) [⟨b,q,1,false,some o,.rows 5 l⟩] [.sl 0 i n c]
  [⟨Nat,fun d=>d≤8*n,fun d=>.int .i64 ((d:Int) - 1),fun _=>[⟨b,q,1,false,some o,.rows 5 l⟩]⟩]:=by
 refine loc_fn (P:=Tryz.prog) (E:=⟨[],[pcRbit],17,[],[],[],none⟩) (L:=[Gd2 n]) mix Tryz.func107 rfl (by kernel_rfl) (by kernel_rfl) rfl rfl ?_
 ((conv=>arg 1;reduce);with_reducible repeat' first | exact ty | refine ta ?_ ?_ | refine ti fun _ => ?_ | refine tf fun _ => ?_ | refine tl ?_)
 all_goals try exact vlf
 · refine Stands.one (8*n:Nat) ⟨zw _,?_⟩
   ((conv=>arg 1;reduce);with_reducible repeat' first | exact ty | refine ta ?_ ?_ | refine ti fun _ => ?_ | refine tf fun _ => ?_ | refine tl ?_)
   all_goals first | exact vlf | (show 8*(n:Int) - 1=((8*n:Nat):Int) - 1;omega)
 · rename_i x hx d
   change Nat at x
   have hx:x≤8*n:=hx
   have d:0≤(x:Int) - 1:=ng d
   exact ⟨⟨h,hn,ho⟩,⟨d,by show (x:Int) - 1<_;omega⟩,kP⟩
 · rename_i x hx d d2
   change Nat at x
   refine Ends.one (x:Nat) hx ?_
   exact vgo
 iterate 2 (focus
  rename_i x hx d d2
  change Nat at x
  have hx:x≤8*n:=hx
  have d:0≤(x:Int) - 1:=ng d
  first
  | exact inR64 (n:=(x:Int) - 1 - 1) (by omega) (by omega)
  | (refine Stands.one (x - 1:Nat) ⟨by show x - 1≤8*n;omega,by show x - 1<x;omega,?_⟩
     ((conv=>arg 1;reduce);with_reducible repeat' first | exact ty | refine ta ?_ ?_ | refine ti fun _ => ?_ | refine tf fun _ => ?_ | refine tl ?_)
     all_goals first | exact vlf | (show (x:Int) - 1 - 1=((x - 1:Nat):Int) - 1;omega)))
 · rename_i x hx d
   change Nat at x
   have d:¬ 0≤(x:Int) - 1:=nf d
   refine Ends.one (0:Nat) (zg _) ?_
   ((conv=>arg 1;reduce);with_reducible repeat' first | exact ty | refine ta ?_ ?_ | refine ti fun _ => ?_ | refine tf fun _ => ?_ | refine tl ?_)
   all_goals first | exact vlf | rfl
def fcRdeg:Fc Tryz.prog C0 where
 tg:=.fn 107
 X:=Sl3
 args:=fun (o,b,q,l,i,n,c)=>[.sl 0 i n c]
 mem:=fun (o,b,q,l,i,n,c)=>[⟨b,q,1,false,some o,.rows 5 l⟩]
 pre:=fun s=>Sl3.pre s∧Byt8 ((s.2.2.2.1.drop s.2.2.2.2.1).take s.2.2.2.2.2.1)
 alts:=fun (o,b,q,l,i,n,c)=>[⟨Nat,fun d=>d≤8*n,fun d=>.int .i64 ((d:Int) - 1),fun _=>[⟨b,q,1,false,some o,.rows 5 l⟩]⟩]
 mat vs m:=match vs with
  | [.sl s i n c]=>match nth m s with
    | ⟨b,q,_,_,g,.rows 5 l⟩=>some ((onOf g,b,q,l,i,n,c),[s])
    | _=>none
  | _=>none
 ok:=fun (o,b,q,l,i,n,c) h=>rdeg_ok o b q l i n c h.1.1 h.1.2.1 h.1.2.2 h.2
theorem wrap8_byt (n:Int):0≤IntKind.u8.wrap n∧IntKind.u8.wrap n<256:=by
 unfold IntKind.wrap
 simp [IntKind.bits,IntKind.signed]
 omega
theorem or8_byt (a b:Int):0≤ibit .or .u8 a b∧ibit .or .u8 a b<256:=by rw [ibit_or];exact wrap8_byt _
theorem Oqw.put {L:List Int} {y:Oq} (h:Oqw L y) {i:Nat} (hi:i<L.length) (v:Int):Oqw (L.set i v) (y.1,y.2.1,y.2.2.1,y.2.2.2.1.set i v,y.2.2.2.2):=by
 refine ⟨?_,by show (L.set i v).length≤_;rw [zh];exact h.cap,by show _≤(y.2.2.2.1.set i v).length;rw [zh];exact h.len,fun h0 => ?_⟩
 · show (y.2.2.2.1.set i v).take (L.set i v).length=L.set i v
   rw [zh,List.take_set,h.eq]
 · have:=(h.nil h0).1;omega
def Bi3 (n:Nat):Inv' C0:=⟨3,Nat×Lq,fun x=>[(4,.int .i64 (x.1:Int)),(3,.sl 1 0 x.2.1.length x.2.2.2.2.2.2)],fun x m=>match m with
 | p :: _=>[p,obC true x.2.2]
 | m=>m,fun x=>x.1≤n∧Oqw x.2.1 x.2.2∧Byt8 x.2.1∧8*x.2.1.length≤x.1+7,fun x=>n - x.1⟩
def Bi6 (n:Nat):Inv' C0:=⟨6,Nat×Lq,fun x=>[(4,.int .i64 (x.1:Int)),(3,.sl 1 0 x.2.1.length x.2.2.2.2.2.2)],fun x m=>match m with
 | p :: _=>[p,obC true x.2.2]
 | m=>m,fun x=>x.1<n∧Oqw x.2.1 x.2.2∧Byt8 x.2.1∧x.2.1.length≤x.1 / 8+1,fun x=>x.1 / 8+1 - x.2.1.length⟩
set_option maxHeartbeats 4000000 in
theorem rbits_ok (o:Bool) (b q:Nat) (l:List Int) (i n c:Nat) (h:i+n≤l.length) (hn:n<1000000000) (ho:o=false→n=0∧c=0):
 Does (C:=C0) Tryz.prog (.fn 108) [⟨b,q,1,false,some o,.rows 3 l⟩] [.sl 0 i n c]
  [⟨Lq,fun y=>Oqw y.1 y.2∧Byt8 y.1∧8*y.1.length≤n+7,fun y=>.sl 1 0 y.1.length y.2.2.2.2.2,fun y=>[⟨b,q,1,false,some o,.rows 3 l⟩,obC true y.2]⟩]:=by
 have hby:Tryz.prog.types[5].bytes=1:=by kernel_rfl
 refine loc_fn (P:=Tryz.prog) (E:=⟨[],[],39,[],[],[],none⟩) (L:=[Bi3 n,Bi6 n]) mix Tryz.func108 rfl (by kernel_rfl) (by kernel_rfl) rfl rfl ?_
 ((conv=>arg 1;reduce);with_reducible repeat' first | exact ty | refine ta ?_ ?_ | refine ti fun _ => ?_ | refine tf fun _ => ?_ | refine tl ?_)
 all_goals try exact vlf
 · refine Stands.one ((0,[],(false,0,0,[],0)):Nat×Lq) ⟨⟨zg _,Oqw.none,(fun x hx=>nomatch hx),by decide⟩,?_⟩
   exact vgo
 iterate 4 (focus
  rename_i x hx d
  change Nat×Lq at x
  obtain ⟨j,L,y⟩:=x
  have d:(j:Int)<(n:Int):=ng d
  first
  | exact on_of ho (by omega)
  | exact d
  | (show (j:Int).toNat+i<l.length;omega))
 iterate 2 (focus
  rename_i x hx d d2
  change Nat×Lq at x
  obtain ⟨j,L,y⟩:=x
  obtain ⟨k1,k2,k3,k4⟩:j≤n∧Oqw L y∧Byt8 L∧8*L.length≤j+7:=hx
  have d:(j:Int)<(n:Int):=ng d
  first
  | exact inR64 (n:=(j:Int)+1) (by omega) (by omega)
  | (refine Stands.one ((j+1,L,y):Nat×Lq) ⟨⟨by show j+1≤n;omega,k2,k3,by show 8*L.length≤j+1+7;omega⟩,by show n - (j+1)<n - j;omega,?_⟩
     exact vgo))
 · rename_i x hx d d2
   change Nat×Lq at x
   obtain ⟨j,L,y⟩:=x
   obtain ⟨k1,k2,k3,k4⟩:j≤n∧Oqw L y∧Byt8 L∧8*L.length≤j+7:=hx
   have d:(j:Int)<(n:Int):=ng d
   refine Stands.one ((j,L,y):Nat×Lq) ⟨⟨by show j<n;omega,k2,k3,by show L.length≤j / 8+1;omega⟩,?_⟩
   exact vgo
 all_goals have q8:∀ j:Nat,(j:Int).tdiv 8=((j / 8:Nat):Int):=fun j=>(yj j 8).symm
 all_goals have m8:∀ j:Nat,(j:Int).tmod 8=((j % 8:Nat):Int):=fun j=>(zb j 8).symm
 · rename_i w hw dw dw2 x hx e
   change Nat×Lq at x
   obtain ⟨j,L,y⟩:=x
   have j1:j<n:=hx.1
   show inR .i64 ((j:Int).tdiv 8)
   rw [q8];exact inR64 (n:=((j / 8:Nat):Int)) (by omega) (by omega)
 iterate 2 (focus
  rename_i w hw dw dw2 x hx e d b1
  change Nat×Lq at x
  obtain ⟨j,L,y⟩:=x
  obtain ⟨k1,k2,k3,k4⟩:j<n∧Oqw L y∧Byt8 L∧L.length≤j / 8+1:=hx
  have c1:=k2.cap
  have c2:=k2.len
  first
  | (rw [hby];exact ⟨c1,by show 0+y.2.2.2.2≤y.2.2.2.1.length;omega,zw _,by show (L.length+1)*1≤_;omega⟩)
  | exact k2.nil)
 · rename_i w hw dw dw2 x hx e d g1 g2 g3 sp k h3 h4
   change Nat×Lq at x
   change List Int at sp
   obtain ⟨j,L,y⟩:=x
   obtain ⟨k1,k2,k3,k4⟩:j<n∧Oqw L y∧Byt8 L∧L.length≤j / 8+1:=hx
   have d:(L.length:Int)≤(j:Int).tdiv 8:=ng d
   rw [q8] at d
   have h3:L.length+1≤k:=h3
   have h4:k≤L.length+1+sp.length:=h4
   refine Stands.one ((j,L ++ [0],(true,g2,g3,y.2.2.2.1.take L.length ++ [0] ++ sp,k)):Nat×Lq) ⟨⟨k1,k2.snoc _ _ _ _ _ sp _ rfl h3 h4 rfl,fun z hz => ?_,by show (L ++ [0]).length≤_;rw [zx];show L.length+1≤j / 8+1;omega⟩,by show j / 8+1 - (L ++ [0]).length<j / 8+1 - L.length;rw [zx];show j / 8+1 - (L.length+1)<_;omega,?_⟩
   · rcases List.mem_append.1 hz with hz | hz
     · exact k3 z hz
     · rw [List.mem_singleton.1 hz];decide
   ((conv=>arg 1;reduce);with_reducible repeat' first | exact ty | refine ta ?_ ?_ | refine ti fun _ => ?_ | refine tf fun _ => ?_ | refine tl ?_)
   all_goals first | exact vlf | (show L.length+1=(L ++ [(0:Int)]).length;rw [zx];rfl) | (show (L ++ [(0:Int)]).length=L.length+1;rw [zx];rfl)
 all_goals try (
  rename_i w hw dw dw2 x hx e d
  change Nat×Lq at w
  change Nat×Lq at x
  obtain ⟨j,L,y⟩:=x
  obtain ⟨k1,k2,k3,k4⟩:j<n∧Oqw L y∧Byt8 L∧L.length≤j / 8+1:=hx
  have d:¬ (L.length:Int)≤(j:Int).tdiv 8:=nf d
  rw [q8] at d
  have c1:=k2.cap
  have c2:=k2.len
  have lL:L.length=j / 8+1:=by omega
  first
  | (show inR .i64 ((j:Int).tdiv 8);rw [q8];exact inR64 (n:=((j / 8:Nat):Int)) (by omega) (by omega))
  | exact on_of k2.nil (by omega)
  | (show 0≤(j:Int).tdiv 8;rw [q8];omega)
  | (show (j:Int).tdiv 8<(L.length:Int);rw [q8];omega)
  | (show ((j:Int).tdiv 8).toNat+0<y.2.2.2.1.length;rw [q8];omega)
  | (show 0≤IntKind.u64.wrap ((j:Int).tmod 8);rw [m8,wu (by omega)];omega)
  | exact inR64 (n:=(j:Int)+1) (by omega) (by omega)
  | (refine Stands.one ((j+1,L.set (j / 8) (ibit .or .u8 (y.2.2.2.1.getD (((j:Int).tdiv 8).toNat+0) 0) (ishl .u8 1 (IntKind.u64.wrap ((j:Int).tmod 8)))),(y.1,y.2.1,y.2.2.1,y.2.2.2.1.set (j / 8) (ibit .or .u8 (y.2.2.2.1.getD (((j:Int).tdiv 8).toNat+0) 0) (ishl .u8 1 (IntKind.u64.wrap ((j:Int).tmod 8)))),y.2.2.2.2)):Nat×Lq) ⟨⟨by show j+1≤n;omega,k2.put (by omega) _,byt_set k3 (or8_byt _ _),by show 8*(L.set _ _).length≤_;rw [zh];omega⟩,by have:=e;show n - (j+1)<n - w.1;have e:(w.1:Int)=(j:Int):=e;omega,?_⟩
     ((conv=>arg 1;reduce);with_reducible repeat' first | exact ty | refine ta ?_ ?_ | refine ti fun _ => ?_ | refine tf fun _ => ?_ | refine tl ?_)
     all_goals first
      | exact vlf
      | (show L.length=(L.set (j / 8) _).length;rw [zh])
      | (show (L.set (j / 8) _).length=L.length;rw [zh])
      | (rw [show ((j:Int).tdiv 8).toNat+0=j / 8 by rw [q8];omega];rfl)
      | (have eN:((j:Int).tdiv 8).toNat+0=j / 8:=by rw [q8];omega
         simp only [eN];rfl)))
 · rename_i x hx d
   change Nat×Lq at x
   obtain ⟨j,L,y⟩:=x
   obtain ⟨k1,k2,k3,k4⟩:j≤n∧Oqw L y∧Byt8 L∧8*L.length≤j+7:=hx
   refine Ends.one ((L,y):Lq) ⟨k2,k3,by show 8*L.length≤n+7;omega⟩ ?_
   exact vgo
def fcRbits:Fc Tryz.prog C0 where
 tg:=.fn 108
 X:=Sl3
 args:=fun (o,b,q,l,i,n,c)=>[.sl 0 i n c]
 mem:=fun (o,b,q,l,i,n,c)=>[⟨b,q,1,false,some o,.rows 3 l⟩]
 pre:=Sl3.pre
 alts:=fun (o,b,q,l,i,n,c)=>[⟨Lq,fun y=>Oqw y.1 y.2∧Byt8 y.1∧8*y.1.length≤n+7,fun y=>.sl 1 0 y.1.length y.2.2.2.2.2,fun y=>[⟨b,q,1,false,some o,.rows 3 l⟩,obC true y.2]⟩]
 mat vs m:=match vs with
  | [.sl s i n c]=>match nth m s with
    | ⟨b,q,_,_,g,.rows 3 l⟩=>some ((onOf g,b,q,l,i,n,c),[s])
    | _=>none
  | _=>none
 ok:=fun (o,b,q,l,i,n,c) h=>rbits_ok o b q l i n c h.1 h.2.1 h.2.2
def Rf3 (N:Nat) (P:List Int):Inv' C0:=⟨3,Nat×Nat,fun x=>[(4,.int .i64 (x.1:Int)),(3,.int .i64 (x.2:Int))],fun _ m=>m,fun x=>x.1≤P.length∧x.2<N∧∀ k,k<x.1→P.getD k 0≤(x.2:Int),fun x=>P.length - x.1⟩
def Rf8 (N:Nat) (P:List Int):Inv' C0:=⟨8,Nat×Nat×List Int,fun x=>[(6,.int .i64 (x.1:Int)),(3,.int .i64 (x.2.1:Int))],fun x m=>match m with
 | [p,t]=>[p,⟨t.block,t.base,1,true,none,.rows 3 x.2.2⟩]
 | m=>m,fun x=>x.1≤P.length∧x.2.1<N∧x.2.2.length=x.2.1+1∧∀ k,k<P.length→P.getD k 0≤(x.2.1:Int),fun x=>P.length - x.1⟩
set_option maxHeartbeats 4000000 in
theorem rof_ok (N:Nat) (hN:N<100000000) (h0:0<N) (o:Bool) (b q:Nat) (l:List Int) (i n c:Nat) (h:i+n≤l.length) (hn:n<1000000000) (ho:o=false→n=0∧c=0) (P:List Int) (hP:(l.drop i).take n=P) (hR:Rng P N):
 Does (C:=C0) Tryz.prog (.fn 111) [⟨b,q,1,false,some o,.rows 3 l⟩] [.sl 0 i n c]
  [⟨Lq,fun y=>Oqw y.1 y.2∧Byt8 y.1∧8*y.1.length≤N+7,fun y=>.sl 1 0 y.1.length y.2.2.2.2.2,fun y=>[⟨b,q,1,false,some o,.rows 3 l⟩,obC true y.2]⟩]:=by
 have hby:(Tryz.prog.types[3].bytes:Int)=8:=by kernel_rfl
 have hL:P.length=n:=by rw [← hP];exact row_len h
 have pv:∀ j,j<n→l.getD (j+i) 0=P.getD j 0:=fun j hj=>by rw [row_at j hj,hP]
 have pR:∀ j,j<n→0≤P.getD j 0∧P.getD j 0<(N:Int):=fun j hj=>hR _ (getD_mem (by omega))
 refine loc_fn (P:=Tryz.prog) (E:=⟨[fcRbits],[],44,[(10,[],[.p 0,.p 1,.p 2,.p 3,.p 5,.p 6,.p 7,.p 8,.q 4,.q 9,.p 10,.q 11,.p 12,.p 13,.e 14])],[],[],none⟩) (L:=[Rf3 N P,Rf8 N P]) mix Tryz.func111 rfl (by kernel_rfl) (by kernel_rfl) rfl rfl ?_
 ((conv=>arg 1;reduce);with_reducible repeat' first | exact ty | refine ta ?_ ?_ | refine ti fun _ => ?_ | refine tf fun _ => ?_ | refine tl ?_)
 all_goals try exact vlf
 · refine Stands.one ((0,0):Nat×Nat) ⟨⟨zg _,h0,fun k hk=>absurd hk (Nat.not_lt_zero k)⟩,?_⟩
   exact vgo
 all_goals try (
  rename_i x hx d
  change Nat×Nat at x
  obtain ⟨j,w⟩:=x
  obtain ⟨k1,k2,k3⟩:j≤P.length∧w<N∧∀ k,k<j→P.getD k 0≤(w:Int):=hx
  have d:(j:Int)<(n:Int):=ng d
  have r1:=pR j (by omega)
  have eV:l.getD ((j:Int).toNat+i) 0=P.getD j 0:=pv j (by omega)
  first
  | exact on_of ho (by omega)
  | exact d
  | (show (j:Int).toNat+i<l.length;omega)
  | exact inR64 (n:=(j:Int)+1) (by omega) (by omega)
  | (refine Stands.one ((j+1,(max (w:Int) (P.getD j 0)).toNat):Nat×Nat) ⟨⟨by show j+1≤P.length;omega,by show (max (w:Int) (P.getD j 0)).toNat<N;omega,fun k hk => ?_⟩,by show P.length - (j+1)<P.length - j;omega,?_⟩
     · show P.getD k 0≤((max (w:Int) (P.getD j 0)).toNat:Int)
       have hk:k<j+1:=hk
       by_cases hj:k=j
       · rw [hj];omega
       · have:=k3 k (by omega);omega
     ((conv=>arg 1;reduce);with_reducible repeat' first | exact ty | refine ta ?_ ?_ | refine ti fun _ => ?_ | refine tf fun _ => ?_ | refine tl ?_)
     all_goals first
      | exact vlf
      | (show max (w:Int) (l.getD ((j:Int).toNat+i) 0)=((max (w:Int) (P.getD j 0)).toNat:Int);rw [eV];omega)))
 all_goals try (
  rename_i x hx d
  change Nat×Nat at x
  obtain ⟨j,w⟩:=x
  obtain ⟨k1,k2,k3⟩:j≤P.length∧w<N∧∀ k,k<j→P.getD k 0≤(w:Int):=hx
  have d:¬ (j:Int)<(n:Int):=nf d
  first
  | exact inR64 (n:=(w:Int)+1) (by omega) (by omega)
  | (rw [hby];show 0≤(w:Int)+1∧(w:Int)+1≤(w:Int)+1∧8*((w:Int)+1)≤281474976710656∧(w:Int)+1≤9223372036854775807;omega))
 · rename_i x hx d b0
   change Nat×Nat at x
   obtain ⟨j,w⟩:=x
   obtain ⟨k1,k2,k3⟩:j≤P.length∧w<N∧∀ k,k<j→P.getD k 0≤(w:Int):=hx
   have d:¬ (j:Int)<(n:Int):=nf d
   have ew:((w:Int)+1).toNat=w+1:=by omega
   refine Stands.one ((0,w,zo (w+1) 0):Nat×Nat×List Int) ⟨⟨zg _,k2,xz,fun k hk=>k3 k (by omega)⟩,?_⟩
   ((conv=>arg 1;reduce);with_reducible repeat' first | exact ty | refine ta ?_ ?_ | refine ti fun _ => ?_ | refine tf fun _ => ?_ | refine tl ?_)
   all_goals first | exact vlf | (show zo (w+1) (0:Int)=zo ((w:Int)+1).toNat 0;rw [ew]) | (show zo ((w:Int)+1).toNat (0:Int)=zo (w+1) 0;rw [ew])
 all_goals try (
  rename_i w0 hw d0 b0 x hx e d
  change Nat×Nat at w0
  change Nat×Nat×List Int at x
  obtain ⟨j0,w⟩:=w0
  obtain ⟨j,w',V⟩:=x
  obtain ⟨k1,k2,k3,k4⟩:j≤P.length∧w'<N∧V.length=w'+1∧∀ k,k<P.length→P.getD k 0≤(w':Int):=hx
  have e:(w:Int)=(w':Int):=e
  obtain rfl:w=w':=by omega
  have d:(j:Int)<(n:Int):=ng d
  have r1:=pR j (by omega)
  have r2:=k4 j (by omega)
  have eV:l.getD ((j:Int).toNat+i) 0=P.getD j 0:=pv j (by omega)
  first
  | exact on_of ho (by omega)
  | exact d
  | (show (j:Int).toNat+i<l.length;omega)
  | (show 0≤l.getD ((j:Int).toNat+i) 0;omega)
  | (show l.getD ((j:Int).toNat+i) 0<(((w:Int)+1).toNat:Int);omega)
  | (show (l.getD ((j:Int).toNat+i) 0).toNat+0<V.length;omega)
  | exact inR64 (n:=(j:Int)+1) (by omega) (by omega)
  | (refine Stands.one ((j+1,w,V.set ((l.getD ((j:Int).toNat+i) 0).toNat+0) (ibit .xor .i64 (V.getD ((l.getD ((j:Int).toNat+i) 0).toNat+0) 0) 1)):Nat×Nat×List Int) ⟨⟨by show j+1≤P.length;omega,k2,by show (V.set _ _).length=_;rw [zh];exact k3,k4⟩,by show P.length - (j+1)<P.length - j;omega,?_⟩
     exact vgo))
 · rename_i w0 hw d0 b0 x hx e d
   change Nat×Nat at w0
   change Nat×Nat×List Int at x
   obtain ⟨j0,w⟩:=w0
   obtain ⟨j,w',V⟩:=x
   obtain ⟨k1,k2,k3,k4⟩:j≤P.length∧w'<N∧V.length=w'+1∧∀ k,k<P.length→P.getD k 0≤(w':Int):=hx
   have e:(w:Int)=(w':Int):=e
   exact ⟨by show 0+((w:Int)+1).toNat≤V.length;omega,by show ((w:Int)+1).toNat<1000000000;omega,nofun⟩
 · rename_i w0 hw d0 b0 x hx e d y hy
   change Nat×Nat at w0
   change Lq at y
   obtain ⟨j0,w⟩:=w0
   have k2:w<N:=hw.2.1
   have hy:Oqw y.1 y.2∧Byt8 y.1∧8*y.1.length≤((w:Int)+1).toNat+7:=hy
   refine Ends.one (y:Lq) ⟨hy.1,hy.2.1,by omega⟩ ?_
   exact vgo
def fcRof (N:Nat):Fc Tryz.prog C0 where
 tg:=.fn 111
 X:=Sl3
 args:=fun (o,b,q,l,i,n,c)=>[.sl 0 i n c]
 mem:=fun (o,b,q,l,i,n,c)=>[⟨b,q,1,false,some o,.rows 3 l⟩]
 pre:=fun s=>(N<100000000∧0<N)∧Sl3.pre s∧Rng ((s.2.2.2.1.drop s.2.2.2.2.1).take s.2.2.2.2.2.1) N
 alts:=fun (o,b,q,l,i,n,c)=>[⟨Lq,fun y=>Oqw y.1 y.2∧Byt8 y.1∧8*y.1.length≤N+7,fun y=>.sl 1 0 y.1.length y.2.2.2.2.2,fun y=>[⟨b,q,1,false,some o,.rows 3 l⟩,obC true y.2]⟩]
 mat vs m:=match vs with
  | [.sl s i n c]=>match nth m s with
    | ⟨b,q,_,_,g,.rows 3 l⟩=>some ((onOf g,b,q,l,i,n,c),[s])
    | _=>none
  | _=>none
 ok:=fun (o,b,q,l,i,n,c) h=>rof_ok N h.1.1 h.1.2 o b q l i n c h.2.1.1 h.2.1.2.1 h.2.1.2.2 _ rfl h.2.2
end
end Go.Vx
namespace Go.Vx
open Go Go.Proofs
noncomputable section
variable [Gl]
def Bm7 (n n2:Nat):Inv' C0:=⟨7,Nat×Nat×Nat×List Int,fun x=>[(8,.int .i64 (x.1:Int)),(5,.int .i64 ((x.2.1:Int) - 1)),(6,.int .i64 ((x.2.2.1:Int) - 1))],fun x m=>match m with
 | [p,q,t]=>[p,q,⟨t.block,t.base,1,true,none,.rows 3 x.2.2.2⟩]
 | m=>m,fun x=>(1≤x.2.1∧x.2.1≤8*n∧1≤x.2.2.1∧x.2.2.1≤8*n2)∧x.2.2.2.length=x.2.1+x.2.2.1 - 1∧x.1≤x.2.1,fun x=>x.2.1 - x.1⟩
def Bm11 (n n2:Nat):Inv' C0:=⟨11,Nat×Nat×Nat×Nat×List Int,fun x=>[(8,.int .i64 (x.1:Int)),(9,.int .i64 (x.2.1:Int)),(5,.int .i64 ((x.2.2.1:Int) - 1)),(6,.int .i64 ((x.2.2.2.1:Int) - 1))],fun x m=>match m with
 | [p,q,t]=>[p,q,⟨t.block,t.base,1,true,none,.rows 3 x.2.2.2.2⟩]
 | m=>m,fun x=>(1≤x.2.2.1∧x.2.2.1≤8*n∧1≤x.2.2.2.1∧x.2.2.2.1≤8*n2)∧x.2.2.2.2.length=x.2.2.1+x.2.2.2.1 - 1∧x.1<x.2.2.1∧x.2.1≤x.2.2.2.1,fun x=>x.2.2.2.1 - x.2.1⟩
set_option maxHeartbeats 4000000 in
theorem rbmul_ok (o:Bool) (b q:Nat) (l:List Int) (i n c:Nat) (h:i+n≤l.length) (hn:n<10000000) (ho:o=false→n=0∧c=0) (kP:Byt8 ((l.drop i).take n)) (o2:Bool) (b2 q2:Nat) (l2:List Int) (i2 n2 c2:Nat) (h2:i2+n2≤l2.length) (hn2:n2<10000000) (ho2:o2=false→n2=0∧c2=0) (kQ:Byt8 ((l2.drop i2).take n2)):
 Does (C:=C0) Tryz.prog (.fn 81) [⟨b,q,1,false,some o,.rows 5 l⟩,⟨b2,q2,1,false,some o2,.rows 5 l2⟩] [.sl 0 i n c,.sl 1 i2 n2 c2]
  [⟨Lq,fun y=>Oqw y.1 y.2∧Byt8 y.1∧y.1.length≤n+n2,fun y=>.sl 2 0 y.1.length y.2.2.2.2.2,fun y=>[⟨b,q,1,false,some o,.rows 5 l⟩,⟨b2,q2,1,false,some o2,.rows 5 l2⟩,obC true y.2]⟩]:=by
 have hby:(Tryz.prog.types[3].bytes:Int)=8:=by kernel_rfl
 refine loc_fn (P:=Tryz.prog) (E:=⟨[fcRdeg,fcRbits],[pcRbit],56,[(13,[],[.p 0,.p 1,.p 2,.p 3,.p 4,.p 5,.p 6,.p 7,.p 8,.p 10,.p 11,.q 9,.q 12,.p 13,.p 14,.e 15])],[],[],none⟩) (L:=[Bm7 n n2,Bm11 n n2]) mix Tryz.func81 rfl (by kernel_rfl) (by kernel_rfl) rfl rfl ?_
 ((conv=>arg 1;reduce);with_reducible repeat' first | exact ty | refine ta ?_ ?_ | refine ti fun _ => ?_ | refine tf fun _ => ?_ | refine tl ?_)
 all_goals try exact vlf
 · exact ⟨⟨h,by show n<1000000000;omega,ho⟩,kP⟩
 · exact ⟨⟨h2,by show n2<1000000000;omega,ho2⟩,kQ⟩
 · refine Ends.one (([],(false,0,0,[],0)):Lq) ⟨Oqw.none,(fun x hx=>nomatch hx),zg _⟩ ?_
   exact vgo
 all_goals try (
  rename_i d hd e he z
  change Nat at d
  change Nat at e
  have hd:d≤8*n:=hd
  have he:e≤8*n2:=he
  simp only [xf,decide_eq_false_iff_not,SB.val] at z
  rw [hby]
  show 0≤(d:Int) - 1+((e:Int) - 1)+1∧(d:Int) - 1+((e:Int) - 1)+1≤(d:Int) - 1+((e:Int) - 1)+1∧8*((d:Int) - 1+((e:Int) - 1)+1)≤281474976710656∧(d:Int) - 1+((e:Int) - 1)+1≤9223372036854775807
  omega)
 · rename_i d hd e he z b0
   change Nat at d
   change Nat at e
   have hd:d≤8*n:=hd
   have he:e≤8*n2:=he
   simp only [xf,decide_eq_false_iff_not,SB.val] at z
   refine Stands.one ((0,d,e,zo ((d:Int) - 1+((e:Int) - 1)+1).toNat 0):Nat×Nat×Nat×List Int) ⟨⟨⟨by show 1≤d;omega,hd,by show 1≤e;omega,he⟩,by show (zo _ _).length=d+e - 1;rw [xz];omega,zg _⟩,?_⟩
   exact vgo
 all_goals try (
  rename_i d hd e he z b0 x hx x1 x2 x3
  change Nat×Nat×Nat×List Int at x
  obtain ⟨j,d',e',V⟩:=x
  have hx:(1≤d'∧d'≤8*n∧1≤e'∧e'≤8*n2)∧V.length=d'+e' - 1∧j≤d':=hx
  exact ⟨⟨h,by show n<1000000000;omega,ho⟩,⟨by show 0≤(j:Int);omega,by show (j:Int)<10000000000;omega⟩,kP⟩)
 all_goals try (
  rename_i d hd e he z b0 x hx x1 x2 x3 x4
  change Nat×Nat×Nat×List Int at x
  obtain ⟨j,d',e',V⟩:=x
  have hx:(1≤d'∧d'≤8*n∧1≤e'∧e'≤8*n2)∧V.length=d'+e' - 1∧j≤d':=hx
  have x3:(j:Int)≤(d':Int) - 1:=ng x3
  first
  | exact inR64 (n:=(j:Int)+1) (by omega) (by omega)
  | (refine Stands.one ((j+1,d',e',V):Nat×Nat×Nat×List Int) ⟨⟨hx.1,hx.2.1,by show j+1≤d';omega⟩,by show d' - (j+1)<d' - j;omega,?_⟩
     exact vgo)
  | (refine Stands.one ((j,0,d',e',V):Nat×Nat×Nat×Nat×List Int) ⟨⟨hx.1,hx.2.1,by show j<d';omega,zg _⟩,?_⟩
     exact vgo))
 all_goals try (
  rename_i d hd e he z b0 w hw x1 x2 x3 x4 x hx y1 y2 y3 y4
  change Nat at d
  change Nat at e
  change Nat×Nat×Nat×List Int at w
  change Nat×Nat×Nat×Nat×List Int at x
  obtain ⟨i',d1,e1,V1⟩:=w
  obtain ⟨j,k,d',e',V⟩:=x
  have hx:(1≤d'∧d'≤8*n∧1≤e'∧e'≤8*n2)∧V.length=d'+e' - 1∧j<d'∧k≤e':=hx
  have x1:(d:Int) - 1=(d1:Int) - 1:=x1
  have x2:(e:Int) - 1=(e1:Int) - 1:=x2
  have y2:(d1:Int) - 1=(d':Int) - 1:=y2
  have y3:(e1:Int) - 1=(e':Int) - 1:=y3
  have y4:(k:Int)≤(e':Int) - 1:=ng y4
  first
  | exact inR64 (n:=(j:Int)+(k:Int)) (by omega) (by omega)
  | exact inR64 (n:=(k:Int)+1) (by omega) (by omega)
  | (show (j:Int)+(k:Int)<(((d:Int) - 1+((e:Int) - 1)+1).toNat:Int);omega)
  | (show ((j:Int)+(k:Int)).toNat+0<V.length;omega)
  | exact ⟨⟨h2,by show n2<1000000000;omega,ho2⟩,⟨by show 0≤(k:Int);omega,by show (k:Int)<10000000000;omega⟩,kQ⟩
  | (refine Stands.one ((j,k+1,d',e',V.set (((j:Int)+(k:Int)).toNat+0) (ibit .xor .i64 (V.getD (((j:Int)+(k:Int)).toNat+0) 0) (((bt ((l2.drop i2).take n2) (k:Int).toNat).toNat:Nat):Int))):Nat×Nat×Nat×Nat×List Int) ⟨⟨hx.1,by show (V.set _ _).length=_;rw [zh];exact hx.2.1,hx.2.2.1,by show k+1≤e';omega⟩,by show e' - (k+1)<e' - k;omega,?_⟩
     exact vgo))
 all_goals try (
  rename_i d hd e he z b0 w hw x1 x2 x3 x4 x hx y1 y2 y3 y4
  change Nat×Nat×Nat×List Int at w
  change Nat×Nat×Nat×Nat×List Int at x
  obtain ⟨i',d1,e1,V1⟩:=w
  obtain ⟨j,k,d',e',V⟩:=x
  have hx:(1≤d'∧d'≤8*n∧1≤e'∧e'≤8*n2)∧V.length=d'+e' - 1∧j<d'∧k≤e':=hx
  have y1:(i':Int)=(j:Int):=y1
  have y2:(d1:Int) - 1=(d':Int) - 1:=y2
  have y4:¬ (k:Int)≤(e':Int) - 1:=nf y4
  first
  | exact inR64 (n:=(j:Int)+1) (by omega) (by omega)
  | (refine Stands.one ((j+1,d',e',V):Nat×Nat×Nat×List Int) ⟨⟨hx.1,hx.2.1,by show j+1≤d';omega⟩,by show d' - (j+1)<d1 - i';omega,?_⟩
     exact vgo))
 · rename_i d hd e he z b0 x hx x1 x2 x3
   change Nat at d
   change Nat at e
   change Nat×Nat×Nat×List Int at x
   obtain ⟨j,d',e',V⟩:=x
   have hx:(1≤d'∧d'≤8*n∧1≤e'∧e'≤8*n2)∧V.length=d'+e' - 1∧j≤d':=hx
   have x1:(d:Int) - 1=(d':Int) - 1:=x1
   have x2:(e:Int) - 1=(e':Int) - 1:=x2
   exact ⟨by show 0+((d:Int) - 1+((e:Int) - 1)+1).toNat≤V.length;omega,by show ((d:Int) - 1+((e:Int) - 1)+1).toNat<1000000000;omega,nofun⟩
 · rename_i d hd e he z b0 x hx x1 x2 x3 y hy
   change Nat at d
   change Nat at e
   change Lq at y
   have hd:d≤8*n:=hd
   have he:e≤8*n2:=he
   simp only [xf,decide_eq_false_iff_not,SB.val] at z
   have hy:Oqw y.1 y.2∧Byt8 y.1∧8*y.1.length≤((d:Int) - 1+((e:Int) - 1)+1).toNat+7:=hy
   refine Ends.one (y:Lq) ⟨hy.1,hy.2.1,by have:=hy.2.2;omega⟩ ?_
   exact vgo
def fcRbmul:Fc Tryz.prog C0 where
 tg:=.fn 81
 X:=Sl3×Sl3
 args:=fun ((o,b,q,l,i,n,c),(o2,b2,q2,l2,i2,n2,c2))=>[.sl 0 i n c,.sl 1 i2 n2 c2]
 mem:=fun ((o,b,q,l,i,n,c),(o2,b2,q2,l2,i2,n2,c2))=>[⟨b,q,1,false,some o,.rows 5 l⟩,⟨b2,q2,1,false,some o2,.rows 5 l2⟩]
 pre:=fun ((o,b,q,l,i,n,c),(o2,b2,q2,l2,i2,n2,c2))=>(Sl3.pre (o,b,q,l,i,n,c)∧n<10000000∧Byt8 ((l.drop i).take n))∧Sl3.pre (o2,b2,q2,l2,i2,n2,c2)∧n2<10000000∧Byt8 ((l2.drop i2).take n2)
 alts:=fun ((o,b,q,l,i,n,c),(o2,b2,q2,l2,i2,n2,c2))=>[⟨Lq,fun y=>Oqw y.1 y.2∧Byt8 y.1∧y.1.length≤n+n2,fun y=>.sl 2 0 y.1.length y.2.2.2.2.2,fun y=>[⟨b,q,1,false,some o,.rows 5 l⟩,⟨b2,q2,1,false,some o2,.rows 5 l2⟩,obC true y.2]⟩]
 mat vs m:=match vs with
  | [.sl s i n c,.sl s2 i2 n2 c2]=>match nth m s,nth m s2 with
    | ⟨b,q,_,_,g,.rows 5 l⟩,⟨b2,q2,_,_,g2,.rows 5 l2⟩=>some (((onOf g,b,q,l,i,n,c),(onOf g2,b2,q2,l2,i2,n2,c2)),[s,s2])
    | _,_=>none
  | _=>none
 ok:=fun ((o,b,q,l,i,n,c),(o2,b2,q2,l2,i2,n2,c2)) h=>rbmul_ok o b q l i n c h.1.1.1 h.1.2.1 h.1.1.2.2 h.1.2.2 o2 b2 q2 l2 i2 n2 c2 h.2.1.1 h.2.2.1 h.2.1.2.2 h.2.2.2
section
variable (F:Gf)
def Mi4:Inv' C0:=⟨4,Nat×Lq,fun x=>[(7,.int .i64 (x.1:Int)),(6,.sl 1 0 x.2.1.length x.2.2.2.2.2.2)],fun x m=>match m with
 | p :: _=>[p,oqC true x.2.2]
 | m=>m,fun x=>x.1≤16384∧Oqw x.2.1 x.2.2∧x.2.1.length=x.1,fun x=>16384 - x.1⟩
def Mi10:Inv' C0:=⟨10,Nat×Lq,fun x=>[(10,.int .i64 (x.1:Int)),(9,.sl 3 0 x.2.1.length x.2.2.2.2.2.2)],fun x m=>match m with
 | a :: b :: p :: _=>[a,b,p,oqC true x.2.2]
 | m=>m,fun x=>x.1≤39999∧Oqw x.2.1 x.2.2∧x.2.1.length≤x.1∧Rng x.2.1 40000,fun x=>39999 - x.1⟩
set_option maxHeartbeats 4000000 in
theorem rminimal_ok (i:Int) (h1 : -1000000000<i) (h2:i<1000000000):
 Does (C:=C0) Tryz.prog (.fn 82) [] [.int .i64 (F.m:Int),.int .i64 i]
  [⟨Lq,fun y=>Oqw y.1 y.2∧Byt8 y.1∧y.1.length≤5001,fun y=>.sl 0 0 y.1.length y.2.2.2.2.2,fun y=>[obC true y.2]⟩]:=by
 have hby:Tryz.prog.types[3].bytes=8:=by kernel_rfl
 obtain ⟨hs,h7,hh⟩:=nF_sz F
 refine loc_fn (P:=Tryz.prog) (E:=⟨[fcRcoset F,fcRfroots F,fcRof 40000],[pcRexp F],49,[],[],[],none⟩) (L:=[Mi4,Mi10]) mix Tryz.func82 rfl (by kernel_rfl) (by kernel_rfl) rfl rfl ?_
 ((conv=>arg 1;reduce);with_reducible repeat' first | exact ty | refine ta ?_ ?_ | refine ti fun _ => ?_ | refine tf fun _ => ?_ | refine tl ?_)
 all_goals try exact vlf
 · exact ⟨h1,h2⟩
 · refine Stands.one ((0,[],(false,0,0,[],0)):Nat×Lq) ⟨⟨zg _,Oqw.none,rfl⟩,?_⟩
   exact vgo
 all_goals try (
  rename_i y hy x hx d
  change Lq at y
  change Nat×Lq at x
  obtain ⟨A,y⟩:=y
  obtain ⟨j,L,z⟩:=x
  obtain ⟨a1,a2,a3⟩:Oqw A y∧A.length≤nF F∧Rng A (nF F):=hy
  have d:(j:Int)<(A.length:Int):=ng d
  have c1:=a1.cap
  have c2:=a1.len
  first
  | exact on_of a1.nil (by omega)
  | exact d
  | (show (j:Int).toNat+0<y.2.2.2.1.length;omega)
  | (have r:=a3 _ (getD_mem (d:=0) (show j<A.length by omega))
     have e:y.2.2.2.1.getD ((j:Int).toNat+0) 0=A.getD j 0:=by rw [show (j:Int).toNat+0=j by omega];exact a1.at (by omega)
     exact ⟨by show -1000000000<y.2.2.2.1.getD ((j:Int).toNat+0) 0;omega,by show y.2.2.2.1.getD ((j:Int).toNat+0) 0<1000000000;omega⟩))
 all_goals try (
  rename_i y hy x hx d b1
  change Lq at y
  change Nat×Lq at x
  obtain ⟨j,L,z⟩:=x
  obtain ⟨k1,k2,k3⟩:j≤16384∧Oqw L z∧L.length=j:=hx
  have c1:=k2.cap
  have c2:=k2.len
  first
  | (rw [hby];exact ⟨c1,by show 0+z.2.2.2.2≤z.2.2.2.1.length;omega,zw _,by show (L.length+1)*8≤_;omega⟩)
  | exact k2.nil)
 all_goals try (
  rename_i y hy x hx d g1 g2 g3 sp k h3 h4
  change Lq at y
  change Nat×Lq at x
  change List Int at sp
  obtain ⟨A,y⟩:=y
  obtain ⟨j,L,z⟩:=x
  obtain ⟨a1,a2,a3⟩:Oqw A y∧A.length≤nF F∧Rng A (nF F):=hy
  obtain ⟨k1,k2,k3⟩:j≤16384∧Oqw L z∧L.length=j:=hx
  have d:(j:Int)<(A.length:Int):=ng d
  have h3:L.length+1≤k:=h3
  have h4:k≤L.length+1+sp.length:=h4
  first
  | exact inR64 (n:=(j:Int)+1) (by omega) (by omega)
  | (refine Stands.one ((j+1,L ++ [vi (exF F (y.2.2.2.1.getD ((j:Int).toNat+0) 0))],(true,g2,g3,z.2.2.2.1.take L.length ++ [vi (exF F (y.2.2.2.1.getD ((j:Int).toNat+0) 0))] ++ sp,k)):Nat×Lq) ⟨⟨by show j+1≤16384;omega,k2.snoc _ _ _ _ _ sp _ rfl h3 h4 rfl,by show (L ++ [_]).length=j+1;rw [zx];show L.length+1=j+1;omega⟩,by show 16384 - (j+1)<16384 - j;omega,?_⟩
     ((conv=>arg 1;reduce);with_reducible repeat' first | exact ty | refine ta ?_ ?_ | refine ti fun _ => ?_ | refine tf fun _ => ?_ | refine tl ?_)
     all_goals first | exact vlf | (show L.length+1=(L ++ [_]).length;rw [zx];rfl) | (show (L ++ [_]).length=L.length+1;rw [zx];rfl)))
 · rename_i y hy x hx d
   change Lq at y
   change Nat×Lq at x
   obtain ⟨j,L,z⟩:=x
   obtain ⟨k1,k2,k3⟩:j≤16384∧Oqw L z∧L.length=j:=hx
   have c1:=k2.cap
   have c2:=k2.len
   exact ⟨⟨by show 0+L.length≤z.2.2.2.1.length;omega,by show L.length<1000000000;omega,k2.nil⟩,by show L.length<10000000;omega⟩
 · refine Stands.one ((0,[],(false,0,0,[],0)):Nat×Lq) ⟨⟨zg _,Oqw.none,zw _,(fun x hx=>nomatch hx)⟩,?_⟩
   exact vgo
 all_goals try (
  rename_i y hy w hw dw y2 hy2 x hx d
  change Lq at y2
  change Nat×Lq at x
  obtain ⟨A,y2⟩:=y2
  obtain ⟨j,L,z⟩:=x
  have a1:Oqw A y2:=hy2.1
  have d:(j:Int)<(A.length:Int):=ng d
  have c1:=a1.cap
  have c2:=a1.len
  first
  | exact on_of a1.nil (by omega)
  | exact d
  | (show (j:Int).toNat+0<y2.2.2.2.1.length;omega))
 all_goals try (
  rename_i y hy w hw dw y2 hy2 x hx d dz b1
  change Nat×Lq at x
  obtain ⟨j,L,z⟩:=x
  obtain ⟨k1,k2,k3,k4⟩:j≤39999∧Oqw L z∧L.length≤j∧Rng L 40000:=hx
  have c1:=k2.cap
  have c2:=k2.len
  first
  | (rw [hby];exact ⟨c1,by show 0+z.2.2.2.2≤z.2.2.2.1.length;omega,zw _,by show (L.length+1)*8≤_;omega⟩)
  | exact k2.nil)
 all_goals try (
  rename_i y hy w hw dw y2 hy2 x hx d dz g1 g2 g3 sp k h3 h4
  change Nat×Lq at w
  change Lq at y2
  change Nat×Lq at x
  change List Int at sp
  obtain ⟨A,y2⟩:=y2
  obtain ⟨j,L,z⟩:=x
  have hy2:Oqw A y2∧A.length≤1+2*w.2.1.length:=hy2
  have hw:w.1≤16384∧Oqw w.2.1 w.2.2∧w.2.1.length=w.1:=hw
  obtain ⟨k1,k2,k3,k4⟩:j≤39999∧Oqw L z∧L.length≤j∧Rng L 40000:=hx
  have d:(j:Int)<(A.length:Int):=ng d
  have h3:L.length+1≤k:=h3
  have h4:k≤L.length+1+sp.length:=h4
  first
  | exact inR64 (n:=(j:Int)+1) (by omega) (by omega)
  | (refine Stands.one ((j+1,L ++ [(j:Int)],(true,g2,g3,z.2.2.2.1.take L.length ++ [(j:Int)] ++ sp,k)):Nat×Lq) ⟨⟨by show j+1≤39999;omega,k2.snoc _ _ _ _ _ sp _ rfl h3 h4 rfl,by show (L ++ [_]).length≤j+1;rw [zx];show L.length+1≤j+1;omega,fun v hv => ?_⟩,by show 39999 - (j+1)<39999 - j;omega,?_⟩
     · rcases List.mem_append.1 hv with hv | hv
       · exact k4 v hv
       · rw [List.mem_singleton.1 hv];omega
     ((conv=>arg 1;reduce);with_reducible repeat' first | exact ty | refine ta ?_ ?_ | refine ti fun _ => ?_ | refine tf fun _ => ?_ | refine tl ?_)
     all_goals first | exact vlf | (show L.length+1=(L ++ [_]).length;rw [zx];rfl) | (show (L ++ [_]).length=L.length+1;rw [zx];rfl)))
 all_goals try (
  rename_i y hy w hw dw y2 hy2 x hx d dz
  change Nat×Lq at w
  change Lq at y2
  change Nat×Lq at x
  obtain ⟨A,y2⟩:=y2
  obtain ⟨j,L,z⟩:=x
  have hy2:Oqw A y2∧A.length≤1+2*w.2.1.length:=hy2
  have hw:w.1≤16384∧Oqw w.2.1 w.2.2∧w.2.1.length=w.1:=hw
  obtain ⟨k1,k2,k3,k4⟩:j≤39999∧Oqw L z∧L.length≤j∧Rng L 40000:=hx
  have d:(j:Int)<(A.length:Int):=ng d
  first
  | exact inR64 (n:=(j:Int)+1) (by omega) (by omega)
  | (refine Stands.one ((j+1,L,z):Nat×Lq) ⟨⟨by show j+1≤39999;omega,k2,by show L.length≤j+1;omega,k4⟩,by show 39999 - (j+1)<39999 - j;omega,?_⟩
     exact vgo))
 · rename_i y hy w hw dw y2 hy2 x hx d
   change Nat×Lq at x
   obtain ⟨j,L,z⟩:=x
   obtain ⟨k1,k2,k3,k4⟩:j≤39999∧Oqw L z∧L.length≤j∧Rng L 40000:=hx
   have c1:=k2.cap
   have c2:=k2.len
   refine ⟨⟨by decide,by decide⟩,⟨by show 0+L.length≤z.2.2.2.1.length;omega,by show L.length<1000000000;omega,k2.nil⟩,?_⟩
   show Rng ((z.2.2.2.1.drop 0).take L.length) 40000
   rw [zm,k2.eq];exact k4
 · rename_i y hy w hw dw y2 hy2 x hx d v hv
   change Lq at v
   have hv:Oqw v.1 v.2∧Byt8 v.1∧8*v.1.length≤40000+7:=hv
   refine Ends.one (v:Lq) ⟨hv.1,hv.2.1,by have:=hv.2.2;omega⟩ ?_
   exact vgo
def fcRminimal:Fc Tryz.prog C0 where
 tg:=.fn 82
 X:=Int
 args i:=[.int .i64 (F.m:Int),.int .i64 i]
 mem _:=[]
 pre i := -1000000000<i∧i<1000000000
 alts i:=[⟨Lq,fun y=>Oqw y.1 y.2∧Byt8 y.1∧y.1.length≤5001,fun y=>.sl 0 0 y.1.length y.2.2.2.2.2,fun y=>[obC true y.2]⟩]
 mat vs m:=match vs with
  | [_,.int _ i]=>some (i,[])
  | _=>none
 ok i h:=rminimal_ok F i h.1 h.2
def Ge6 (n:Nat):Inv' C0:=⟨6,Nat×Lq,fun x=>[(10,.int .i64 (x.1:Int)),(9,.sl 1 0 x.2.1.length x.2.2.2.2.2.2),(21,.junk)],fun x m=>match m with
 | p :: _=>[p,obC true x.2.2]
 | m=>m,fun x=>x.1≤n∧Oqw x.2.1 x.2.2∧Byt8 x.2.1∧x.2.1.length≤1+5001*x.1,fun x=>n - x.1⟩
set_option maxHeartbeats 4000000 in
theorem rgen_ok (t:Nat) (t1:1≤t) (t40:t≤40) (hD:(lsO (nF F) t).2.2<nF F):
 Does (C:=C0) Tryz.prog (.fn 56) [] [.int .i64 (F.m:Int),.int .i64 (t:Int)]
  [⟨Lq,fun y=>Oqw y.1 y.2,fun y=>.tup [.sl 0 0 y.1.length y.2.2.2.2.2,.int .i64 0],fun y=>[obC true y.2]⟩]:=by
 obtain ⟨f1,f2,f3,f4⟩:=lsO_facts (nF F) t
 refine loc_fn (P:=Tryz.prog) (E:=⟨[fcRleast F,fcRminimal F,fcRbmul],[],38,[],[],[],none⟩) (L:=[Ge6 (lsO (nF F) t).2.1.length]) mix Tryz.func56 rfl (by kernel_rfl) (by kernel_rfl) rfl rfl ?_
 ((conv=>arg 1;reduce);with_reducible repeat' first | exact ty | refine ta ?_ ?_ | refine ti fun _ => ?_ | refine tf fun _ => ?_ | refine tl ?_)
 all_goals try exact vlf
 · exact ⟨t1,t40,hD⟩
 · rename_i d;exact absurd (ng d) (fun h=>h rfl)
 · rename_i y hy d b0
   refine Stands.one ((0,[1],(true,b0,0,[1],1)):Nat×Lq) ⟨⟨zg _,⟨rfl,zw _,zw _,nofun⟩,(fun x hx=>by rw [List.mem_singleton.1 hx];decide),zw _⟩,?_⟩
   exact vgo
 all_goals try (
  rename_i y hy d0 b0 x hx d
  change Oq at y
  change Nat×Lq at x
  obtain ⟨j,L,z⟩:=x
  have a1:Oqw (lsO (nF F) t).2.1 y:=hy
  have d:(j:Int)<((lsO (nF F) t).2.1.length:Int):=ng d
  have c1:=a1.cap
  have c2:=a1.len
  first
  | exact on_of a1.nil (by omega)
  | exact d
  | (show (j:Int).toNat+0<y.2.2.2.1.length;omega)
  | (have r:=f4 _ (getD_mem (d:=0) (show j<(lsO (nF F) t).2.1.length by omega))
     have e:y.2.2.2.1.getD ((j:Int).toNat+0) 0=(lsO (nF F) t).2.1.getD j 0:=by rw [show (j:Int).toNat+0=j by omega];exact a1.at (by omega)
     exact ⟨by show -1000000000<y.2.2.2.1.getD ((j:Int).toNat+0) 0;omega,by show y.2.2.2.1.getD ((j:Int).toNat+0) 0<1000000000;omega⟩))
 · rename_i y hy d0 b0 x hx d v hv
   change Nat×Lq at x
   change Lq at v
   obtain ⟨j,L,z⟩:=x
   obtain ⟨k1,k2,k3,k4⟩:j≤(lsO (nF F) t).2.1.length∧Oqw L z∧Byt8 L∧L.length≤1+5001*j:=hx
   obtain ⟨v1,v2,v3⟩:Oqw v.1 v.2∧Byt8 v.1∧v.1.length≤5001:=hv
   have c1:=k2.cap
   have c2:=k2.len
   have c3:=v1.cap
   have c4:=v1.len
   refine ⟨⟨⟨by show 0+L.length≤z.2.2.2.1.length;omega,by show L.length<1000000000;omega,k2.nil⟩,by show L.length<10000000;omega,?_⟩,⟨by show 0+v.1.length≤v.2.2.2.2.1.length;omega,by show v.1.length<1000000000;omega,v1.nil⟩,by show v.1.length<10000000;omega,?_⟩
   · show Byt8 ((z.2.2.2.1.drop 0).take L.length);rw [zm,k2.eq];exact k3
   · show Byt8 ((v.2.2.2.2.1.drop 0).take v.1.length);rw [zm,v1.eq];exact v2
 all_goals try (
  rename_i y hy d0 b0 x hx d v hv u hu
  change Nat×Lq at x
  change Lq at v
  change Lq at u
  obtain ⟨j,L,z⟩:=x
  obtain ⟨k1,k2,k3,k4⟩:j≤(lsO (nF F) t).2.1.length∧Oqw L z∧Byt8 L∧L.length≤1+5001*j:=hx
  obtain ⟨v1,v2,v3⟩:Oqw v.1 v.2∧Byt8 v.1∧v.1.length≤5001:=hv
  obtain ⟨u1,u2,u3⟩:Oqw u.1 u.2∧Byt8 u.1∧u.1.length≤L.length+v.1.length:=hu
  have d:(j:Int)<((lsO (nF F) t).2.1.length:Int):=ng d
  first
  | exact inR64 (n:=(j:Int)+1) (by omega) (by omega)
  | (refine Stands.one ((j+1,u.1,u.2):Nat×Lq) ⟨⟨by show j+1≤_;omega,u1,u2,by show u.1.length≤1+5001*(j+1);omega⟩,by show _ - (j+1)<_ - j;omega,?_⟩
     exact vgo))
 · rename_i y hy d0 b0 x hx d
   change Nat×Lq at x
   obtain ⟨j,L,z⟩:=x
   refine Ends.one ((L,z):Lq) hx.2.1 ?_
   exact vgo
def fcRgen:Fc Tryz.prog C0 where
 tg:=.fn 56
 X:=Nat
 args t:=[.int .i64 (F.m:Int),.int .i64 (t:Int)]
 mem _:=[]
 pre t:=1≤t∧t≤40∧(lsO (nF F) t).2.2<nF F
 alts t:=[⟨Lq,fun y=>Oqw y.1 y.2,fun y=>.tup [.sl 0 0 y.1.length y.2.2.2.2.2,.int .i64 0],fun y=>[obC true y.2]⟩]
 mat vs m:=match vs with
  | [_,.int _ (t:Nat)]=>some (t,[])
  | _=>none
 ok t h:=rgen_ok F t h.1 h.2.1 h.2.2
end
end
end Go.Vx
namespace Go.Vx
noncomputable section
def gf5:Gf:=Gf.of 5 37 (by omega) (by omega) (by kernel_rfl) (by kernel_rfl) (by decide) (by kernel_rfl)
theorem kd5_1:kdOK 5 37 1=true:=by kernel_rfl
theorem kd5_2:kdOK 5 37 2=true:=by kernel_rfl
theorem kd5_3:kdOK 5 37 3=true:=by kernel_rfl
theorem kd5_4:kdOK 5 37 4=true:=by kernel_rfl
theorem kd5_5:kdOK 5 37 5=true:=by kernel_rfl
def gf6:Gf:=Gf.of 6 67 (by omega) (by omega) (by kernel_rfl) (by kernel_rfl) (by decide) (by kernel_rfl)
theorem kd6_1:kdOK 6 67 1=true:=by kernel_rfl
theorem kd6_2:kdOK 6 67 2=true:=by kernel_rfl
theorem kd6_3:kdOK 6 67 3=true:=by kernel_rfl
theorem kd6_4:kdOK 6 67 4=true:=by kernel_rfl
theorem kd6_5:kdOK 6 67 5=true:=by kernel_rfl
def gf7:Gf:=Gf.of 7 137 (by omega) (by omega) (by kernel_rfl) (by kernel_rfl) (by decide) (by kernel_rfl)
theorem kd7_1:kdOK 7 137 1=true:=by kernel_rfl
theorem kd7_2:kdOK 7 137 2=true:=by kernel_rfl
theorem kd7_3:kdOK 7 137 3=true:=by kernel_rfl
theorem kd7_4:kdOK 7 137 4=true:=by kernel_rfl
theorem kd7_5:kdOK 7 137 5=true:=by kernel_rfl
def gf8:Gf:=Gf.of 8 285 (by omega) (by omega) (by kernel_rfl) (by kernel_rfl) (by decide) (by kernel_rfl)
theorem kd8_1:kdOK 8 285 1=true:=by kernel_rfl
theorem kd8_2:kdOK 8 285 2=true:=by kernel_rfl
theorem kd8_3:kdOK 8 285 3=true:=by kernel_rfl
theorem kd8_4:kdOK 8 285 4=true:=by kernel_rfl
theorem kd8_5:kdOK 8 285 5=true:=by kernel_rfl
end
end Go.Vx
namespace Go.Vx
open Go Go.Proofs
noncomputable section
variable [Gl]
structure Cd where
 F:Gf
 K:Kd F
 m8:5≤F.m∧F.m≤8
 t5:K.t≤5
 hd:(lsO (2 ^ F.m - 1) K.t).2.2=K.D
theorem code_of (m t:Nat) (h1:5≤m) (h2:m≤8) (h3:1≤t) (h4:t≤5):∃ c:Cd,c.F.m=m∧c.K.t=t:=by
 have hm:m=5∨m=6∨m=7∨m=8:=by omega
 have ht:t=1∨t=2∨t=3∨t=4∨t=5:=by omega
 rcases hm with rfl | rfl | rfl | rfl
 · rcases ht with rfl | rfl | rfl | rfl | rfl
   · exact ⟨⟨gf5,Kd.of gf5 1 kd5_1,⟨by decide,by decide⟩,by decide,by kernel_rfl⟩,rfl,rfl⟩
   · exact ⟨⟨gf5,Kd.of gf5 2 kd5_2,⟨by decide,by decide⟩,by decide,by kernel_rfl⟩,rfl,rfl⟩
   · exact ⟨⟨gf5,Kd.of gf5 3 kd5_3,⟨by decide,by decide⟩,by decide,by kernel_rfl⟩,rfl,rfl⟩
   · exact ⟨⟨gf5,Kd.of gf5 4 kd5_4,⟨by decide,by decide⟩,by decide,by kernel_rfl⟩,rfl,rfl⟩
   · exact ⟨⟨gf5,Kd.of gf5 5 kd5_5,⟨by decide,by decide⟩,by decide,by kernel_rfl⟩,rfl,rfl⟩
 · rcases ht with rfl | rfl | rfl | rfl | rfl
   · exact ⟨⟨gf6,Kd.of gf6 1 kd6_1,⟨by decide,by decide⟩,by decide,by kernel_rfl⟩,rfl,rfl⟩
   · exact ⟨⟨gf6,Kd.of gf6 2 kd6_2,⟨by decide,by decide⟩,by decide,by kernel_rfl⟩,rfl,rfl⟩
   · exact ⟨⟨gf6,Kd.of gf6 3 kd6_3,⟨by decide,by decide⟩,by decide,by kernel_rfl⟩,rfl,rfl⟩
   · exact ⟨⟨gf6,Kd.of gf6 4 kd6_4,⟨by decide,by decide⟩,by decide,by kernel_rfl⟩,rfl,rfl⟩
   · exact ⟨⟨gf6,Kd.of gf6 5 kd6_5,⟨by decide,by decide⟩,by decide,by kernel_rfl⟩,rfl,rfl⟩
 · rcases ht with rfl | rfl | rfl | rfl | rfl
   · exact ⟨⟨gf7,Kd.of gf7 1 kd7_1,⟨by decide,by decide⟩,by decide,by kernel_rfl⟩,rfl,rfl⟩
   · exact ⟨⟨gf7,Kd.of gf7 2 kd7_2,⟨by decide,by decide⟩,by decide,by kernel_rfl⟩,rfl,rfl⟩
   · exact ⟨⟨gf7,Kd.of gf7 3 kd7_3,⟨by decide,by decide⟩,by decide,by kernel_rfl⟩,rfl,rfl⟩
   · exact ⟨⟨gf7,Kd.of gf7 4 kd7_4,⟨by decide,by decide⟩,by decide,by kernel_rfl⟩,rfl,rfl⟩
   · exact ⟨⟨gf7,Kd.of gf7 5 kd7_5,⟨by decide,by decide⟩,by decide,by kernel_rfl⟩,rfl,rfl⟩
 · rcases ht with rfl | rfl | rfl | rfl | rfl
   · exact ⟨⟨gf8,Kd.of gf8 1 kd8_1,⟨by decide,by decide⟩,by decide,by kernel_rfl⟩,rfl,rfl⟩
   · exact ⟨⟨gf8,Kd.of gf8 2 kd8_2,⟨by decide,by decide⟩,by decide,by kernel_rfl⟩,rfl,rfl⟩
   · exact ⟨⟨gf8,Kd.of gf8 3 kd8_3,⟨by decide,by decide⟩,by decide,by kernel_rfl⟩,rfl,rfl⟩
   · exact ⟨⟨gf8,Kd.of gf8 4 kd8_4,⟨by decide,by decide⟩,by decide,by kernel_rfl⟩,rfl,rfl⟩
   · exact ⟨⟨gf8,Kd.of gf8 5 kd8_5,⟨by decide,by decide⟩,by decide,by kernel_rfl⟩,rfl,rfl⟩
theorem ls7_3:(lsO (2 ^ 7 - 1) 3).2.2=21:=by kernel_rfl
theorem ls5_2:(lsO (2 ^ 5 - 1) 2).2.2=10:=by kernel_rfl
theorem by_set1 {n:Nat} {f f':Nat→Bool} {i:Nat} {y:Nat} (hi:i<n) (hy:y<256) (hb:∀ j,j<8→y.testBit j=f' (8*i+j)) (ho:∀ k,k / 8≠i→f k=f' k):(by' n f).set i (y:Int)=by' n f':=by
 refine byt_ext (byt_set (by_byt n f) ⟨by omega,by omega⟩) (by_byt n f') (by rw [zh,by_len,by_len]) fun k hk => ?_
 rw [zh,by_len] at hk
 rw [bt_set (by rw [by_len];exact hi),zu,by_bt hk,by_bt hk]
 by_cases h:k / 8=i
 · rw [if_pos h,hb _ (yv _ (by omega)),show 8*i+k % 8=k by omega]
 · rw [if_neg h,ho k h]
@[irreducible] def clI (D:Nat) (P:List Int) (i:Nat):List Int:=by' P.length fun k=>(decide (k<D) || decide (i≤k)) && bt P k
@[irreducible] def clL (D:Nat) (P:List Int):List Int:=by' P.length fun k=>decide (k<D) && bt P k
theorem clI_len {D:Nat} {P:List Int} {i:Nat}:(clI D P i).length=P.length:=by unfold clI;exact by_len _ _
theorem clL_len {D:Nat} {P:List Int}:(clL D P).length=P.length:=by unfold clL;exact by_len _ _
theorem clL_byt {D:Nat} {P:List Int}:Byt8 (clL D P):=by unfold clL;exact by_byt _ _
theorem clL_bt {D:Nat} {P:List Int} (k:Nat):bt (clL D P) k=(decide (k<D) && bt P k):=by
 unfold clL
 by_cases h:k<8*P.length
 · rw [by_bt h]
 · rw [by_bt_out (by omega),bt_out (by omega),Bool.and_false]
theorem clI_start {D:Nat} {P:List Int} (h:Byt8 P):clI D P D=P:=by
 unfold clI
 refine (by_congr fun k _ => ?_).trans (byt_eq h).symm
 by_cases hk:k<D
 · rw [decide_eq_true hk];rfl
 · rw [decide_eq_true (show D≤k by omega),Bool.or_true,Bool.true_and]
theorem clI_end {D:Nat} {P:List Int} {i:Nat} (h:8*P.length≤i):clI D P i=clL D P:=by
 unfold clI clL
 refine by_congr fun k hk => ?_
 rw [decide_eq_false (show ¬ i≤k by omega),Bool.or_false]
theorem clI_step {D:Nat} {P:List Int} {i:Nat} (hD:D≤i) (hi:i / 8<P.length):(clI D P i).set (i / 8) (ibit .andNot .u8 ((clI D P i).getD (i / 8) 0) ((2 ^ (i % 8):Nat):Int))=clI D P (i+1):=by
 have hp:2 ^ (i % 8)≤2 ^ 7:=zj (by omega) (by omega)
 unfold clI
 obtain ⟨x,hx,x1,x2⟩:=by_at (b:=fun k=>(decide (k<D) || decide (i≤k)) && bt P k) hi
 rw [hx,an8 x1 (by omega)]
 refine by_set1 hi (Nat.lt_of_le_of_lt ub x1) (fun j hj => ?_) fun k hk => ?_
 · rw [Nat.testBit_and,x2 j hj,an_bit (yv _ (by omega)) hj]
   by_cases h:j=i % 8
   · rw [decide_eq_true h,decide_eq_false (show ¬ 8*(i / 8)+j<D by omega),decide_eq_false (show ¬ i+1≤8*(i / 8)+j by omega)];simp
   · rw [decide_eq_false h,Bool.not_false,Bool.and_true,show decide (i≤8*(i / 8)+j)=decide (i+1≤8*(i / 8)+j) from decide_eq_decide.2 (by omega)]
 · rw [show decide (i≤k)=decide (i+1≤k) from decide_eq_decide.2 (by omega)]
end
end Go.Vx
namespace Go.Vx
open Go Go.Proofs
noncomputable section
variable [Gl]
abbrev xcV (m t n:Int) (k:Nat) (L c:Nat) (D:Int):SV:=.agg [.int .i64 m,.int .i64 t,.int .i64 n,.sl k 0 L c,.int .i64 D]
theorem xpar_ok (m t n:Int) (o:Bool) (b q:Nat) (l:List Int) (L c:Nat) (D:Nat) (hD:D<1000000):Tells (C:=C0) Tryz.prog (.fn 13) [⟨b,q,1,false,some o,.rows 5 l⟩] [xcV m t n 0 L c (D:Int)] (.int .i64 (((D+7) / 8:Nat):Int)):=by
 refine loc_pc (P:=Tryz.prog) (E:=⟨[],[],7,[],[],[],none⟩) (L:=[]) mix Tryz.func13 rfl (by kernel_rfl) (by kernel_rfl) rfl rfl ?_
 ((conv=>arg 1;reduce);with_reducible repeat' first | exact ty | refine ta ?_ ?_ | refine ti fun _ => ?_ | refine tf fun _ => ?_ | refine tl ?_)
 all_goals try exact vlf
 · have e:((D:Int)+7).tdiv 8=(((D+7) / 8:Nat):Int):=by
    rw [show (D:Int)+7=((D+7:Nat):Int) by omega];exact (yj _ 8).symm
   rw [e];exact inR64 (n:=(((D+7) / 8:Nat):Int)) (by omega) (by omega)
def pcXpar:Pc Tryz.prog C0 where
 tg:=.fn 13
 X:=(Int×Int×Int)×(Bool×Nat×Nat×List Int×Nat×Nat)×Nat
 args:=fun ((m,t,n),(o,b,q,l,L,c),D)=>[xcV m t n 0 L c (D:Int)]
 mem:=fun ((m,t,n),(o,b,q,l,L,c),D)=>[⟨b,q,1,false,some o,.rows 5 l⟩]
 pre:=fun ((m,t,n),(o,b,q,l,L,c),D)=>D<1000000
 res:=fun ((m,t,n),(o,b,q,l,L,c),D)=>.int .i64 (((D+7) / 8:Nat):Int)
 mat vs m:=match vs with
  | [.agg [.int _ x,.int _ t,.int _ n,.sl s _ L c,.int _ (D:Nat)]]=>match nth m s with
    | ⟨b,q,_,_,g,.rows 5 l⟩=>some (((x,t,n),(onOf g,b,q,l,L,c),D),[s])
    | _=>none
  | _=>none
 ok:=fun ((m,t,n),(o,b,q,l,L,c),D) h=>xpar_ok m t n o b q l L c D h
theorem rbytes_ok (o:Bool) (b q:Nat) (l:List Int) (i n c:Nat) (h:i+n≤l.length) (hn:n<1000000000) (ho:o=false→n=0∧c=0) (P:List Int) (hP:(l.drop i).take n=P):
 Does (C:=C0) Tryz.prog (.fn 14) [⟨b,q,1,false,some o,.rows 5 l⟩] [.sl 0 i n c]
  [⟨Oq,fun y=>Oqw P y,fun y=>.sl 1 0 P.length y.2.2.2.2,fun y=>[⟨b,q,1,false,some o,.rows 5 l⟩,obC true y]⟩]:=by
 have hL:P.length=n:=by rw [← hP];exact row_len h
 have hby:(Tryz.prog.types[5].bytes:Int)=1:=by kernel_rfl
 have hby':Tryz.prog.types[5].bytes=1:=by kernel_rfl
 refine loc_fn (P:=Tryz.prog) (E:=⟨[],[],8,[],[],[],none⟩) (L:=[]) mix Tryz.func14 rfl (by kernel_rfl) (by kernel_rfl) rfl rfl ?_
 ((conv=>arg 1;reduce);with_reducible repeat' first | exact ty | refine ta ?_ ?_ | refine ti fun _ => ?_ | refine tf fun _ => ?_ | refine tl ?_)
 all_goals try exact vlf
 · rw [hby];omega
 · rw [hby']
   simp only [xz]
   show 0≤(n:Int).toNat∧0+(n:Int).toNat≤(n:Int).toNat∧i+n≤l.length∧(0+n)*1≤140737488355328
   omega
 · exact fun h0=>⟨(ho h0).1,(ho h0).1⟩
 · rename_i b0 g2 g3 sp k h3 h4
   change List Int at sp
   have h3:(0:Int).toNat+n≤k:=h3
   have h4:k≤(0:Int).toNat+n+sp.length:=h4
   have h3:n≤k:=by omega
   have h4:k≤n+sp.length:=by omega
   refine Ends.one ((true,g2,g3,P ++ sp,k):Oq) ⟨List.take_left' rfl,by show P.length≤k;omega,by show k≤(P ++ sp).length;rw [zx];omega,nofun⟩ ?_
   ((conv=>arg 1;reduce);with_reducible repeat' first | exact ty | refine ta ?_ ?_ | refine ti fun _ => ?_ | refine tf fun _ => ?_ | refine tl ?_)
   all_goals first
    | exact vlf
    | (show (0:Int).toNat+n=P.length;rw [hL];exact we n)
    | (show P.length=(0:Int).toNat+n;rw [hL];exact (we n).symm)
    | (show [] ++ ((l.drop i).take n) ++ sp=P ++ sp;rw [hP];rfl)
    | (show P ++ sp=[] ++ ((l.drop i).take n) ++ sp;rw [hP];rfl)
def fcRbytes:Fc Tryz.prog C0 where
 tg:=.fn 14
 X:=Sl3
 args:=fun (o,b,q,l,i,n,c)=>[.sl 0 i n c]
 mem:=fun (o,b,q,l,i,n,c)=>[⟨b,q,1,false,some o,.rows 5 l⟩]
 pre:=Sl3.pre
 alts:=fun (o,b,q,l,i,n,c)=>[⟨Oq,fun y=>Oqw ((l.drop i).take n) y,fun y=>.sl 1 0 ((l.drop i).take n).length y.2.2.2.2,fun y=>[⟨b,q,1,false,some o,.rows 5 l⟩,obC true y]⟩]
 mat vs m:=match vs with
  | [.sl s i n c]=>match nth m s with
    | ⟨b,q,_,_,g,.rows 5 l⟩=>some ((onOf g,b,q,l,i,n,c),[s])
    | _=>none
  | _=>none
 ok:=fun (o,b,q,l,i,n,c) h=>rbytes_ok o b q l i n c h.1 h.2.1 h.2.2 _ rfl
def Cl3 (D:Nat) (P:List Int):Inv' C0:=⟨3,Nat×Oq,fun x=>[(6,.int .i64 (x.1:Int)),(5,.sl 3 0 P.length x.2.2.2.2.2)],fun x m=>match m with
 | g :: p :: bx :: _=>[g,p,bx,obC true x.2]
 | m=>m,fun x=>(D≤x.1∧(x.1≤8*P.length∨x.1=D))∧Oqw (clI D P x.1) x.2,fun x=>8*P.length - x.1⟩
set_option maxHeartbeats 4000000 in
theorem xclear_ok (m t n:Int) (o:Bool) (b q:Nat) (l:List Int) (L c:Nat) (D:Nat) (hD:D<1000000) (o2:Bool) (b2 q2:Nat) (l2:List Int) (i2 n2 c2:Nat) (h2:i2+n2≤l2.length) (hn2:n2<1000000000) (ho2:o2=false→n2=0∧c2=0) (P:List Int) (hP:(l2.drop i2).take n2=P) (kP:Byt8 P):
 Does (C:=C0) Tryz.prog (.fn 12) [⟨b,q,1,false,some o,.rows 5 l⟩,⟨b2,q2,1,false,some o2,.rows 5 l2⟩] [xcV m t n 0 L c (D:Int),.sl 1 i2 n2 c2]
  [⟨Oq,fun y=>Oqw (clL D P) y,fun y=>.sl 2 0 P.length y.2.2.2.2,fun y=>[⟨b,q,1,false,some o,.rows 5 l⟩,⟨b2,q2,1,false,some o2,.rows 5 l2⟩,obC true y]⟩]:=by
 have hL:P.length=n2:=by rw [← hP];exact row_len h2
 subst hP
 refine loc_fn (P:=Tryz.prog) (E:=⟨[fcRbytes],[],33,[],[],[],none⟩) (L:=[Cl3 D ((l2.drop i2).take n2)]) mix Tryz.func12 rfl (by kernel_rfl) (by kernel_rfl) rfl rfl ?_
 ((conv=>arg 1;reduce);with_reducible repeat' first | exact ty | refine ta ?_ ?_ | refine ti fun _ => ?_ | refine tf fun _ => ?_ | refine tl ?_)
 all_goals try exact vlf
 · exact ⟨h2,hn2,ho2⟩
 · rename_i b0 y hy
   change Oq at y
   refine Stands.one ((D,y):Nat×Oq) ⟨⟨⟨zw _,.inr rfl⟩,by show Oqw (clI D _ D) y;rw [clI_start kP];exact hy⟩,?_⟩
   exact vgo
 all_goals have q8:∀ j:Nat,(j:Int).tdiv 8=((j / 8:Nat):Int):=fun j=>(yj j 8).symm
 all_goals have m8:∀ j:Nat,(j:Int).tmod 8=((j % 8:Nat):Int):=fun j=>(zb j 8).symm
 all_goals try (
  rename_i b0 y0 hy0 x hx d
  change Nat×Oq at x
  obtain ⟨j,y⟩:=x
  obtain ⟨⟨k1,k2⟩,k3⟩:(D≤j∧(j≤8*((l2.drop i2).take n2).length∨j=D))∧Oqw (clI D ((l2.drop i2).take n2) j) y:=hx
  have d:(j:Int)<8*(((l2.drop i2).take n2).length:Int):=ng d
  have lC:=clI_len (D:=D) (P:=(l2.drop i2).take n2) (i:=j)
  have c1:=k3.cap
  have c2:=k3.len
  have hj8:j / 8<((l2.drop i2).take n2).length:=by omega
  first
  | (show inR .i64 ((j:Int).tdiv 8);rw [q8];exact inR64 (n:=((j / 8:Nat):Int)) (by omega) (by omega))
  | exact on_of k3.nil (by omega)
  | (show 0≤(j:Int).tdiv 8;rw [q8];omega)
  | (show (j:Int).tdiv 8<(((l2.drop i2).take n2).length:Int);rw [q8];omega)
  | (show ((j:Int).tdiv 8).toNat+0<y.2.2.2.1.length;rw [q8];omega)
  | (show 0≤IntKind.u64.wrap ((j:Int).tmod 8);rw [m8,wu (by omega)];omega)
  | exact inR64 (n:=(j:Int)+1) (by omega) (by omega)
  | (have eN:((j:Int).tdiv 8).toNat+0=j / 8:=by rw [q8];omega
     have eS:ishl .u8 1 (IntKind.u64.wrap ((j:Int).tmod 8))=((2 ^ (j % 8):Nat):Int):=by rw [m8,wu (by omega)];exact shl1_8 (yv _ (by omega))
     have k4:=k3.put (i:=j / 8) (by omega) (ibit .andNot .u8 ((clI D ((l2.drop i2).take n2) j).getD (j / 8) 0) ((2 ^ (j % 8):Nat):Int))
     rw [clI_step k1 hj8] at k4
     have eG:y.2.2.2.1.getD (((j:Int).tdiv 8).toNat+0) 0=(clI D ((l2.drop i2).take n2) j).getD (j / 8) 0:=by rw [eN];exact k3.at (by omega)
     refine Stands.one ((j+1,(y.1,y.2.1,y.2.2.1,y.2.2.2.1.set (j / 8) (ibit .andNot .u8 ((clI D ((l2.drop i2).take n2) j).getD (j / 8) 0) ((2 ^ (j % 8):Nat):Int)),y.2.2.2.2)):Nat×Oq) ⟨⟨⟨by show D≤j+1;omega,.inl (by show j+1≤_;omega)⟩,k4⟩,by show _ - (j+1)<_ - j;omega,?_⟩
     ((conv=>arg 1;reduce);with_reducible repeat' first | exact ty | refine ta ?_ ?_ | refine ti fun _ => ?_ | refine tf fun _ => ?_ | refine tl ?_)
     all_goals first
      | exact vlf
      | (show y.2.2.2.1.set (j / 8) _=y.2.2.2.1.set (((j:Int).tdiv 8).toNat+0) (ibit .andNot .u8 (y.2.2.2.1.getD (((j:Int).tdiv 8).toNat+0) 0) (ishl .u8 1 (IntKind.u64.wrap ((j:Int).tmod 8))));rw [eG,eS,eN])
      | (show y.2.2.2.1.set (((j:Int).tdiv 8).toNat+0) (ibit .andNot .u8 (y.2.2.2.1.getD (((j:Int).tdiv 8).toNat+0) 0) (ishl .u8 1 (IntKind.u64.wrap ((j:Int).tmod 8))))=y.2.2.2.1.set (j / 8) _;rw [eG,eS,eN])))
 · rename_i b0 y0 hy0 x hx d
   change Nat×Oq at x
   obtain ⟨j,y⟩:=x
   obtain ⟨⟨k1,k2⟩,k3⟩:(D≤j∧(j≤8*((l2.drop i2).take n2).length∨j=D))∧Oqw (clI D ((l2.drop i2).take n2) j) y:=hx
   have d:¬ (j:Int)<8*(((l2.drop i2).take n2).length:Int):=nf d
   rw [clI_end (by omega)] at k3
   refine Ends.one (y:Oq) k3 ?_
   exact vgo
def fcXclear:Fc Tryz.prog C0 where
 tg:=.fn 12
 X:=(Int×Int×Int)×(Bool×Nat×Nat×List Int×Nat×Nat)×Nat×Sl3
 args:=fun ((m,t,n),(o,b,q,l,L,c),D,(o2,b2,q2,l2,i2,n2,c2))=>[xcV m t n 0 L c (D:Int),.sl 1 i2 n2 c2]
 mem:=fun ((m,t,n),(o,b,q,l,L,c),D,(o2,b2,q2,l2,i2,n2,c2))=>[⟨b,q,1,false,some o,.rows 5 l⟩,⟨b2,q2,1,false,some o2,.rows 5 l2⟩]
 pre:=fun ((m,t,n),(o,b,q,l,L,c),D,s)=>D<1000000∧Sl3.pre s∧Byt8 ((s.2.2.2.1.drop s.2.2.2.2.1).take s.2.2.2.2.2.1)
 alts:=fun ((m,t,n),(o,b,q,l,L,c),D,(o2,b2,q2,l2,i2,n2,c2))=>[⟨Oq,fun y=>Oqw (clL D ((l2.drop i2).take n2)) y,fun y=>.sl 2 0 ((l2.drop i2).take n2).length y.2.2.2.2,fun y=>[⟨b,q,1,false,some o,.rows 5 l⟩,⟨b2,q2,1,false,some o2,.rows 5 l2⟩,obC true y]⟩]
 mat vs m:=match vs with
  | [.agg [.int _ x,.int _ t,.int _ n,.sl s _ L c,.int _ (D:Nat)],.sl s2 i2 n2 c2]=>match nth m s,nth m s2 with
    | ⟨b,q,_,_,g,.rows 5 l⟩,⟨b2,q2,_,_,g2,.rows 5 l2⟩=>some (((x,t,n),(onOf g,b,q,l,L,c),D,(onOf g2,b2,q2,l2,i2,n2,c2)),[s,s2])
    | _,_=>none
  | _=>none
 ok:=fun ((m,t,n),(o,b,q,l,L,c),D,(o2,b2,q2,l2,i2,n2,c2)) h=>xclear_ok m t n o b q l L c D h.1 o2 b2 q2 l2 i2 n2 c2 h.2.1.1 h.2.1.2.1 h.2.1.2.2 _ rfl h.2.2
@[irreducible] def fitL (k:Nat) (P:List Int):List Int:=P.take k ++ zo (k - P.length) 0
theorem fitL_len {k:Nat} {P:List Int}:(fitL k P).length=k:=by unfold fitL;rw [zx,ze,xz];omega
theorem fitL_byt {k:Nat} {P:List Int} (h:Byt8 P):Byt8 (fitL k P):=by
 unfold fitL
 intro x hx
 rcases List.mem_append.1 hx with hx | hx
 · exact h x (List.mem_of_mem_take hx)
 · rw [(List.mem_replicate.1 hx).2];decide
theorem fit_eq {l:List Int} {i n k:Nat} (h:i+n≤l.length):[] ++ (l.drop i).take (min n (k:Int).toNat) ++ (zo (k:Int).toNat (0:Int)).drop (0+min n (k:Int).toNat)=fitL k ((l.drop i).take n):=by
 unfold fitL
 rw [List.take_take,List.nil_append,zu,List.drop_replicate,row_len h,Nat.min_comm k n]
 congr 2
 omega
theorem fit_ok (o:Bool) (b q:Nat) (l:List Int) (i n c:Nat) (h:i+n≤l.length) (ho:o=false→n=0∧c=0) (k:Nat) (hk:k<100000):
 Does (C:=C0) Tryz.prog (.fn 11) [⟨b,q,1,false,some o,.rows 5 l⟩] [.sl 0 i n c,.int .i64 (k:Int)]
  [⟨Nat,fun _=>True,fun _=>.sl 1 0 k k,fun y=>[⟨b,q,1,false,some o,.rows 5 l⟩,⟨y,0,1,true,none,.rows 5 (fitL k ((l.drop i).take n))⟩]⟩]:=by
 have hby:(Tryz.prog.types[5].bytes:Int)=1:=by kernel_rfl
 refine loc_fn (P:=Tryz.prog) (E:=⟨[],[],12,[],[],[],none⟩) (L:=[]) mix Tryz.func11 rfl (by kernel_rfl) (by kernel_rfl) rfl rfl ?_
 ((conv=>arg 1;reduce);with_reducible repeat' first | exact ty | refine ta ?_ ?_ | refine ti fun _ => ?_ | refine tf fun _ => ?_ | refine tl ?_)
 all_goals try exact vlf
 · rw [hby];omega
 all_goals try exact ho
 · have e:(zo (k:Int).toNat (0:Int)).length=k:=by rw [xz];omega
   show 0+min n (k:Int).toNat≤(zo (k:Int).toNat (0:Int)).length∧i+min n (k:Int).toNat≤l.length
   omega
 · rename_i b0
   refine Ends.one (b0:Nat) trivial ?_
   ((conv=>arg 1;reduce);with_reducible repeat' first | exact ty | refine ta ?_ ?_ | refine ti fun _ => ?_ | refine tf fun _ => ?_ | refine tl ?_)
   all_goals first
    | exact vlf
    | (show _=fitL k ((l.drop i).take n);exact fit_eq h)
    | (show fitL k ((l.drop i).take n)=_;exact (fit_eq h).symm)
def fcFit:Fc Tryz.prog C0 where
 tg:=.fn 11
 X:=Sl3×Nat
 args:=fun ((o,b,q,l,i,n,c),k)=>[.sl 0 i n c,.int .i64 (k:Int)]
 mem:=fun ((o,b,q,l,i,n,c),k)=>[⟨b,q,1,false,some o,.rows 5 l⟩]
 pre:=fun ((o,b,q,l,i,n,c),k)=>(i+n≤l.length∧(o=false→n=0∧c=0))∧k<100000
 alts:=fun ((o,b,q,l,i,n,c),k)=>[⟨Nat,fun _=>True,fun _=>.sl 1 0 k k,fun y=>[⟨b,q,1,false,some o,.rows 5 l⟩,⟨y,0,1,true,none,.rows 5 (fitL k ((l.drop i).take n))⟩]⟩]
 mat vs m:=match vs with
  | [.sl s i n c,.int _ (k:Nat)]=>match nth m s with
    | ⟨b,q,_,_,g,.rows 5 l⟩=>some (((onOf g,b,q,l,i,n,c),k),[s])
    | _=>none
  | [.sl s i n c,.int _ k]=>match nth m s with
    | ⟨b,q,_,_,g,.rows 5 l⟩=>some (((onOf g,b,q,l,i,n,c),k.toNat),[s])
    | _=>none
  | _=>none
 ok:=fun ((o,b,q,l,i,n,c),k) h=>fit_ok o b q l i n c h.1.1 h.1.2 k h.2
section
variable (F:Gf)
theorem rnew_ok (t n:Nat) (h0:1≤t∧t≤40∧(lsO (nF F) t).2.2<nF F) (h1:1≤n) (h2:n≤2000):
 Does (C:=C0) Tryz.prog (.fn 30) [] [.int .i64 (F.m:Int),.int .i64 (t:Int),.int .i64 (n:Int)]
  [⟨Lq,fun y=>Oqw y.1 y.2∧8*n+(lsO (nF F) t).2.2≤nF F,fun y=>.tup [xcV (F.m:Int) (t:Int) (n:Int) 0 y.1.length y.2.2.2.2.2 ((lsO (nF F) t).2.2:Int),.int .i64 0],fun y=>[obC true y.2]⟩,
   ⟨Unit,fun _=>nF F<8*n+(lsO (nF F) t).2.2,fun _=>.tup [.agg [.int .i64 0,.int .i64 0,.int .i64 0,.nils,.int .i64 0],.int .i64 105],fun _=>[]⟩]:=by
 obtain ⟨hs,h7,hh⟩:=nF_sz F
 have es:=shl_sz F
 have e1:(szF F:Int) - 1=(nF F:Int):=by omega
 have eM:ishl .i64 1 (IntKind.u64.wrap (F.m:Int)) - 1=(nF F:Int):=by rw [wm,es,e1]
 refine loc_fn (P:=Tryz.prog) (E:=⟨[fcRleast F,fcRgen F],[],54,[],[],[],none⟩) (L:=[]) mix Tryz.func30 rfl (by kernel_rfl) (by kernel_rfl) rfl rfl ?_
 ((conv=>arg 1;reduce);with_reducible repeat' first | exact ty | refine ta ?_ ?_ | refine ti fun _ => ?_ | refine tf fun _ => ?_ | refine tl ?_)
 all_goals try exact vlf
 · exact h0
 all_goals try (rename_i d;exact absurd (ng d) (fun h=>h rfl))
 all_goals try (
  rename_i d
  exfalso
  simp only [yd,decide_eq_true_eq,SB.val] at d
  omega)
 all_goals try (rw [wm];omega)
 · rename_i d
   rw [eM] at d
   have d:(nF F:Int)<8*(n:Int)+((lsO (nF F) t).2.2:Int):=ng d
   refine Ends.next (Ends.one () (by show nF F<8*n+(lsO (nF F) t).2.2;omega) ?_)
   exact vgo
 · exact h0
 · rename_i d y hy
   rw [eM] at d
   have d:¬ (nF F:Int)<8*(n:Int)+((lsO (nF F) t).2.2:Int):=nf d
   change Lq at y
   refine Ends.one (y:Lq) ⟨hy,by omega⟩ ?_
   exact vgo
end
end
end Go.Vx
namespace Go.Vx
open Go Go.Proofs
noncomputable section
variable [Gl]
theorem dnew_ok (b q:Nat):Does (C:=C0) Tryz.prog (.fn 28) [⟨b,q,263,false,none,.one []⟩] [.ptr 0 0 0]
 [⟨Nat,fun _=>True,fun y=>.ptr 1 0 0,fun y=>[⟨b,q,263,false,none,.one []⟩,⟨y,0,1,true,none,.one [.ptr 0 0 0]⟩]⟩]:=by
 refine loc_fn (P:=Tryz.prog) (E:=⟨[],[],6,[],[],[],none⟩) (L:=[]) mix Tryz.func28 rfl (by kernel_rfl) (by kernel_rfl) rfl rfl ?_
 ((conv=>arg 1;reduce);with_reducible repeat' first | exact ty | refine ta ?_ ?_ | refine ti fun _ => ?_ | refine tf fun _ => ?_ | refine tl ?_)
 all_goals try exact vlf
 rename_i y
 refine Ends.one (y:Nat) trivial ?_
 exact vgo
def fcDNew:Fc Tryz.prog C0 where
 tg:=.fn 28
 X:=Nat×Nat
 args _:=[.ptr 0 0 0]
 mem:=fun (b,q)=>[⟨b,q,263,false,none,.one []⟩]
 pre _:=True
 alts:=fun (b,q)=>[⟨Nat,fun _=>True,fun y=>.ptr 1 0 0,fun y=>[⟨b,q,263,false,none,.one []⟩,⟨y,0,1,true,none,.one [.ptr 0 0 0]⟩]⟩]
 mat vs m:=match vs with
  | [.ptr c _ _]=>match nth m c with
    | ⟨b,q,_,_,_,_⟩=>some ((b,q),[c])
  | _=>none
 ok:=fun (b,q) _=>dnew_ok b q
theorem dcode_ok (bd qd b q:Nat):Tells (C:=C0) Tryz.prog (.fn 22) [⟨bd,qd,1,false,none,.one [.ptr 1 0 0]⟩,⟨b,q,263,false,none,.one []⟩] [.ptr 0 0 0] (.ptr 1 0 0):=by
 refine loc_pc (P:=Tryz.prog) (E:=⟨[],[],7,[],[],[],none⟩) (L:=[]) mix Tryz.func22 rfl (by kernel_rfl) (by kernel_rfl) rfl rfl ?_
 exact vgo
def pcDCode:Pc Tryz.prog C0 where
 tg:=.fn 22
 X:=Nat×Nat×Nat×Nat
 args _:=[.ptr 0 0 0]
 mem:=fun (bd,qd,b,q)=>[⟨bd,qd,1,false,none,.one [.ptr 1 0 0]⟩,⟨b,q,263,false,none,.one []⟩]
 pre _:=True
 res _:=.ptr 1 0 0
 mat vs m:=match vs with
  | [.ptr d _ _]=>match nth m d with
    | ⟨bd,qd,_,_,_,.one (.ptr c _ _ :: _)⟩=>match nth m c with
      | ⟨b,q,_,_,_,_⟩=>some ((bd,qd,b,q),[d,c])
    | _=>none
  | _=>none
 ok:=fun (bd,qd,b,q) _=>dcode_ok bd qd b q
section
variable (F:Gf)
abbrev dwC (F:Gf) (bd qd bw qw:Nat) (ws:List SV) (bC qC t d g r bF qF be qe bl ql:Nat):List (Ck C0):=
 [⟨bd,qd,1,false,none,.one [.ptr 2 0 0]⟩,⟨bw,qw,7,true,none,.one ws⟩,⟨bC,qC,263,false,none,.one [.ptr 3 0 0,.int .i64 (t:Int),.int .i64 (d:Int),.int .i64 (g:Int),.int .i64 (r:Int)]⟩,
  ⟨bF,qF,4,false,none,.one [.int .i64 (F.m:Int),.int .i64 (szF F:Int),.sl 4 0 (nF F) (nF F),.sl 5 0 (szF F) (szF F)]⟩,xCk F be qe,lCk F bl ql]
theorem svL_len {A:List Int} {T:Nat}:(svL F A T).length=T:=by unfold svL;rw [List.length_map,List.length_range]
theorem measure_ok (bd qd bw qw bC qC t d g r bF qF be qe bl ql:Nat) (ht:t<1000000) (hd:d<100000) (hg:g<100000) (hr:g≤8*r) (hrr:r<100000) (o:Bool) (b q:Nat) (l:List Int) (i n c:Nat) (h:i+n≤l.length) (hN:n<1000000000) (ho:o=false→n=0∧c=0) (o':Bool) (b' q':Nat) (l':List Int) (i' n' c':Nat) (h':i'+n'≤l'.length) (hN':n'<1000000000) (ho':o'=false→n'=0∧c'=0) (hn:n=d) (hn':n'=r) (D R:List Int) (hD:(l.drop i).take n=D) (hR:(l'.drop i').take n'=R) (kD:Byt8 D) (kR:Byt8 R):
 Does (C:=C0) Tryz.prog (.fn 34) (dwC F bd qd bw qw [.sl 6 i n c,.sl 7 i' n' c',.nils,.nils,.int .i64 0,.nils,.bool .f] bC qC t d g r bF qF be qe bl ql ++ [⟨b,q,1,false,some o,.rows 5 l⟩,⟨b',q',1,false,some o',.rows 5 l'⟩]) [.ptr 0 0 0,.ptr 1 0 0]
  [⟨Nat,fun _=>True,fun y=>.nili,fun y=>dwC F bd qd bw qw [.sl 6 i n c,.sl 7 i' n' c',.sl 8 0 (2*t) (2*t),.nils,.int .i64 0,.nils,.bool (SB.tm (clnB (svL F (psL g D R (8*d+g)) (2*t))))] bC qC t d g r bF qF be qe bl ql ++ [⟨b,q,1,false,some o,.rows 5 l⟩,⟨b',q',1,false,some o',.rows 5 l'⟩,⟨y,0,1,true,none,.rows 3 (svL F (psL g D R (8*d+g)) (2*t))⟩]⟩]:=by
 refine loc_fn (P:=Tryz.prog) (E:=⟨[fcOf F],[pcClean],37,[(1,[],[.p 0,.p 1,.p 2,.p 3,.p 5,.p 6,.p 7,.p 9,.p 10,.p 11,.q 4,.q 8,.q 12,.e 13,.p 14,.p 15,.p 16,.p 17,.p 18,.e 19,.p 20])],[],[],none⟩) (L:=[]) mix Tryz.func34 rfl (by kernel_rfl) (by kernel_rfl) rfl rfl ?_
 ((conv=>arg 1;reduce);with_reducible repeat' first | exact ty | refine ta ?_ ?_ | refine ti fun _ => ?_ | refine tf fun _ => ?_ | refine tl ?_)
 all_goals try exact vlf
 · exact ⟨⟨ht,hd,hg,hr,hrr⟩,⟨⟨h,hN,ho⟩,h',hN',ho'⟩,⟨hn,hn'⟩,by rw [hD];exact kD,by rw [hR];exact kR⟩
 · exact ⟨by show 0+2*t≤_;rw [svL_len];omega,by show 2*t<1000000000;omega,nofun⟩
 · rename_i y hy
   have e:((svL F (psL g D R (8*d+g)) (2*t)).drop 0).take (2*t)=svL F (psL g D R (8*d+g)) (2*t):=by rw [zm,zc (by rw [svL_len];exact zw _)]
   rw [hD,hR]
   refine Ends.one (y:Nat) trivial ?_
   ((conv=>arg 1;reduce);with_reducible repeat' first | exact ty | refine ta ?_ ?_ | refine ti fun _ => ?_ | refine tf fun _ => ?_ | refine tl ?_)
   all_goals first | exact vlf | rw [e]
def fcMeasure:Fc Tryz.prog C0 where
 tg:=.fn 34
 X:=(Nat×Nat×Nat×Nat)×Co5×(Nat×Nat×Nat×Nat×Nat×Nat)×Sl3×Sl3
 args _:=[.ptr 0 0 0,.ptr 1 0 0]
 mem:=fun ((bd,qd,bw,qw),(bC,qC,t,d,g,r),(bF,qF,be,qe,bl,ql),(o,b,q,l,i,n,c),(o',b',q',l',i',n',c'))=>dwC F bd qd bw qw [.sl 6 i n c,.sl 7 i' n' c',.nils,.nils,.int .i64 0,.nils,.bool .f] bC qC t d g r bF qF be qe bl ql ++ [⟨b,q,1,false,some o,.rows 5 l⟩,⟨b',q',1,false,some o',.rows 5 l'⟩]
 pre:=fun (_,(_,_,t,d,g,r),_,(o,b,q,l,i,n,c),(o',b',q',l',i',n',c'))=>(t<1000000∧d<100000∧g<100000∧g≤8*r∧r<100000)∧(Sl3.pre (o,b,q,l,i,n,c)∧Sl3.pre (o',b',q',l',i',n',c'))∧(n=d∧n'=r)∧Byt8 ((l.drop i).take n)∧Byt8 ((l'.drop i').take n')
 alts:=fun ((bd,qd,bw,qw),(bC,qC,t,d,g,r),(bF,qF,be,qe,bl,ql),(o,b,q,l,i,n,c),(o',b',q',l',i',n',c'))=>[⟨Nat,fun _=>True,fun y=>.nili,fun y=>dwC F bd qd bw qw [.sl 6 i n c,.sl 7 i' n' c',.sl 8 0 (2*t) (2*t),.nils,.int .i64 0,.nils,.bool (SB.tm (clnB (svL F (psL g ((l.drop i).take n) ((l'.drop i').take n') (8*d+g)) (2*t))))] bC qC t d g r bF qF be qe bl ql ++ [⟨b,q,1,false,some o,.rows 5 l⟩,⟨b',q',1,false,some o',.rows 5 l'⟩,⟨y,0,1,true,none,.rows 3 (svL F (psL g ((l.drop i).take n) ((l'.drop i').take n') (8*d+g)) (2*t))⟩]⟩]
 mat vs m:=match vs with
  | [.ptr k _ _,.ptr w _ _]=>match nth m k,nth m w with
    | ⟨bd,qd,_,_,_,.one (.ptr p _ _ :: _)⟩,⟨bw,qw,_,_,_,.one (.sl s i n c :: .sl s' i' n' c' :: _)⟩=>match nth m p with
      | ⟨bC,qC,_,_,_,.one (.ptr f _ _ :: .int _ (t:Nat) :: .int _ (d:Nat) :: .int _ (g:Nat) :: .int _ (r:Nat) :: _)⟩=>match nth m f with
        | ⟨bF,qF,_,_,_,.one (_ :: _ :: .sl x _ _ _ :: .sl h _ _ _ :: _)⟩=>match nth m x,nth m h,nth m s,nth m s' with
          | ⟨be,qe,_,_,_,_⟩,⟨bl,ql,_,_,_,_⟩,⟨b,q,_,_,o,.rows 5 l⟩,⟨b',q',_,_,o',.rows 5 l'⟩=>some (((bd,qd,bw,qw),(bC,qC,t,d,g,r),(bF,qF,be,qe,bl,ql),(onOf o,b,q,l,i,n,c),(onOf o',b',q',l',i',n',c')),[k,w,p,f,x,h,s,s'])
          | _,_,_,_=>none
        | _=>none
      | _=>none
    | _,_=>none
  | _=>none
 ok:=fun ((bd,qd,bw,qw),(bC,qC,t,d,g,r),(bF,qF,be,qe,bl,ql),(o,b,q,l,i,n,c),(o',b',q',l',i',n',c')) h=>measure_ok F bd qd bw qw bC qC t d g r bF qF be qe bl ql h.1.1 h.1.2.1 h.1.2.2.1 h.1.2.2.2.1 h.1.2.2.2.2 o b q l i n c h.2.1.1.1 h.2.1.1.2.1 h.2.1.1.2.2 o' b' q' l' i' n' c' h.2.1.2.1 h.2.1.2.2.1 h.2.1.2.2.2 h.2.2.1.1 h.2.2.1.2 _ _ rfl rfl h.2.2.2.1 h.2.2.2.2
end
end
end Go.Vx
namespace Go.Vx
open Go Go.Proofs
noncomputable section
variable [Gl]
section
variable (F:Gf)
theorem wkL_le {S:List Int}:(wkL F S).length≤S.length+1:=by
 have h1:=trL_le F (bC F S S.length)
 have h2:=(bm_fit' (F:=F) (S:=S) (n:=S.length)).2.2.2.1
 unfold wkL;omega
theorem find_ok (bd qd bw qw bC qC t d g r bF qF be qe bl ql:Nat) (ht:t≤40) (o:Bool) (b q:Nat) (l:List Int) (i n c:Nat) (o':Bool) (b' q':Nat) (l':List Int) (i' n' c':Nat) (bs qs:Nat) (S:List Int) (hS:S.length=2*t):
 Does (C:=C0) Tryz.prog (.fn 35) (dwC F bd qd bw qw [.sl 6 i n c,.sl 7 i' n' c',.sl 8 0 (2*t) (2*t),.nils,.int .i64 0,.nils,.bool .f] bC qC t d g r bF qF be qe bl ql ++ [⟨b,q,1,false,some o,.rows 5 l⟩,⟨b',q',1,false,some o',.rows 5 l'⟩,⟨bs,qs,1,false,none,.rows 3 S⟩]) [.ptr 0 0 0,.ptr 1 0 0]
  [⟨Os,fun y=>Ow (wkL F S) y∧(t<wkN F S∨(wkL F S).length≠wkN F S+1),fun y=>eV 1,fun y=>dwC F bd qd bw qw [.sl 6 i n c,.sl 7 i' n' c',.sl 8 0 (2*t) (2*t),.sl 9 0 (wkL F S).length y.2.2.2,.int .i64 (wkN F S:Int),.nils,.bool .f] bC qC t d g r bF qF be qe bl ql ++ [⟨b,q,1,false,some o,.rows 5 l⟩,⟨b',q',1,false,some o',.rows 5 l'⟩,⟨bs,qs,1,false,none,.rows 3 S⟩,osC true y]⟩,
   ⟨Os,fun y=>Ow (wkL F S) y∧¬ (t<wkN F S∨(wkL F S).length≠wkN F S+1),fun y=>.nili,fun y=>dwC F bd qd bw qw [.sl 6 i n c,.sl 7 i' n' c',.sl 8 0 (2*t) (2*t),.sl 9 0 (wkL F S).length y.2.2.2,.int .i64 (wkN F S:Int),.nils,.bool .f] bC qC t d g r bF qF be qe bl ql ++ [⟨b,q,1,false,some o,.rows 5 l⟩,⟨b',q',1,false,some o',.rows 5 l'⟩,⟨bs,qs,1,false,none,.rows 3 S⟩,osC true y]⟩]:=by
 refine loc_fn (P:=Tryz.prog) (E:=⟨[fcLocate F],[pcCoField,pcCoT],48,[(1,[],[.p 0,.p 1,.p 2,.p 3,.p 4,.p 7,.p 8,.p 9,.q 5,.q 6,.q 10,.e 11,.p 12,.p 13,.p 14,.p 15,.p 16,.e 17,.p 18,.p 19,.e 20]),(2,[],[.p 0,.p 1,.p 2,.p 4,.p 5,.p 6,.q 3,.q 7,.q 8,.p 9,.p 10,.p 11,.p 12,.p 13,.p 17,.p 18,.p 19,.q 14,.p 15,.p 16,.q 20,.p 21,.p 22])],[],[],none⟩) (L:=[]) mix Tryz.func35 rfl (by kernel_rfl) (by kernel_rfl) rfl rfl ?_
 ((conv=>arg 1;reduce);with_reducible repeat' first | exact ty | refine ta ?_ ?_ | refine ti fun _ => ?_ | refine tf fun _ => ?_ | refine tl ?_)
 all_goals try exact vlf
 all_goals have eS:(S.drop 0).take (min (2*t) 80)=S:=by rw [zm,zc (by omega)]
 · exact ⟨⟨by show 0+2*t≤S.length;omega,by show 2*t<1000000000;omega,nofun⟩,zw _⟩
 · rename_i y hy d
   have h1:=wkL_le F (S:=S)
   rw [eS]
   exact inR64 (n:=((wkL F S).length:Int) - 1) (by omega) (by omega)
 · rename_i y hy d
   rw [eS] at d
   have hy:Ow (wkL F ((S.drop 0).take (min (2*t) 80))) y:=hy
   rw [eS] at hy
   simp only [yd,decide_eq_true_eq,SB.val] at d
   rw [eS]
   refine Ends.one (y:Os) ⟨hy,by omega⟩ ?_
   exact vgo
 · rename_i y hy d
   rw [eS] at d
   have hy:Ow (wkL F ((S.drop 0).take (min (2*t) 80))) y:=hy
   rw [eS] at hy
   simp only [xf,decide_eq_false_iff_not,SB.val] at d
   rw [eS]
   refine Ends.next (Ends.one (y:Os) ⟨hy,by omega⟩ ?_)
   exact vgo
def fcFind:Fc Tryz.prog C0 where
 tg:=.fn 35
 X:=(Nat×Nat×Nat×Nat)×Co5×(Nat×Nat×Nat×Nat×Nat×Nat)×Sl3×Sl3×(Nat×Nat×List Int)
 args _:=[.ptr 0 0 0,.ptr 1 0 0]
 mem:=fun ((bd,qd,bw,qw),(bC,qC,t,d,g,r),(bF,qF,be,qe,bl,ql),(o,b,q,l,i,n,c),(o',b',q',l',i',n',c'),(bs,qs,S))=>dwC F bd qd bw qw [.sl 6 i n c,.sl 7 i' n' c',.sl 8 0 (2*t) (2*t),.nils,.int .i64 0,.nils,.bool .f] bC qC t d g r bF qF be qe bl ql ++ [⟨b,q,1,false,some o,.rows 5 l⟩,⟨b',q',1,false,some o',.rows 5 l'⟩,⟨bs,qs,1,false,none,.rows 3 S⟩]
 pre:=fun (_,(_,_,t,d,g,r),_,_,_,(bs,qs,S))=>t≤40∧S.length=2*t
 alts:=fun ((bd,qd,bw,qw),(bC,qC,t,d,g,r),(bF,qF,be,qe,bl,ql),(o,b,q,l,i,n,c),(o',b',q',l',i',n',c'),(bs,qs,S))=>[⟨Os,fun y=>Ow (wkL F S) y∧(t<wkN F S∨(wkL F S).length≠wkN F S+1),fun y=>eV 1,fun y=>dwC F bd qd bw qw [.sl 6 i n c,.sl 7 i' n' c',.sl 8 0 (2*t) (2*t),.sl 9 0 (wkL F S).length y.2.2.2,.int .i64 (wkN F S:Int),.nils,.bool .f] bC qC t d g r bF qF be qe bl ql ++ [⟨b,q,1,false,some o,.rows 5 l⟩,⟨b',q',1,false,some o',.rows 5 l'⟩,⟨bs,qs,1,false,none,.rows 3 S⟩,osC true y]⟩,
      ⟨Os,fun y=>Ow (wkL F S) y∧¬ (t<wkN F S∨(wkL F S).length≠wkN F S+1),fun y=>.nili,fun y=>dwC F bd qd bw qw [.sl 6 i n c,.sl 7 i' n' c',.sl 8 0 (2*t) (2*t),.sl 9 0 (wkL F S).length y.2.2.2,.int .i64 (wkN F S:Int),.nils,.bool .f] bC qC t d g r bF qF be qe bl ql ++ [⟨b,q,1,false,some o,.rows 5 l⟩,⟨b',q',1,false,some o',.rows 5 l'⟩,⟨bs,qs,1,false,none,.rows 3 S⟩,osC true y]⟩]
 mat vs m:=match vs with
  | [.ptr k _ _,.ptr w _ _]=>match nth m k,nth m w with
    | ⟨bd,qd,_,_,_,.one (.ptr p _ _ :: _)⟩,⟨bw,qw,_,_,_,.one (.sl s i n c :: .sl s' i' n' c' :: .sl z _ _ _ :: _)⟩=>match nth m p with
      | ⟨bC,qC,_,_,_,.one (.ptr f _ _ :: .int _ (t:Nat) :: .int _ (d:Nat) :: .int _ (g:Nat) :: .int _ (r:Nat) :: _)⟩=>match nth m f with
        | ⟨bF,qF,_,_,_,.one (_ :: _ :: .sl x _ _ _ :: .sl h _ _ _ :: _)⟩=>match nth m x,nth m h,nth m s,nth m s',nth m z with
          | ⟨be,qe,_,_,_,_⟩,⟨bl,ql,_,_,_,_⟩,⟨b,q,_,_,o,.rows 5 l⟩,⟨b',q',_,_,o',.rows 5 l'⟩,⟨bs,qs,_,_,_,.rows 3 S⟩=>some (((bd,qd,bw,qw),(bC,qC,t,d,g,r),(bF,qF,be,qe,bl,ql),(onOf o,b,q,l,i,n,c),(onOf o',b',q',l',i',n',c'),(bs,qs,S)),[k,w,p,f,x,h,s,s',z])
          | _,_,_,_,_=>none
        | _=>none
      | _=>none
    | _,_=>none
  | _=>none
 ok:=fun ((bd,qd,bw,qw),(bC,qC,t,d,g,r),(bF,qF,be,qe,bl,ql),(o,b,q,l,i,n,c),(o',b',q',l',i',n',c'),(bs,qs,S)) h=>find_ok F bd qd bw qw bC qC t d g r bF qF be qe bl ql h.1 o b q l i n c o' b' q' l' i' n' c' bs qs S h.2
end
end
end Go.Vx
namespace Go.Vx
open Go Go.Proofs
noncomputable section
variable [Gl]
section
variable {F:Gf} (K:Kd F)
abbrev NwY:=(Nat×(Nat×Nat×Nat)×Os×(Nat×Nat×List Int×Nat))×(Nat→Value)×List (Rw Int)
abbrev nwL (n:Nat) (y:NwY):List (Ck C0):=[⟨y.1.1,0,263,true,none,.one (.ptr 2 0 0 :: .int .i64 (K.t:Int) :: .int .i64 (n:Int) :: .int .i64 (K.D:Int) :: .int .i64 (nP K:Int) :: .sl 5 0 (nb K.G).length y.1.2.2.1.2.2.2 :: .sl 6 0 (nP K) y.1.2.2.2.2.2.2 :: tvC y.2.1)⟩,⟨0,0,1,false,some false,.rows 22 y.2.2⟩,
        ⟨y.1.2.1.1,0,4,true,none,.one [.int .i64 (F.m:Int),.int .i64 (szF F:Int),.sl 3 0 (nF F) (nF F),.sl 4 0 (szF F) (szF F)]⟩,⟨y.1.2.1.2.1,0,1,true,none,.rows 3 (xT F)⟩,⟨y.1.2.1.2.2,0,1,true,none,.rows 3 (lT F)⟩,osB true y.1.2.2.1,
        ⟨y.1.2.2.2.1,y.1.2.2.2.2.1,1,true,none,.rows 5 y.1.2.2.2.2.2.1⟩]
abbrev NwOK (y:NwY):Prop:=TvOK K 256 y.2.1 y.2.2∧nP K≤y.1.2.2.2.2.2.1.length∧y.1.2.2.2.2.2.1.take (nP K)=by' (nP K) (gK K)
def fcNew:Fc Tryz.prog C0 where
 tg:=.fn 27
 X:=Nat
 args n:=[.int .i64 (F.m:Int),.int .i64 (K.t:Int),.int .i64 (n:Int)]
 mem _:=[]
 pre n:=1≤n∧n≤2048∧8*n+K.D≤nF F
 alts n:=[⟨NwY,NwOK K,fun _=>.tup [.ptr 0 0 0,.nili],nwL K n⟩]
 mat vs m:=match vs with
  | [_,_,.int _ (n:Int)]=>some (n.toNat,[])
  | _=>none
 ok n h:=cnew_ok K n h.1 h.2.1 h.2.2
end
section
variable (F:Gf)
theorem seek_ok (bd qd bw qw bC qC t d g r bF qF be qe bl ql:Nat) (hd:d<100000) (hg:g<100000) (o:Bool) (b q:Nat) (l:List Int) (i n c:Nat) (o':Bool) (b' q':Nat) (l':List Int) (i' n' c':Nat) (bs qs:Nat) (S:List Int) (oL:Bool) (bL qL:Nat) (L:List Int) (z k:Nat) (hz:z≤k) (hk:k≤L.length) (hz2:z≤2048) (hoL:oL=false→z=0∧k=0) (len:Int) (W:List Int) (hW:L.take z=W):
 Does (C:=C0) Tryz.prog (.fn 36) (dwC F bd qd bw qw [.sl 6 i n c,.sl 7 i' n' c',.sl 8 0 (2*t) (2*t),.sl 9 0 z k,.int .i64 len,.nils,.bool .f] bC qC t d g r bF qF be qe bl ql ++ [⟨b,q,1,false,some o,.rows 5 l⟩,⟨b',q',1,false,some o',.rows 5 l'⟩,⟨bs,qs,1,false,none,.rows 3 S⟩,⟨bL,qL,1,false,some oL,.rows 3 L⟩]) [.ptr 0 0 0,.ptr 1 0 0]
  [⟨Oq,fun y=>Oqw (srL F W (8*(d:Int)+(g:Int))) y∧((srL F W (8*(d:Int)+(g:Int))).length:Int)≠len,fun y=>eV 1,fun y=>dwC F bd qd bw qw [.sl 6 i n c,.sl 7 i' n' c',.sl 8 0 (2*t) (2*t),.sl 9 0 z k,.int .i64 len,.sl 10 0 (srL F W (8*(d:Int)+(g:Int))).length y.2.2.2.2,.bool .f] bC qC t d g r bF qF be qe bl ql ++ [⟨b,q,1,false,some o,.rows 5 l⟩,⟨b',q',1,false,some o',.rows 5 l'⟩,⟨bs,qs,1,false,none,.rows 3 S⟩,⟨bL,qL,1,false,some oL,.rows 3 L⟩,oqC true y]⟩,
   ⟨Oq,fun y=>Oqw (srL F W (8*(d:Int)+(g:Int))) y∧((srL F W (8*(d:Int)+(g:Int))).length:Int)=len,fun y=>.nili,fun y=>dwC F bd qd bw qw [.sl 6 i n c,.sl 7 i' n' c',.sl 8 0 (2*t) (2*t),.sl 9 0 z k,.int .i64 len,.sl 10 0 (srL F W (8*(d:Int)+(g:Int))).length y.2.2.2.2,.bool .f] bC qC t d g r bF qF be qe bl ql ++ [⟨b,q,1,false,some o,.rows 5 l⟩,⟨b',q',1,false,some o',.rows 5 l'⟩,⟨bs,qs,1,false,none,.rows 3 S⟩,⟨bL,qL,1,false,some oL,.rows 3 L⟩,oqC true y]⟩]:=by
 refine loc_fn (P:=Tryz.prog) (E:=⟨[fcSearch F],[pcCoField,pcCoBits],34,[(1,[],[.p 0,.p 1,.p 2,.p 3,.p 6,.p 7,.p 8,.p 10,.p 11,.p 12,.q 4,.q 5,.q 9,.q 13,.q 14,.e 15,.p 16,.p 17,.e 18])],[],[],none⟩) (L:=[]) mix Tryz.func36 rfl (by kernel_rfl) (by kernel_rfl) rfl rfl ?_
 ((conv=>arg 1;reduce);with_reducible repeat' first | exact ty | refine ta ?_ ?_ | refine ti fun _ => ?_ | refine tf fun _ => ?_ | refine tl ?_)
 all_goals try exact vlf
 all_goals have eW:(L.drop 0).take (min z 2048)=W:=by rw [zm,Nat.min_eq_left hz2];exact hW
 · exact ⟨wb d,by show (d:Int)<_;omega,wb g,by show (g:Int)<_;omega⟩
 · exact ⟨⟨by show 0+z≤L.length;omega,by show z<1000000000;omega,hoL⟩,hz⟩
 · rename_i y hy e
   have hy:Oqw (srL F ((L.drop 0).take (min z 2048)) (8*(d:Int)+(g:Int))) y:=hy
   rw [eW] at hy e
   rw [eW]
   refine Ends.one (y:Oq) ⟨hy,ng e⟩ ?_
   exact vgo
 · rename_i y hy e
   have hy:Oqw (srL F ((L.drop 0).take (min z 2048)) (8*(d:Int)+(g:Int))) y:=hy
   rw [eW] at hy e
   rw [eW]
   refine Ends.next (Ends.one (y:Oq) ⟨hy,Classical.not_not.1 (nf e)⟩ ?_)
   exact vgo
def fcSeek:Fc Tryz.prog C0 where
 tg:=.fn 36
 X:=(Nat×Nat×Nat×Nat)×Co5×(Nat×Nat×Nat×Nat×Nat×Nat)×Sl3×Sl3×(Nat×Nat×List Int)×(Bool×Nat×Nat×List Int×Nat×Nat)×Int
 args _:=[.ptr 0 0 0,.ptr 1 0 0]
 mem:=fun ((bd,qd,bw,qw),(bC,qC,t,d,g,r),(bF,qF,be,qe,bl,ql),(o,b,q,l,i,n,c),(o',b',q',l',i',n',c'),(bs,qs,S),(oL,bL,qL,L,z,k),len)=>dwC F bd qd bw qw [.sl 6 i n c,.sl 7 i' n' c',.sl 8 0 (2*t) (2*t),.sl 9 0 z k,.int .i64 len,.nils,.bool .f] bC qC t d g r bF qF be qe bl ql ++ [⟨b,q,1,false,some o,.rows 5 l⟩,⟨b',q',1,false,some o',.rows 5 l'⟩,⟨bs,qs,1,false,none,.rows 3 S⟩,⟨bL,qL,1,false,some oL,.rows 3 L⟩]
 pre:=fun (_,(_,_,t,d,g,r),_,_,_,_,(oL,bL,qL,L,z,k),len)=>(d<100000∧g<100000)∧z≤k∧k≤L.length∧z≤2048∧(oL=false→z=0∧k=0)
 alts:=fun ((bd,qd,bw,qw),(bC,qC,t,d,g,r),(bF,qF,be,qe,bl,ql),(o,b,q,l,i,n,c),(o',b',q',l',i',n',c'),(bs,qs,S),(oL,bL,qL,L,z,k),len)=>[⟨Oq,fun y=>Oqw (srL F (L.take z) (8*(d:Int)+(g:Int))) y∧((srL F (L.take z) (8*(d:Int)+(g:Int))).length:Int)≠len,fun y=>eV 1,fun y=>dwC F bd qd bw qw [.sl 6 i n c,.sl 7 i' n' c',.sl 8 0 (2*t) (2*t),.sl 9 0 z k,.int .i64 len,.sl 10 0 (srL F (L.take z) (8*(d:Int)+(g:Int))).length y.2.2.2.2,.bool .f] bC qC t d g r bF qF be qe bl ql ++ [⟨b,q,1,false,some o,.rows 5 l⟩,⟨b',q',1,false,some o',.rows 5 l'⟩,⟨bs,qs,1,false,none,.rows 3 S⟩,⟨bL,qL,1,false,some oL,.rows 3 L⟩,oqC true y]⟩,
      ⟨Oq,fun y=>Oqw (srL F (L.take z) (8*(d:Int)+(g:Int))) y∧((srL F (L.take z) (8*(d:Int)+(g:Int))).length:Int)=len,fun y=>.nili,fun y=>dwC F bd qd bw qw [.sl 6 i n c,.sl 7 i' n' c',.sl 8 0 (2*t) (2*t),.sl 9 0 z k,.int .i64 len,.sl 10 0 (srL F (L.take z) (8*(d:Int)+(g:Int))).length y.2.2.2.2,.bool .f] bC qC t d g r bF qF be qe bl ql ++ [⟨b,q,1,false,some o,.rows 5 l⟩,⟨b',q',1,false,some o',.rows 5 l'⟩,⟨bs,qs,1,false,none,.rows 3 S⟩,⟨bL,qL,1,false,some oL,.rows 3 L⟩,oqC true y]⟩]
 mat vs m:=match vs with
  | [.ptr kk _ _,.ptr w _ _]=>match nth m kk,nth m w with
    | ⟨bd,qd,_,_,_,.one (.ptr p _ _ :: _)⟩,⟨bw,qw,_,_,_,.one (.sl s i n c :: .sl s' i' n' c' :: .sl y _ _ _ :: .sl v _ z k :: .int _ len :: _)⟩=>match nth m p with
      | ⟨bC,qC,_,_,_,.one (.ptr f _ _ :: .int _ (t:Nat) :: .int _ (d:Nat) :: .int _ (g:Nat) :: .int _ (r:Nat) :: _)⟩=>match nth m f with
        | ⟨bF,qF,_,_,_,.one (_ :: _ :: .sl x _ _ _ :: .sl h _ _ _ :: _)⟩=>match nth m x,nth m h,nth m s,nth m s',nth m y,nth m v with
          | ⟨be,qe,_,_,_,_⟩,⟨bl,ql,_,_,_,_⟩,⟨b,q,_,_,o,.rows 5 l⟩,⟨b',q',_,_,o',.rows 5 l'⟩,⟨bs,qs,_,_,_,.rows 3 S⟩,⟨bL,qL,_,_,oL,.rows 3 L⟩=>some (((bd,qd,bw,qw),(bC,qC,t,d,g,r),(bF,qF,be,qe,bl,ql),(onOf o,b,q,l,i,n,c),(onOf o',b',q',l',i',n',c'),(bs,qs,S),(onOf oL,bL,qL,L,z,k),len),[kk,w,p,f,x,h,s,s',y,v])
          | _,_,_,_,_,_=>none
        | _=>none
      | _=>none
    | _,_=>none
  | _=>none
 ok:=fun ((bd,qd,bw,qw),(bC,qC,t,d,g,r),(bF,qF,be,qe,bl,ql),(o,b,q,l,i,n,c),(o',b',q',l',i',n',c'),(bs,qs,S),(oL,bL,qL,L,z,k),len) h=>seek_ok F bd qd bw qw bC qC t d g r bF qF be qe bl ql h.1.1 h.1.2 o b q l i n c o' b' q' l' i' n' c' bs qs S oL bL qL L z k h.2.1 h.2.2.1 h.2.2.2.1 h.2.2.2.2 len _ rfl
end
end
end Go.Vx
namespace Go.Vx
open Go Go.Proofs
noncomputable section
variable [Gl]
@[irreducible] def tnD (g:Nat) (D:List Int) (zs:List Int):List Int:=zs.foldl (fun D z=>fpD g D z.toNat) D
@[irreducible] def tnP (g:Nat) (R:List Int) (zs:List Int):List Int:=zs.foldl (fun R z=>fpP g R z.toNat) R
theorem tnD_zero {g:Nat} {D:List Int}:tnD g D []=D:=by unfold tnD;rfl
theorem tnP_zero {g:Nat} {D:List Int}:tnP g D []=D:=by unfold tnP;rfl
theorem tnD_succ {g:Nat} {D zs:List Int} {j:Nat} (h:j<zs.length):tnD g D (zs.take (j+1))=fpD g (tnD g D (zs.take j)) (zs.getD j 0).toNat:=by
 unfold tnD;rw [take_snoc h,uo];rfl
theorem tnP_succ {g:Nat} {D zs:List Int} {j:Nat} (h:j<zs.length):tnP g D (zs.take (j+1))=fpP g (tnP g D (zs.take j)) (zs.getD j 0).toNat:=by
 unfold tnP;rw [take_snoc h,uo];rfl
theorem tnD_len {g:Nat} {D zs:List Int}:(tnD g D zs).length=D.length:=by
 unfold tnD
 induction zs generalizing D with
 | nil=>rfl
 | cons z zs ih=>rw [ut,ih,fpD_len]
theorem tnP_len {g:Nat} {D zs:List Int}:(tnP g D zs).length=D.length:=by
 unfold tnP
 induction zs generalizing D with
 | nil=>rfl
 | cons z zs ih=>rw [ut,ih,fpP_len]
section
variable (F:Gf)
def Tn0:Inv' C0:=⟨2,Unit,fun _=>[(12,.int .i64 0)],fun _ m=>m,fun _=>True,fun _=>1000000000⟩
def Tn1 (d r g z:Nat) (D R Z:List Int) (zz:z=Z.length):Inv' C0:=⟨2,Nat×Os×Os,fun x=>[(12,.int .i64 (x.1:Int))],fun x m=>match m with
 | a0 :: ⟨bw,qw,_,_,_,.one (_ :: _ :: w2 :: w3 :: w4 :: w5 :: w6 :: _)⟩ :: a2 :: a3 :: a4 :: a5 :: a6 :: a7 :: a8 :: a9 :: a10 :: _=>
   [a0,⟨bw,qw,7,true,none,.one [.sl 11 0 d x.2.1.2.2.2,.sl 12 0 r x.2.2.2.2.2,w2,w3,w4,w5,w6]⟩,a2,a3,a4,a5,a6,a7,a8,a9,a10,osB true x.2.1,osB true x.2.2]
 | m=>m,fun x=>(1≤x.1∧x.1≤z)∧Ow (tnD g D (Z.take x.1)) x.2.1∧Ow (tnP g R (Z.take x.1)) x.2.2,fun x=>z - x.1⟩
theorem turn_ok (bd qd bw qw bC qC t d g r bF qF be qe bl ql:Nat) (hd:d<100000) (hg:g≤8*r) (hr:r<100000) (o:Bool) (b q:Nat) (l:List Int) (i c:Nat) (h:i+d≤l.length) (hc:d≤c) (ho:o=false→d=0∧c=0) (o':Bool) (b' q':Nat) (l':List Int) (i' c':Nat) (h':i'+r≤l'.length) (hc':r≤c') (ho':o'=false→r=0∧c'=0) (bs qs:Nat) (S:List Int) (oL:Bool) (bL qL:Nat) (L:List Int) (w3 k3:Nat) (len:Int) (oZ:Bool) (bZ qZ:Nat) (zl:List Int) (z k:Nat) (hz:z≤k) (hk:k≤zl.length) (hz2:z<1000000) (hoZ:oZ=false→z=0∧k=0) (Z:List Int) (hZ:zl.take z=Z) (hzz:∀ x∈Z,0≤x∧x<8*(d:Int)+(g:Int)) (D R:List Int) (hD:(l.drop i).take d=D) (hR:(l'.drop i').take r=R):
 Does (C:=C0) Tryz.prog (.fn 37) (dwC F bd qd bw qw [.sl 6 i d c,.sl 7 i' r c',.sl 8 0 (2*t) (2*t),.sl 9 0 w3 k3,.int .i64 len,.sl 10 0 z k,.bool .f] bC qC t d g r bF qF be qe bl ql ++ [⟨b,q,1,false,some o,.rows 5 l⟩,⟨b',q',1,false,some o',.rows 5 l'⟩,⟨bs,qs,1,false,none,.rows 3 S⟩,⟨bL,qL,1,false,some oL,.rows 3 L⟩,⟨bZ,qZ,1,false,some oZ,.rows 3 zl⟩]) [.ptr 0 0 0,.ptr 1 0 0]
  [⟨Unit,fun _=>z=0,fun _=>.nili,fun y=>dwC F bd qd bw qw [.sl 6 i d c,.sl 7 i' r c',.sl 8 0 (2*t) (2*t),.sl 9 0 w3 k3,.int .i64 len,.sl 10 0 z k,.bool .f] bC qC t d g r bF qF be qe bl ql ++ [⟨b,q,1,false,some o,.rows 5 l⟩,⟨b',q',1,false,some o',.rows 5 l'⟩,⟨bs,qs,1,false,none,.rows 3 S⟩,⟨bL,qL,1,false,some oL,.rows 3 L⟩,⟨bZ,qZ,1,false,some oZ,.rows 3 zl⟩]⟩,
   ⟨Os×Os,fun y=>z≠0∧Ow (tnD g D Z) y.1∧Ow (tnP g R Z) y.2,fun _=>.nili,fun y=>dwC F bd qd bw qw [.sl 11 0 d y.1.2.2.2,.sl 12 0 r y.2.2.2.2,.sl 8 0 (2*t) (2*t),.sl 9 0 w3 k3,.int .i64 len,.sl 10 0 z k,.bool .f] bC qC t d g r bF qF be qe bl ql ++ [⟨b,q,1,false,some o,.rows 5 l⟩,⟨b',q',1,false,some o',.rows 5 l'⟩,⟨bs,qs,1,false,none,.rows 3 S⟩,⟨bL,qL,1,false,some oL,.rows 3 L⟩,⟨bZ,qZ,1,false,some oZ,.rows 3 zl⟩,osB true y.1,osB true y.2]⟩]:=by
 have zz:z=Z.length:=by rw [← hZ,ze];omega
 have zv:∀ j,j<z→zl.getD j 0=Z.getD j 0:=fun j hj=>by rw [← hZ];simp only [zy];rw [List.getElem?_take_of_lt hj]
 refine loc_fn (P:=Tryz.prog) (E:=⟨[fcFlip],[],44,[(4,[],[.p 0,.p 1,.p 2,.p 3,.p 4,.p 6,.p 7,.p 8,.p 10,.p 11,.p 12,.p 14,.q 5,.q 9,.q 13,.e 15,.p 16,.p 17,.p 18,.p 19,.p 20,.p 21,.e 22,.p 23,.p 24,.e 25,.p 26])],[],[],none⟩) (L:=[Tn0,Tn1 d r g z D R Z zz]) mix Tryz.func37 rfl (by kernel_rfl) (by kernel_rfl) rfl rfl ?_
 ((conv=>arg 1;reduce);with_reducible repeat' first | exact ty | refine ta ?_ ?_ | refine ti fun _ => ?_ | refine tf fun _ => ?_ | refine tl ?_)
 all_goals try exact vlf
 · exact Stands.one () ⟨trivial,by exact vgo⟩
 all_goals try (
  rename_i x hx e
  have e:(0:Int)<(z:Int):=ng e
  have zv0:zl.getD ((0:Int).toNat+0) 0=Z.getD 0 0:=zv 0 (by omega)
  have zb0:=hzz _ (getD_mem (l:=Z) (d:=0) (i:=0) (by omega))
  first
  | exact e
  | exact on_of hoZ (by omega)
  | (show 0<zl.length;omega)
  | (refine ⟨⟨h,hc,ho⟩,⟨h',hc',ho'⟩,hd,hr,?_,?_,?_⟩
     · show (g:Int).toNat≤8*r;omega
     · show 0≤zl.getD ((0:Int).toNat+0) 0;rw [zv0];omega
     · show zl.getD ((0:Int).toNat+0) 0<8*(d:Int)+(((g:Int).toNat:Nat):Int);rw [zv0];omega))
 · rename_i x hx e y hy
   have e:(0:Int)<(z:Int):=ng e
   have zv0:zl.getD ((0:Int).toNat+0) 0=Z.getD 0 0:=zv 0 (by omega)
   obtain ⟨y1,y2⟩:=y
   obtain ⟨hy1,hy2⟩:Ow (fpD (g:Int).toNat ((l.drop i).take d) (zl.getD ((0:Int).toNat+0) 0).toNat) y1∧Ow (fpP (g:Int).toNat ((l'.drop i').take r) (zl.getD ((0:Int).toNat+0) 0).toNat) y2:=hy
   rw [hD,zv0,zu] at hy1
   rw [hR,zv0,zu] at hy2
   refine Stands.next (Stands.one ((1,y1,y2):Nat×Os×Os) ⟨⟨⟨zw 1,by show 1≤z;omega⟩,?_,?_⟩,by show z - 1<1000000000;omega,?_⟩)
   · show Ow (tnD g D (Z.take (0+1))) y1
     rw [tnD_succ (by omega),sf,tnD_zero];exact hy1
   · show Ow (tnP g R (Z.take (0+1))) y2
     rw [tnP_succ (by omega),sf,tnP_zero];exact hy2
   exact vgo
 · rename_i x hx e
   have e:¬ (0:Int)<(z:Int):=nf e
   refine Ends.one () (show z=0 by omega) ?_
   exact vgo
 all_goals try (
  rename_i x hx e
  obtain ⟨j,y1,y2⟩:=x
  obtain ⟨⟨k1,k2⟩,k3,k4⟩:(1≤j∧j≤z)∧Ow (tnD g D (Z.take j)) y1∧Ow (tnP g R (Z.take j)) y2:=hx
  have e:(j:Int)<(z:Int):=ng e
  have zvj:zl.getD ((j:Int).toNat+0) 0=Z.getD j 0:=zv j (by omega)
  have zbj:=hzz _ (getD_mem (l:=Z) (d:=0) (i:=j) (by omega))
  have lD:(tnD g D (Z.take j)).length=d:=by rw [tnD_len,← hD];exact row_len h
  have lR:(tnP g R (Z.take j)).length=r:=by rw [tnP_len,← hR];exact row_len h'
  first
  | exact e
  | exact on_of hoZ (by omega)
  | (show (j:Int).toNat+0<zl.length;omega)
  | (refine ⟨⟨?_,by rw [← lD];exact k3.cap,fun e=>by rw [← lD];exact k3.nil e⟩,⟨?_,by rw [← lR];exact k4.cap,fun e=>by rw [← lR];exact k4.nil e⟩,hd,hr,?_,?_,?_⟩
     · have a1:=k3.cap;have a2:=k3.len;show 0+d≤y1.2.2.1.length;omega
     · have a1:=k4.cap;have a2:=k4.len;show 0+r≤y2.2.2.1.length;omega
     · show (g:Int).toNat≤8*r;omega
     · show 0≤zl.getD ((j:Int).toNat+0) 0;rw [zvj];omega
     · show zl.getD ((j:Int).toNat+0) 0<8*(d:Int)+(((g:Int).toNat:Nat):Int);rw [zvj];omega))
 all_goals try (
  rename_i x hx e y hy
  obtain ⟨j,x1,x2⟩:=x
  obtain ⟨⟨k1,k2⟩,k3,k4⟩:(1≤j∧j≤z)∧Ow (tnD g D (Z.take j)) x1∧Ow (tnP g R (Z.take j)) x2:=hx
  have e:(j:Int)<(z:Int):=ng e
  have zvj:zl.getD ((j:Int).toNat+0) 0=Z.getD j 0:=zv j (by omega)
  have lD:(tnD g D (Z.take j)).length=d:=by rw [tnD_len,← hD];exact row_len h
  have lR:(tnP g R (Z.take j)).length=r:=by rw [tnP_len,← hR];exact row_len h'
  first
  | exact inR64 (n:=(j:Int)+1) (by omega) (by omega)
  | (obtain ⟨y1,y2⟩:=y
     obtain ⟨hy1,hy2⟩:Ow (fpD (g:Int).toNat ((x1.2.2.1.drop 0).take d) (zl.getD ((j:Int).toNat+0) 0).toNat) y1∧Ow (fpP (g:Int).toNat ((x2.2.2.1.drop 0).take r) (zl.getD ((j:Int).toNat+0) 0).toNat) y2:=hy
     have ed:(x1.2.2.1.drop 0).take d=tnD g D (Z.take j):=by have:=k3.eq;rw [lD] at this;exact this
     have er:(x2.2.2.1.drop 0).take r=tnP g R (Z.take j):=by have:=k4.eq;rw [lR] at this;exact this
     rw [ed,zvj,zu] at hy1
     rw [er,zvj,zu] at hy2
     refine Stands.next (Stands.one ((j+1,y1,y2):Nat×Os×Os) ⟨⟨⟨by show 1≤j+1;omega,by show j+1≤z;omega⟩,?_,?_⟩,by show z - (j+1)<z - j;omega,?_⟩)
     · show Ow (tnD g D (Z.take (j+1))) y1
       rw [tnD_succ (by omega)];exact hy1
     · show Ow (tnP g R (Z.take (j+1))) y2
       rw [tnP_succ (by omega)];exact hy2
     exact vgo))
 · rename_i x hx e
   obtain ⟨j,x1,x2⟩:=x
   obtain ⟨⟨k1,k2⟩,k3,k4⟩:(1≤j∧j≤z)∧Ow (tnD g D (Z.take j)) x1∧Ow (tnP g R (Z.take j)) x2:=hx
   have e:¬ (j:Int)<(z:Int):=nf e
   obtain rfl:j=z:=by omega
   have ez:Z.take j=Z:=by rw [zc (by omega)]
   rw [ez] at k3 k4
   refine Ends.next (Ends.one ((x1,x2):Os×Os) ⟨by omega,k3,k4⟩ ?_)
   exact vgo
def fcTurn:Fc Tryz.prog C0 where
 tg:=.fn 37
 X:=(Nat×Nat×Nat×Nat)×Co5×(Nat×Nat×Nat×Nat×Nat×Nat)×(Bool×Nat×Nat×List Int×Nat×Nat)×(Bool×Nat×Nat×List Int×Nat×Nat)×(Nat×Nat×List Int)×(Bool×Nat×Nat×List Int×Nat×Nat)×Int×(Bool×Nat×Nat×List Int×Nat×Nat)
 args _:=[.ptr 0 0 0,.ptr 1 0 0]
 mem:=fun ((bd,qd,bw,qw),(bC,qC,t,d,g,r),(bF,qF,be,qe,bl,ql),(o,b,q,l,i,c),(o',b',q',l',i',c'),(bs,qs,S),(oL,bL,qL,L,w3,k3),len,(oZ,bZ,qZ,zl,z,k))=>dwC F bd qd bw qw [.sl 6 i d c,.sl 7 i' r c',.sl 8 0 (2*t) (2*t),.sl 9 0 w3 k3,.int .i64 len,.sl 10 0 z k,.bool .f] bC qC t d g r bF qF be qe bl ql ++ [⟨b,q,1,false,some o,.rows 5 l⟩,⟨b',q',1,false,some o',.rows 5 l'⟩,⟨bs,qs,1,false,none,.rows 3 S⟩,⟨bL,qL,1,false,some oL,.rows 3 L⟩,⟨bZ,qZ,1,false,some oZ,.rows 3 zl⟩]
 pre:=fun (_,(_,_,t,d,g,r),_,(o,b,q,l,i,c),(o',b',q',l',i',c'),_,_,_,(oZ,bZ,qZ,zl,z,k))=>(d<100000∧g≤8*r∧r<100000)∧(i+d≤l.length∧d≤c∧(o=false→d=0∧c=0))∧(i'+r≤l'.length∧r≤c'∧(o'=false→r=0∧c'=0))∧(z≤k∧k≤zl.length∧z<1000000∧(oZ=false→z=0∧k=0))∧∀ x∈zl.take z,0≤x∧x<8*(d:Int)+(g:Int)
 alts:=fun ((bd,qd,bw,qw),(bC,qC,t,d,g,r),(bF,qF,be,qe,bl,ql),(o,b,q,l,i,c),(o',b',q',l',i',c'),(bs,qs,S),(oL,bL,qL,L,w3,k3),len,(oZ,bZ,qZ,zl,z,k))=>[⟨Unit,fun _=>z=0,fun _=>.nili,fun y=>dwC F bd qd bw qw [.sl 6 i d c,.sl 7 i' r c',.sl 8 0 (2*t) (2*t),.sl 9 0 w3 k3,.int .i64 len,.sl 10 0 z k,.bool .f] bC qC t d g r bF qF be qe bl ql ++ [⟨b,q,1,false,some o,.rows 5 l⟩,⟨b',q',1,false,some o',.rows 5 l'⟩,⟨bs,qs,1,false,none,.rows 3 S⟩,⟨bL,qL,1,false,some oL,.rows 3 L⟩,⟨bZ,qZ,1,false,some oZ,.rows 3 zl⟩]⟩,
      ⟨Os×Os,fun y=>z≠0∧Ow (tnD g ((l.drop i).take d) (zl.take z)) y.1∧Ow (tnP g ((l'.drop i').take r) (zl.take z)) y.2,fun _=>.nili,fun y=>dwC F bd qd bw qw [.sl 11 0 d y.1.2.2.2,.sl 12 0 r y.2.2.2.2,.sl 8 0 (2*t) (2*t),.sl 9 0 w3 k3,.int .i64 len,.sl 10 0 z k,.bool .f] bC qC t d g r bF qF be qe bl ql ++ [⟨b,q,1,false,some o,.rows 5 l⟩,⟨b',q',1,false,some o',.rows 5 l'⟩,⟨bs,qs,1,false,none,.rows 3 S⟩,⟨bL,qL,1,false,some oL,.rows 3 L⟩,⟨bZ,qZ,1,false,some oZ,.rows 3 zl⟩,osB true y.1,osB true y.2]⟩]
 mat vs m:=match vs with
  | [.ptr kk _ _,.ptr w _ _]=>match nth m kk,nth m w with
    | ⟨bd,qd,_,_,_,.one (.ptr p _ _ :: _)⟩,⟨bw,qw,_,_,_,.one (.sl s i _ c :: .sl s' i' _ c' :: .sl y _ _ _ :: .sl v _ w3 k3 :: .int _ len :: .sl u _ z k :: _)⟩=>match nth m p with
      | ⟨bC,qC,_,_,_,.one (.ptr f _ _ :: .int _ (t:Nat) :: .int _ (d:Nat) :: .int _ (g:Nat) :: .int _ (r:Nat) :: _)⟩=>match nth m f with
        | ⟨bF,qF,_,_,_,.one (_ :: _ :: .sl x _ _ _ :: .sl h _ _ _ :: _)⟩=>match nth m x,nth m h,nth m s,nth m s',nth m y,nth m v,nth m u with
          | ⟨be,qe,_,_,_,_⟩,⟨bl,ql,_,_,_,_⟩,⟨b,q,_,_,o,.rows 5 l⟩,⟨b',q',_,_,o',.rows 5 l'⟩,⟨bs,qs,_,_,_,.rows 3 S⟩,⟨bL,qL,_,_,oL,.rows 3 L⟩,⟨bZ,qZ,_,_,oZ,.rows 3 zl⟩=>some (((bd,qd,bw,qw),(bC,qC,t,d,g,r),(bF,qF,be,qe,bl,ql),(onOf o,b,q,l,i,c),(onOf o',b',q',l',i',c'),(bs,qs,S),(onOf oL,bL,qL,L,w3,k3),len,(onOf oZ,bZ,qZ,zl,z,k)),[kk,w,p,f,x,h,s,s',y,v,u])
          | _,_,_,_,_,_,_=>none
        | _=>none
      | _=>none
    | _,_=>none
  | _=>none
 ok:=fun ((bd,qd,bw,qw),(bC,qC,t,d,g,r),(bF,qF,be,qe,bl,ql),(o,b,q,l,i,c),(o',b',q',l',i',c'),(bs,qs,S),(oL,bL,qL,L,w3,k3),len,(oZ,bZ,qZ,zl,z,k)) h=>turn_ok F bd qd bw qw bC qC t d g r bF qF be qe bl ql h.1.1 h.1.2.1 h.1.2.2 o b q l i c h.2.1.1 h.2.1.2.1 h.2.1.2.2 o' b' q' l' i' c' h.2.2.1.1 h.2.2.1.2.1 h.2.2.1.2.2 bs qs S oL bL qL L w3 k3 len oZ bZ qZ zl z k h.2.2.2.1.1 h.2.2.2.1.2.1 h.2.2.2.1.2.2.1 h.2.2.2.1.2.2.2 _ rfl h.2.2.2.2 _ _ rfl rfl
end
end
end Go.Vx
namespace Go.Vx
open Go Go.Proofs
noncomputable section
variable [Gl]
@[irreducible] def mkR (g:Nat) (R:List Int):List Int:=if g % 8=0 then R else R.set (R.length - 1) (ibit .and .u8 (R.getD (R.length - 1) 0) ((2 ^ (g % 8) - 1:Nat):Int))
theorem blt0 {n:Nat} (e:wc 1 n=false):n=0:=by
 by_cases h:1≤n
 · rw [oq h] at e;cases e
 · omega
theorem mkR_len {g:Nat} {R:List Int}:(mkR g R).length=R.length:=by unfold mkR;split;rfl;rw [zh]
theorem mk_none {g:Nat} {R sp:List Int} (h:g % 8=0):(R ++ sp).take (mkR g R).length=mkR g R:=by
 rw [mkR_len,ou];unfold mkR;rw [if_pos h]
theorem msk8 {k:Nat} (h:k<8):IntKind.u8.wrap (ishl .u8 1 (k:Int) - 1)=((2 ^ k - 1:Nat):Int):=by
 rw [shl1_8 h]
 have:∀ k:Fin 8,IntKind.u8.wrap (((2 ^ k.1:Nat):Int) - 1)=((2 ^ k.1 - 1:Nat):Int):=by decide
 exact this ⟨k,h⟩
theorem mk_mask {g n' r:Nat} {R sp:List Int} (e2:n'=r) (lR:R.length=n') (hgr:r=(g+7) / 8) (hg1:1≤g) (h:g % 8≠0):
 ((R ++ sp).set (((n':Int) - 1).toNat+0) (ibit .and .u8 ((R ++ sp).getD (((n':Int) - 1).toNat+0) 0) (IntKind.u8.wrap (ishl .u8 1 ((g:Int).tmod 8) - 1)))).take (mkR g R).length=mkR g R:=by
 have q8:(g:Int).tmod 8=((g % 8:Nat):Int):=(zb g 8).symm
 have e:((n':Int) - 1).toNat+0=R.length - 1:=by omega
 rw [mkR_len,e,q8,msk8 (yv _ (by omega)),List.set_append_left _ _ (by omega),List.take_append_of_le_length (by rw [zh];exact zw _),zc (by rw [zh];exact zw _)]
 unfold mkR
 rw [if_neg h]
 congr 2
 simp only [zy,List.getElem?_append_left (show R.length - 1<R.length by omega)]
theorem mkR_byt {g:Nat} {R:List Int} (h:Byt8 R):Byt8 (mkR g R):=by
 unfold mkR
 split
 · exact h
 · by_cases h0:R.length=0
   · rw [vg h0];exact fun x hx=>nomatch hx
   · obtain ⟨x,hx,x1,x2⟩:=byt_at h (show R.length - 1<R.length by omega)
     refine byt_set h ?_
     rw [hx,and8 x1 (Nat.lt_of_lt_of_le (Nat.sub_lt (Nat.two_pow_pos _) (by omega)) (show 2 ^ (g % 8)≤2 ^ 8 from zj (by omega) (by omega)))]
     have:x &&& (2 ^ (g % 8) - 1)≤x:=ub
     omega
section
variable (F:Gf)
@[irreducible] def dcS (t d g:Nat) (D R:List Int):List Int:=svL F (psL g D (mkR g R) (8*d+g)) (2*t)
@[irreducible] def dcL (t d g:Nat) (D R:List Int):List Int:=wkL F (dcS F t d g D R)
@[irreducible] def dcN (t d g:Nat) (D R:List Int):Nat:=wkN F (dcS F t d g D R)
@[irreducible] def dcZ (t d g:Nat) (D R:List Int):List Int:=srL F (dcL F t d g D R) (8*(d:Int)+(g:Int))
theorem dcL_eq {t d g:Nat} {D R:List Int}:dcL F t d g D R=wkL F (dcS F t d g D R):=by unfold dcL;rfl
theorem dcN_eq {t d g:Nat} {D R:List Int}:dcN F t d g D R=wkN F (dcS F t d g D R):=by unfold dcN;rfl
theorem dcZ_eq {t d g:Nat} {D R:List Int}:dcZ F t d g D R=srL F (dcL F t d g D R) (8*(d:Int)+(g:Int)):=by unfold dcZ;rfl
theorem dcS_len {t d g:Nat} {D R:List Int}:(dcS F t d g D R).length=2*t:=by unfold dcS;exact svL_len F
theorem dcL_len {t d g:Nat} {D R:List Int}:(dcL F t d g D R).length≤2*t+1:=by rw [dcL_eq];have:=wkL_le F (S:=dcS F t d g D R);rw [dcS_len] at this;exact this
theorem rtL_rng {P:List Int} {k:Nat} (x:Int) (h:x∈rtL F P k):0≤x∧x<(k:Int):=by
 unfold rtL at h
 obtain ⟨a,ha,rfl⟩:=List.mem_map.1 h
 have:=List.mem_range.1 (List.mem_filter.1 ha).1
 omega
theorem dcZ_rng {t d g:Nat} {D R:List Int} (x:Int) (h:x∈dcZ F t d g D R):0≤x∧x<8*(d:Int)+(g:Int):=by
 rw [dcZ_eq] at h;unfold srL at h
 have:=rtL_rng F x h
 omega
theorem dcZ_len {t d g:Nat} {D R:List Int}:(dcZ F t d g D R).length≤8*d+g:=by
 rw [dcZ_eq];unfold srL
 have:=rtL_len (F:=F) (P:=trL F (dcL F t d g D R)) (i:=(max 0 (min (8*(d:Int)+(g:Int)) ((szF F:Int) - 1))).toNat)
 omega
abbrev dcC (F:Gf) (bd qd bC qC t d g r bF qF be qe bl ql:Nat):List (Ck C0):=
 [⟨bd,qd,1,false,none,.one [.ptr 1 0 0]⟩,⟨bC,qC,263,false,none,.one [.ptr 2 0 0,.int .i64 (t:Int),.int .i64 (d:Int),.int .i64 (g:Int),.int .i64 (r:Int)]⟩,
  ⟨bF,qF,4,false,none,.one [.int .i64 (F.m:Int),.int .i64 (szF F:Int),.sl 3 0 (nF F) (nF F),.sl 4 0 (szF F) (szF F)]⟩,xCk F be qe,lCk F bl ql]
def Dc0 (H:Prop) (d r g:Nat) (D R:List Int):Inv' C0:=⟨8,Os×Os,fun _=>[(75,.int .i64 0)],fun x m=>match m with
 | a0 :: a1 :: a2 :: a3 :: a4 :: a5 :: a6 :: c7 :: c8 :: ⟨bw,qw,_,_,_,_⟩ :: fs :: _=>
   [a0,a1,a2,a3,a4,a5,a6,osB true x.1,osB true x.2,⟨bw,qw,7,true,none,.one [.sl 7 0 d x.1.2.2.2,.sl 8 0 r x.2.2.2.2,.nils,.nils,.int .i64 0,.nils,.bool .f]⟩,fs]
 | m=>m,fun x=>H∧Ow D x.1∧Ow (mkR g R) x.2,fun _=>5⟩
def Dc1 (H:Prop) (t d r g:Nat) (D R:List Int):Inv' C0:=⟨8,Os×Os×Nat,fun _=>[(75,.int .i64 1)],fun x m=>match m with
 | a0 :: a1 :: a2 :: a3 :: a4 :: a5 :: a6 :: c7 :: c8 :: ⟨bw,qw,_,_,_,_⟩ :: fs :: _=>
   [a0,a1,a2,a3,a4,a5,a6,osB true x.1,osB true x.2.1,⟨bw,qw,7,true,none,.one [.sl 7 0 d x.1.2.2.2,.sl 8 0 r x.2.1.2.2.2,.sl 11 0 (2*t) (2*t),.nils,.int .i64 0,.nils,.bool (SB.tm (clnB (dcS F t d g D R)))]⟩,fs,⟨x.2.2,0,1,true,none,.rows 3 (dcS F t d g D R)⟩]
 | m=>m,fun x=>H∧Ow D x.1∧Ow (mkR g R) x.2.1,fun _=>4⟩
def Dc2 (H:Prop) (t d r g:Nat) (D R:List Int):Inv' C0:=⟨8,Os×Os×Nat×Os,fun _=>[(75,.int .i64 2)],fun x m=>match m with
 | a0 :: a1 :: a2 :: a3 :: a4 :: a5 :: a6 :: c7 :: c8 :: ⟨bw,qw,_,_,_,_⟩ :: fs :: _=>
   [a0,a1,a2,a3,a4,a5,a6,osB true x.1,osB true x.2.1,⟨bw,qw,7,true,none,.one [.sl 7 0 d x.1.2.2.2,.sl 8 0 r x.2.1.2.2.2,.sl 11 0 (2*t) (2*t),.sl 12 0 (dcL F t d g D R).length x.2.2.2.2.2.2,.int .i64 (dcN F t d g D R:Int),.nils,.bool .f]⟩,fs,⟨x.2.2.1,0,1,true,none,.rows 3 (dcS F t d g D R)⟩,osC true x.2.2.2]
 | m=>m,fun x=>H∧clnB (dcS F t d g D R)=false∧¬ (t<dcN F t d g D R∨(dcL F t d g D R).length≠dcN F t d g D R+1)∧Ow D x.1∧Ow (mkR g R) x.2.1∧Ow (dcL F t d g D R) x.2.2.2,fun _=>3⟩
def Dc3 (H:Prop) (t d r g:Nat) (D R:List Int):Inv' C0:=⟨8,(Os×Os×Nat×Os)×Oq,fun _=>[(75,.int .i64 3)],fun x m=>match m with
 | a0 :: a1 :: a2 :: a3 :: a4 :: a5 :: a6 :: c7 :: c8 :: ⟨bw,qw,_,_,_,_⟩ :: fs :: _=>
   [a0,a1,a2,a3,a4,a5,a6,osB true x.1.1,osB true x.1.2.1,⟨bw,qw,7,true,none,.one [.sl 7 0 d x.1.1.2.2.2,.sl 8 0 r x.1.2.1.2.2.2,.sl 11 0 (2*t) (2*t),.sl 12 0 (dcL F t d g D R).length x.1.2.2.2.2.2.2,.int .i64 (dcN F t d g D R:Int),.sl 13 0 (dcZ F t d g D R).length x.2.2.2.2.2,.bool .f]⟩,fs,⟨x.1.2.2.1,0,1,true,none,.rows 3 (dcS F t d g D R)⟩,osC true x.1.2.2.2,oqC true x.2]
 | m=>m,fun x=>H∧clnB (dcS F t d g D R)=false∧(¬ (t<dcN F t d g D R∨(dcL F t d g D R).length≠dcN F t d g D R+1)∧(dcZ F t d g D R).length=dcN F t d g D R)∧(Ow D x.1.1∧Ow (mkR g R) x.1.2.1∧Ow (dcL F t d g D R) x.1.2.2.2)∧Oqw (dcZ F t d g D R) x.2,fun _=>2⟩
def Dc4 (H:Prop) (t d r g:Nat) (D R:List Int):Inv' C0:=⟨8,(Os×Os×Nat×Os)×Oq,fun _=>[(75,.int .i64 4)],fun x m=>match m with
 | a0 :: a1 :: a2 :: a3 :: a4 :: a5 :: a6 :: c7 :: c8 :: ⟨bw,qw,_,_,_,_⟩ :: fs :: _=>
   [a0,a1,a2,a3,a4,a5,a6,osB true x.1.1,osB true x.1.2.1,⟨bw,qw,7,true,none,.one [.sl 7 0 d x.1.1.2.2.2,.sl 8 0 r x.1.2.1.2.2.2,.sl 11 0 (2*t) (2*t),.sl 12 0 (dcL F t d g D R).length x.1.2.2.2.2.2.2,.int .i64 (dcN F t d g D R:Int),.sl 13 0 (dcZ F t d g D R).length x.2.2.2.2.2,.bool .f]⟩,fs,⟨x.1.2.2.1,0,1,true,none,.rows 3 (dcS F t d g D R)⟩,osC true x.1.2.2.2,oqC true x.2]
 | m=>m,fun x=>H∧clnB (dcS F t d g D R)=false∧(¬ (t<dcN F t d g D R∨(dcL F t d g D R).length≠dcN F t d g D R+1)∧(dcZ F t d g D R).length=dcN F t d g D R)∧(Ow (tnD g D (dcZ F t d g D R)) x.1.1∧Ow (tnP g (mkR g R) (dcZ F t d g D R)) x.1.2.1)∧Oqw (dcZ F t d g D R) x.2,fun _=>1⟩
def Dc5 (H:Prop) (t d r g:Nat) (D R:List Int):Inv' C0:=⟨8,(Os×Os×Nat×Os)×Oq×Os×Os,fun _=>[(75,.int .i64 4)],fun x m=>match m with
 | a0 :: a1 :: a2 :: a3 :: a4 :: a5 :: a6 :: c7 :: c8 :: ⟨bw,qw,_,_,_,_⟩ :: fs :: _=>
   [a0,a1,a2,a3,a4,a5,a6,osB true x.1.1,osB true x.1.2.1,⟨bw,qw,7,true,none,.one [.sl 14 0 d x.2.2.1.2.2.2,.sl 15 0 r x.2.2.2.2.2.2,.sl 11 0 (2*t) (2*t),.sl 12 0 (dcL F t d g D R).length x.1.2.2.2.2.2.2,.int .i64 (dcN F t d g D R:Int),.sl 13 0 (dcZ F t d g D R).length x.2.1.2.2.2.2,.bool .f]⟩,fs,⟨x.1.2.2.1,0,1,true,none,.rows 3 (dcS F t d g D R)⟩,osC true x.1.2.2.2,oqC true x.2.1,osB true x.2.2.1,osB true x.2.2.2]
 | m=>m,fun x=>H∧clnB (dcS F t d g D R)=false∧(¬ (t<dcN F t d g D R∨(dcL F t d g D R).length≠dcN F t d g D R+1)∧(dcZ F t d g D R).length=dcN F t d g D R)∧(Ow (tnD g D (dcZ F t d g D R)) x.2.2.1∧Ow (tnP g (mkR g R) (dcZ F t d g D R)) x.2.2.2)∧Oqw (dcZ F t d g D R) x.2.1,fun _=>1⟩
set_option maxHeartbeats 16000000 in
theorem decode_ok (bd qd bC qC t d g r bF qF be qe bl ql:Nat) (ht:t≤40) (hd:d<100000) (hg:g<100000) (hgr:r=(g+7) / 8) (hd1:1≤d) (hg1:1≤g) (o:Bool) (b q:Nat) (l:List Int) (i n c:Nat) (h:i+n≤l.length) (hN:n<1000000000) (ho:o=false→n=0∧c=0) (o':Bool) (b' q':Nat) (l':List Int) (i' n' c':Nat) (h':i'+n'≤l'.length) (hN':n'<1000000000) (ho':o'=false→n'=0∧c'=0) (D R:List Int) (hD:(l.drop i).take n=D) (hR:(l'.drop i').take n'=R) (kD:Byt8 D) (kR:Byt8 R):
 Does (C:=C0) Tryz.prog (.fn 15) (dcC F bd qd bC qC t d g r bF qF be qe bl ql ++ [⟨b,q,1,false,some o,.rows 5 l⟩,⟨b',q',1,false,some o',.rows 5 l'⟩]) [.ptr 0 0 0,.sl 5 i n c,.sl 6 i' n' c']
  [⟨Unit,fun _=>n≠d∨n'≠r,fun _=>.tup [.nils,.nils,.nils,eV 0],fun _=>dcC F bd qd bC qC t d g r bF qF be qe bl ql ++ [⟨b,q,1,false,some o,.rows 5 l⟩,⟨b',q',1,false,some o',.rows 5 l'⟩]⟩,
   ⟨Unit,fun _=>(n=d∧n'=r)∧clnB (dcS F t d g D R)=false∧((t<dcN F t d g D R∨(dcL F t d g D R).length≠dcN F t d g D R+1)∨(dcZ F t d g D R).length≠dcN F t d g D R),fun _=>.tup [.nils,.nils,.nils,eV 1],fun _=>dcC F bd qd bC qC t d g r bF qF be qe bl ql ++ [⟨b,q,1,false,some o,.rows 5 l⟩,⟨b',q',1,false,some o',.rows 5 l'⟩]⟩,
   ⟨Os×Os,fun y=>(n=d∧n'=r)∧clnB (dcS F t d g D R)=true∧Ow D y.1∧Ow (mkR g R) y.2,fun y=>.tup [.sl 7 0 d y.1.2.2.2,.sl 8 0 r y.2.2.2.2,.nils,.nili],fun y=>dcC F bd qd bC qC t d g r bF qF be qe bl ql ++ [⟨b,q,1,false,some o,.rows 5 l⟩,⟨b',q',1,false,some o',.rows 5 l'⟩,osB true y.1,osB true y.2]⟩,
   ⟨Os×Os×Oq,fun y=>(n=d∧n'=r)∧clnB (dcS F t d g D R)=false∧(¬ (t<dcN F t d g D R∨(dcL F t d g D R).length≠dcN F t d g D R+1)∧(dcZ F t d g D R).length=dcN F t d g D R)∧(Ow (tnD g D (dcZ F t d g D R)) y.1∧Ow (tnP g (mkR g R) (dcZ F t d g D R)) y.2.1)∧Oqw (dcZ F t d g D R) y.2.2,fun y=>.tup [.sl 7 0 d y.1.2.2.2,.sl 8 0 r y.2.1.2.2.2,.sl 9 0 (dcZ F t d g D R).length y.2.2.2.2.2.2,.nili],fun y=>dcC F bd qd bC qC t d g r bF qF be qe bl ql ++ [⟨b,q,1,false,some o,.rows 5 l⟩,⟨b',q',1,false,some o',.rows 5 l'⟩,osB true y.1,osB true y.2.1,oqC true y.2.2]⟩]:=by
 have by5:Tryz.prog.types[5].bytes=1:=by kernel_rfl
 have q8:(g:Int).tmod 8=((g % 8:Nat):Int):=(zb g 8).symm
 have lD:D.length=n:=by rw [← hD];exact row_len h
 have lR:R.length=n':=by rw [← hR];exact row_len h'
 have lL:=dcL_len F (t:=t) (d:=d) (g:=g) (D:=D) (R:=R)
 have lZ:=dcZ_len F (t:=t) (d:=d) (g:=g) (D:=D) (R:=R)
 refine loc_fn (P:=Tryz.prog) (E:=⟨[fcMeasure F,fcFind F,fcSeek F,fcTurn F],[pcCoData,pcCoParity,pcCoDegree],102,[(6,[],[.p 0,.p 1,.p 2,.p 4,.p 5,.p 6,.p 12,.p 13,.p 14,.q 3,.q 7,.p 8,.p 9,.p 10,.q 11,.p 15,.p 16,.e 17])],[],[],none⟩) (L:=[Dc0 (n=d∧n'=r) d r g D R,Dc1 F (n=d∧n'=r) t d r g D R,Dc2 F (n=d∧n'=r) t d r g D R,Dc3 F (n=d∧n'=r) t d r g D R,Dc4 F (n=d∧n'=r) t d r g D R,Dc5 F (n=d∧n'=r) t d r g D R]) mix Tryz.func15 rfl (by kernel_rfl) (by kernel_rfl) rfl rfl ?_
 ((conv=>arg 1;reduce);with_reducible repeat' first | exact ty | refine ta ?_ ?_ | refine ti fun _ => ?_ | refine tf fun _ => ?_ | refine tl ?_)
 all_goals try exact vlf
 · rename_i e
   simp only [yd,decide_eq_true_eq,SB.val] at e
   refine Ends.one () (show n≠d∨n'≠r by omega) ?_
   exact vgo
 · exact ⟨h,by rw [by5];omega⟩
 · exact fun e=>⟨(ho e).1,(ho e).1⟩
 · exact ⟨h',by rw [by5];omega⟩
 · exact fun e=>⟨(ho' e).1,(ho' e).1⟩
 all_goals try (
  rename_i e0 b1 sp1 s1 b2 sp2 s2 bw m
  have m:(0:Int)<(g:Int).tmod 8:=ng m
  simp only [xf,decide_eq_false_iff_not,SB.val] at e0
  have e2:n'=r:=by omega
  first
  | (rw [q8];omega)
  | (show wc 1 n'=true;exact oq (show 1≤n' by omega))
  | (show 0≤(n':Int) - 1;omega)
  | (show ((n':Int) - 1).toNat+0<((l'.drop i').take n' ++ sp2).length;rw [zx,row_len h'];omega))
 · rename_i e0 b1 sp1 s1 b2 sp2 s2 bw m fs
   change Nat at b1 b2 bw fs
   change List Int at sp1 sp2
   have m:(0:Int)<(g:Int).tmod 8:=ng m
   simp only [xf,decide_eq_false_iff_not,SB.val] at e0
   have e1:n=d:=by omega
   have e2:n'=r:=by omega
   refine Stands.one (((ye 0 n,b1,(l.drop i).take n ++ sp1,n+sp1.length),(ye 0 n',b2,((l'.drop i').take n' ++ sp2).set (((n':Int) - 1).toNat+0) (ibit .and .u8 (((l'.drop i').take n' ++ sp2).getD (((n':Int) - 1).toNat+0) 0) (IntKind.u8.wrap (ishl .u8 1 ((g:Int).tmod 8) - 1))),n'+sp2.length)):Os×Os) ⟨⟨⟨e1,e2⟩,⟨?_,?_,?_,?_⟩,⟨?_,?_,?_,?_⟩⟩,?_⟩
   · show ((l.drop i).take n ++ sp1).take D.length=D
     rw [hD,ou]
   · show D.length≤n+sp1.length;omega
   · show n+sp1.length≤((l.drop i).take n ++ sp1).length;rw [hD,zx];omega
   · intro e;have e:wc 1 n=false:=e;have e9:n=0:=blt0 e;have:=s1 e9;omega
   · show (((l'.drop i').take n' ++ sp2).set (((n':Int) - 1).toNat+0) (ibit .and .u8 (((l'.drop i').take n' ++ sp2).getD (((n':Int) - 1).toNat+0) 0) (IntKind.u8.wrap (ishl .u8 1 ((g:Int).tmod 8) - 1)))).take (mkR g R).length=mkR g R
     rw [hR];exact mk_mask e2 lR hgr hg1 (by rw [q8] at m;omega)
   · show (mkR g R).length≤n'+sp2.length;rw [mkR_len];omega
   · show n'+sp2.length≤(((l'.drop i').take n' ++ sp2).set (((n':Int) - 1).toNat+0) (ibit .and .u8 (((l'.drop i').take n' ++ sp2).getD (((n':Int) - 1).toNat+0) 0) (IntKind.u8.wrap (ishl .u8 1 ((g:Int).tmod 8) - 1)))).length;rw [zh,hR,zx];omega
   · intro e;have e:wc 1 n'=false:=e;have e9:n'=0:=blt0 e;omega
   ((conv=>arg 1;reduce);with_reducible repeat' first | exact ty | refine ta ?_ ?_ | refine ti fun _ => ?_ | refine tf fun _ => ?_ | refine tl ?_)
   all_goals first | exact vlf | exact e1 | exact e1.symm | exact e2 | exact e2.symm | rfl
 · show (0:Int)<((4:Nat):Int);decide
 · rename_i x hx e
   obtain ⟨y1,y2⟩:=x
   obtain ⟨⟨e1,e2⟩,k1,k2⟩:(n=d∧n'=r)∧Ow D y1∧Ow (mkR g R) y2:=hx
   have dD:(y1.2.2.1.drop 0).take d=D:=by have:=k1.eq;rw [lD,e1] at this;exact this
   have dR:(y2.2.2.1.drop 0).take r=mkR g R:=by have:=k2.eq;rw [mkR_len,lR,e2] at this;exact this
   have a1:=k1.cap;have a2:=k1.len;have a3:=k2.cap;have a4:=k2.len
   rw [mkR_len] at a3
   refine ⟨⟨by show t<_;omega,hd,hg,by show g≤8*r;omega,by show r<_;omega⟩,⟨⟨by show 0+d≤y1.2.2.1.length;omega,by show d<_;omega,fun e => ?_⟩,by show 0+r≤y2.2.2.1.length;omega,by show r<_;omega,fun e => ?_⟩,⟨rfl,rfl⟩,?_,?_⟩
   · have:=k1.nil e;exact ⟨by omega,this.2⟩
   · have:=k2.nil e;rw [mkR_len] at this;exact ⟨by omega,this.2⟩
   · show Byt8 ((y1.2.2.1.drop 0).take d);rw [dD];exact kD
   · show Byt8 ((y2.2.2.1.drop 0).take r);rw [dR];exact mkR_byt kR
 · rename_i x hx e y hy
   change Nat at y
   obtain ⟨y1,y2⟩:=x
   obtain ⟨⟨e1,e2⟩,k1,k2⟩:(n=d∧n'=r)∧Ow D y1∧Ow (mkR g R) y2:=hx
   have dD:(y1.2.2.1.drop 0).take d=D:=by have:=k1.eq;rw [lD,e1] at this;exact this
   have dR:(y2.2.2.1.drop 0).take r=mkR g R:=by have:=k2.eq;rw [mkR_len,lR,e2] at this;exact this
   have a1:=k1.cap;have a2:=k1.len;have a3:=k2.cap;have a4:=k2.len
   rw [mkR_len] at a3
   refine Stands.next (Stands.one ((y1,y2,y):Os×Os×Nat) ⟨⟨⟨e1,e2⟩,k1,k2⟩,wt 4,?_⟩)
   have eS:svL F (psL g ((y1.2.2.1.drop 0).take d) ((y2.2.2.1.drop 0).take r) (8*d+g)) (2*t)=dcS F t d g D R:=by rw [dD,dR];unfold dcS;rfl
   ((conv=>arg 1;reduce);with_reducible repeat' first | exact ty | refine ta ?_ ?_ | refine ti fun _ => ?_ | refine tf fun _ => ?_ | refine tl ?_)
   all_goals first | exact vlf | exact eS | exact eS.symm | rw [eS]
 · rename_i e
   exact absurd (show (0:Int)<((4:Nat):Int) by decide) (nf e)
 · show (1:Int)<((4:Nat):Int);decide
 · rename_i x hx e cl
   obtain ⟨y1,y2,y3⟩:=x
   obtain ⟨⟨e1,e2⟩,k1,k2⟩:(n=d∧n'=r)∧Ow D y1∧Ow (mkR g R) y2:=hx
   refine Ends.next (Ends.next (Ends.one ((y1,y2):Os×Os) ⟨⟨e1,e2⟩,cl,k1,k2⟩ ?_))
   exact vgo
 · rename_i x hx e cl
   exact cl.symm
 · exact ⟨ht,dcS_len F⟩
 · rename_i x hx e cl y hy
   obtain ⟨y1,y2,y3⟩:=x
   obtain ⟨⟨e1,e2⟩,k1,k2⟩:(n=d∧n'=r)∧Ow D y1∧Ow (mkR g R) y2:=hx
   obtain ⟨h1,h2⟩:Ow (wkL F (dcS F t d g D R)) y∧(t<wkN F (dcS F t d g D R)∨(wkL F (dcS F t d g D R)).length≠wkN F (dcS F t d g D R)+1):=hy
   rw [← dcL_eq,← dcN_eq] at h2
   refine Ends.next (Ends.one () ⟨⟨e1,e2⟩,cl,.inl h2⟩ ?_)
   exact vgo
 · rename_i x hx e cl y hy
   obtain ⟨y1,y2,y3⟩:=x
   obtain ⟨⟨e1,e2⟩,k1,k2⟩:(n=d∧n'=r)∧Ow D y1∧Ow (mkR g R) y2:=hx
   obtain ⟨h1,h2⟩:Ow (wkL F (dcS F t d g D R)) y∧¬ (t<wkN F (dcS F t d g D R)∨(wkL F (dcS F t d g D R)).length≠wkN F (dcS F t d g D R)+1):=hy
   rw [← dcL_eq] at h1
   rw [← dcL_eq,← dcN_eq] at h2
   refine Stands.next (Stands.next (Stands.one ((y1,y2,y3,y):Os×Os×Nat×Os) ⟨⟨⟨e1,e2⟩,cl,h2,k1,k2,h1⟩,wt 3,?_⟩))
   ((conv=>arg 1;reduce);with_reducible repeat' first | exact ty | refine ta ?_ ?_ | refine ti fun _ => ?_ | refine tf fun _ => ?_ | refine tl ?_)
   all_goals first | exact vlf | rw [dcL_eq] | rw [dcN_eq]
 · rename_i e
   exact absurd (show (1:Int)<((4:Nat):Int) by decide) (nf e)
 · show (2:Int)<((4:Nat):Int);decide
 · rename_i x hx e
   obtain ⟨y1,y2,y3,y4⟩:=x
   obtain ⟨⟨e1,e2⟩,cl,h2,k1,k2,k3⟩:(n=d∧n'=r)∧clnB (dcS F t d g D R)=false∧¬ (t<dcN F t d g D R∨(dcL F t d g D R).length≠dcN F t d g D R+1)∧Ow D y1∧Ow (mkR g R) y2∧Ow (dcL F t d g D R) y4:=hx
   have dL:y4.2.2.1.take (dcL F t d g D R).length=dcL F t d g D R:=k3.eq
   exact ⟨⟨hd,hg⟩,k3.cap,k3.len,by show (dcL F t d g D R).length≤2048;omega,k3.nil⟩
 · rename_i x hx e y hy
   obtain ⟨y1,y2,y3,y4⟩:=x
   obtain ⟨⟨e1,e2⟩,cl,h2,k1,k2,k3⟩:(n=d∧n'=r)∧clnB (dcS F t d g D R)=false∧¬ (t<dcN F t d g D R∨(dcL F t d g D R).length≠dcN F t d g D R+1)∧Ow D y1∧Ow (mkR g R) y2∧Ow (dcL F t d g D R) y4:=hx
   have dL:y4.2.2.1.take (dcL F t d g D R).length=dcL F t d g D R:=k3.eq
   obtain ⟨h3,h4⟩:Oqw (srL F (y4.2.2.1.take (dcL F t d g D R).length) (8*(d:Int)+(g:Int))) y∧((srL F (y4.2.2.1.take (dcL F t d g D R).length) (8*(d:Int)+(g:Int))).length:Int)≠(dcN F t d g D R:Int):=hy
   rw [dL,← dcZ_eq] at h4
   refine Ends.next (Ends.one () ⟨⟨e1,e2⟩,cl,.inr (by omega)⟩ ?_)
   exact vgo
 · rename_i x hx e y hy
   obtain ⟨y1,y2,y3,y4⟩:=x
   obtain ⟨⟨e1,e2⟩,cl,h2,k1,k2,k3⟩:(n=d∧n'=r)∧clnB (dcS F t d g D R)=false∧¬ (t<dcN F t d g D R∨(dcL F t d g D R).length≠dcN F t d g D R+1)∧Ow D y1∧Ow (mkR g R) y2∧Ow (dcL F t d g D R) y4:=hx
   have dL:y4.2.2.1.take (dcL F t d g D R).length=dcL F t d g D R:=k3.eq
   obtain ⟨h3,h4⟩:Oqw (srL F (y4.2.2.1.take (dcL F t d g D R).length) (8*(d:Int)+(g:Int))) y∧((srL F (y4.2.2.1.take (dcL F t d g D R).length) (8*(d:Int)+(g:Int))).length:Int)=(dcN F t d g D R:Int):=hy
   have eZ:srL F (y4.2.2.1.take (dcL F t d g D R).length) (8*(d:Int)+(g:Int))=dcZ F t d g D R:=by rw [dL,← dcZ_eq]
   rw [eZ] at h3 h4
   refine Stands.next (Stands.next (Stands.next (Stands.one (((y1,y2,y3,y4),y):(Os×Os×Nat×Os)×Oq) ⟨⟨⟨e1,e2⟩,cl,⟨h2,by omega⟩,⟨k1,k2,k3⟩,h3⟩,wt 2,?_⟩)))
   ((conv=>arg 1;reduce);with_reducible repeat' first | exact ty | refine ta ?_ ?_ | refine ti fun _ => ?_ | refine tf fun _ => ?_ | refine tl ?_)
   all_goals first | exact vlf | rw [eZ]
 · rename_i e
   exact absurd (show (2:Int)<((4:Nat):Int) by decide) (nf e)
 · show (3:Int)<((4:Nat):Int);decide
 · rename_i x hx e
   obtain ⟨⟨y1,y2,y3,y4⟩,y5⟩:=x
   obtain ⟨⟨e1,e2⟩,cl,h2,⟨k1,k2,k3⟩,k4⟩:(n=d∧n'=r)∧clnB (dcS F t d g D R)=false∧(¬ (t<dcN F t d g D R∨(dcL F t d g D R).length≠dcN F t d g D R+1)∧(dcZ F t d g D R).length=dcN F t d g D R)∧(Ow D y1∧Ow (mkR g R) y2∧Ow (dcL F t d g D R) y4)∧Oqw (dcZ F t d g D R) y5:=hx
   have dD:(y1.2.2.1.drop 0).take d=D:=by have:=k1.eq;rw [lD,e1] at this;exact this
   have dR:(y2.2.2.1.drop 0).take r=mkR g R:=by have:=k2.eq;rw [mkR_len,lR,e2] at this;exact this
   have dZ:y5.2.2.2.1.take (dcZ F t d g D R).length=dcZ F t d g D R:=k4.eq
   have a1:=k1.cap;have a2:=k1.len;have a3:=k2.cap;have a4:=k2.len
   rw [mkR_len] at a3
   refine ⟨⟨hd,by show g≤8*r;omega,by show r<_;omega⟩,⟨by show 0+d≤y1.2.2.1.length;omega,by show d≤y1.2.2.2;omega,fun e => ?_⟩,⟨by show 0+r≤y2.2.2.1.length;omega,by show r≤y2.2.2.2;omega,fun e => ?_⟩,⟨k4.cap,k4.len,by show (dcZ F t d g D R).length<1000000;omega,k4.nil⟩,fun z hz => ?_⟩
   · have:=k1.nil e;exact ⟨by omega,this.2⟩
   · have:=k2.nil e;rw [mkR_len] at this;exact ⟨by omega,this.2⟩
   · have hz:z∈y5.2.2.2.1.take (dcZ F t d g D R).length:=hz
     rw [dZ] at hz;exact dcZ_rng F z hz
 · rename_i x hx e y hy
   obtain ⟨⟨y1,y2,y3,y4⟩,y5⟩:=x
   obtain ⟨⟨e1,e2⟩,cl,h2,⟨k1,k2,k3⟩,k4⟩:(n=d∧n'=r)∧clnB (dcS F t d g D R)=false∧(¬ (t<dcN F t d g D R∨(dcL F t d g D R).length≠dcN F t d g D R+1)∧(dcZ F t d g D R).length=dcN F t d g D R)∧(Ow D y1∧Ow (mkR g R) y2∧Ow (dcL F t d g D R) y4)∧Oqw (dcZ F t d g D R) y5:=hx
   have dD:(y1.2.2.1.drop 0).take d=D:=by have:=k1.eq;rw [lD,e1] at this;exact this
   have dR:(y2.2.2.1.drop 0).take r=mkR g R:=by have:=k2.eq;rw [mkR_len,lR,e2] at this;exact this
   have dZ:y5.2.2.2.1.take (dcZ F t d g D R).length=dcZ F t d g D R:=k4.eq
   have a1:=k1.cap;have a2:=k1.len;have a3:=k2.cap;have a4:=k2.len
   rw [mkR_len] at a3
   have hy:(dcZ F t d g D R).length=0:=hy
   have eZ:dcZ F t d g D R=[]:=vg hy
   refine Stands.next (Stands.next (Stands.next (Stands.next (Stands.one (((y1,y2,y3,y4),y5):(Os×Os×Nat×Os)×Oq) ⟨⟨⟨e1,e2⟩,cl,h2,⟨by rw [eZ,tnD_zero];exact k1,by rw [eZ,tnP_zero];exact k2⟩,k4⟩,wt 1,?_⟩))))
   exact vgo
 · rename_i x hx e y hy
   obtain ⟨⟨y1,y2,y3,y4⟩,y5⟩:=x
   obtain ⟨⟨e1,e2⟩,cl,h2,⟨k1,k2,k3⟩,k4⟩:(n=d∧n'=r)∧clnB (dcS F t d g D R)=false∧(¬ (t<dcN F t d g D R∨(dcL F t d g D R).length≠dcN F t d g D R+1)∧(dcZ F t d g D R).length=dcN F t d g D R)∧(Ow D y1∧Ow (mkR g R) y2∧Ow (dcL F t d g D R) y4)∧Oqw (dcZ F t d g D R) y5:=hx
   have dD:(y1.2.2.1.drop 0).take d=D:=by have:=k1.eq;rw [lD,e1] at this;exact this
   have dR:(y2.2.2.1.drop 0).take r=mkR g R:=by have:=k2.eq;rw [mkR_len,lR,e2] at this;exact this
   have dZ:y5.2.2.2.1.take (dcZ F t d g D R).length=dcZ F t d g D R:=k4.eq
   have a1:=k1.cap;have a2:=k1.len;have a3:=k2.cap;have a4:=k2.len
   rw [mkR_len] at a3
   obtain ⟨u1,u2⟩:=y
   obtain ⟨hz,g1,g2⟩:(dcZ F t d g D R).length≠0∧Ow (tnD g ((y1.2.2.1.drop 0).take d) (y5.2.2.2.1.take (dcZ F t d g D R).length)) u1∧Ow (tnP g ((y2.2.2.1.drop 0).take r) (y5.2.2.2.1.take (dcZ F t d g D R).length)) u2:=hy
   rw [dD,dZ] at g1
   rw [dR,dZ] at g2
   refine Stands.next (Stands.next (Stands.next (Stands.next (Stands.next (Stands.one (((y1,y2,y3,y4),y5,u1,u2):(Os×Os×Nat×Os)×Oq×Os×Os) ⟨⟨⟨e1,e2⟩,cl,h2,⟨g1,g2⟩,k4⟩,wt 1,?_⟩)))))
   exact vgo
 · rename_i e
   exact absurd (show (3:Int)<((4:Nat):Int) by decide) (nf e)
 · rename_i e
   exact absurd (ng e) (show ¬ (4:Int)<((4:Nat):Int) by decide)
 · rename_i e
   exact absurd (ng e) (show ¬ (4:Int)<((4:Nat):Int) by decide)
 · rename_i x hx e
   obtain ⟨⟨y1,y2,y3,y4⟩,y5⟩:=x
   obtain ⟨⟨e1,e2⟩,cl,h2,⟨k1,k2⟩,k4⟩:(n=d∧n'=r)∧clnB (dcS F t d g D R)=false∧(¬ (t<dcN F t d g D R∨(dcL F t d g D R).length≠dcN F t d g D R+1)∧(dcZ F t d g D R).length=dcN F t d g D R)∧(Ow (tnD g D (dcZ F t d g D R)) y1∧Ow (tnP g (mkR g R) (dcZ F t d g D R)) y2)∧Oqw (dcZ F t d g D R) y5:=hx
   refine Ends.next (Ends.next (Ends.next (Ends.one ((y1,y2,y5):Os×Os×Oq) ⟨⟨e1,e2⟩,cl,h2,⟨k1,k2⟩,k4⟩ ?_)))
   exact vgo
 · rename_i e
   exact absurd (ng e) (show ¬ (4:Int)<((4:Nat):Int) by decide)
 · rename_i e
   exact absurd (ng e) (show ¬ (4:Int)<((4:Nat):Int) by decide)
 · rename_i x hx e
   obtain ⟨⟨y1,y2,y3,y4⟩,y5,u1,u2⟩:=x
   obtain ⟨⟨e1,e2⟩,cl,h2,⟨k1,k2⟩,k4⟩:(n=d∧n'=r)∧clnB (dcS F t d g D R)=false∧(¬ (t<dcN F t d g D R∨(dcL F t d g D R).length≠dcN F t d g D R+1)∧(dcZ F t d g D R).length=dcN F t d g D R)∧(Ow (tnD g D (dcZ F t d g D R)) u1∧Ow (tnP g (mkR g R) (dcZ F t d g D R)) u2)∧Oqw (dcZ F t d g D R) y5:=hx
   refine Ends.next (Ends.next (Ends.next (Ends.one ((u1,u2,y5):Os×Os×Oq) ⟨⟨e1,e2⟩,cl,h2,⟨k1,k2⟩,k4⟩ ?_)))
   exact vgo
 · rename_i e0 b1 sp1 s1 b2 sp2 s2 bw m fs
   change Nat at b1 b2 bw fs
   change List Int at sp1 sp2
   have m:¬ (0:Int)<(g:Int).tmod 8:=nf m
   simp only [xf,decide_eq_false_iff_not,SB.val] at e0
   have e1:n=d:=by omega
   have e2:n'=r:=by omega
   refine Stands.one (((ye 0 n,b1,(l.drop i).take n ++ sp1,n+sp1.length),(ye 0 n',b2,(l'.drop i').take n' ++ sp2,n'+sp2.length)):Os×Os) ⟨⟨⟨e1,e2⟩,⟨?_,?_,?_,?_⟩,⟨?_,?_,?_,?_⟩⟩,?_⟩
   · show ((l.drop i).take n ++ sp1).take D.length=D
     rw [hD,ou]
   · show D.length≤n+sp1.length;omega
   · show n+sp1.length≤((l.drop i).take n ++ sp1).length;rw [hD,zx];omega
   · intro e;have e:wc 1 n=false:=e;have e9:n=0:=blt0 e;have:=s1 e9;omega
   · show ((l'.drop i').take n' ++ sp2).take (mkR g R).length=mkR g R
     rw [hR];exact mk_none (by rw [q8] at m;omega)
   · show (mkR g R).length≤n'+sp2.length;rw [mkR_len];omega
   · show n'+sp2.length≤((l'.drop i').take n' ++ sp2).length;rw [hR,zx];omega
   · intro e;have e:wc 1 n'=false:=e;have e9:n'=0:=blt0 e;omega
   ((conv=>arg 1;reduce);with_reducible repeat' first | exact ty | refine ta ?_ ?_ | refine ti fun _ => ?_ | refine tf fun _ => ?_ | refine tl ?_)
   all_goals first | exact vlf | exact e1 | exact e1.symm | exact e2 | exact e2.symm | rfl
 · show (0:Int)<((4:Nat):Int);decide
 · rename_i x hx e
   obtain ⟨y1,y2⟩:=x
   obtain ⟨⟨e1,e2⟩,k1,k2⟩:(n=d∧n'=r)∧Ow D y1∧Ow (mkR g R) y2:=hx
   have dD:(y1.2.2.1.drop 0).take d=D:=by have:=k1.eq;rw [lD,e1] at this;exact this
   have dR:(y2.2.2.1.drop 0).take r=mkR g R:=by have:=k2.eq;rw [mkR_len,lR,e2] at this;exact this
   have a1:=k1.cap;have a2:=k1.len;have a3:=k2.cap;have a4:=k2.len
   rw [mkR_len] at a3
   refine ⟨⟨by show t<_;omega,hd,hg,by show g≤8*r;omega,by show r<_;omega⟩,⟨⟨by show 0+d≤y1.2.2.1.length;omega,by show d<_;omega,fun e => ?_⟩,by show 0+r≤y2.2.2.1.length;omega,by show r<_;omega,fun e => ?_⟩,⟨rfl,rfl⟩,?_,?_⟩
   · have:=k1.nil e;exact ⟨by omega,this.2⟩
   · have:=k2.nil e;rw [mkR_len] at this;exact ⟨by omega,this.2⟩
   · show Byt8 ((y1.2.2.1.drop 0).take d);rw [dD];exact kD
   · show Byt8 ((y2.2.2.1.drop 0).take r);rw [dR];exact mkR_byt kR
 · rename_i x hx e y hy
   change Nat at y
   obtain ⟨y1,y2⟩:=x
   obtain ⟨⟨e1,e2⟩,k1,k2⟩:(n=d∧n'=r)∧Ow D y1∧Ow (mkR g R) y2:=hx
   have dD:(y1.2.2.1.drop 0).take d=D:=by have:=k1.eq;rw [lD,e1] at this;exact this
   have dR:(y2.2.2.1.drop 0).take r=mkR g R:=by have:=k2.eq;rw [mkR_len,lR,e2] at this;exact this
   have a1:=k1.cap;have a2:=k1.len;have a3:=k2.cap;have a4:=k2.len
   rw [mkR_len] at a3
   refine Stands.next (Stands.one ((y1,y2,y):Os×Os×Nat) ⟨⟨⟨e1,e2⟩,k1,k2⟩,wt 4,?_⟩)
   have eS:svL F (psL g ((y1.2.2.1.drop 0).take d) ((y2.2.2.1.drop 0).take r) (8*d+g)) (2*t)=dcS F t d g D R:=by rw [dD,dR];unfold dcS;rfl
   ((conv=>arg 1;reduce);with_reducible repeat' first | exact ty | refine ta ?_ ?_ | refine ti fun _ => ?_ | refine tf fun _ => ?_ | refine tl ?_)
   all_goals first | exact vlf | exact eS | exact eS.symm | rw [eS]
 · rename_i e
   exact absurd (show (0:Int)<((4:Nat):Int) by decide) (nf e)
 · show (1:Int)<((4:Nat):Int);decide
 · rename_i x hx e cl
   obtain ⟨y1,y2,y3⟩:=x
   obtain ⟨⟨e1,e2⟩,k1,k2⟩:(n=d∧n'=r)∧Ow D y1∧Ow (mkR g R) y2:=hx
   refine Ends.next (Ends.next (Ends.one ((y1,y2):Os×Os) ⟨⟨e1,e2⟩,cl,k1,k2⟩ ?_))
   exact vgo
 · rename_i x hx e cl
   exact cl.symm
 · exact ⟨ht,dcS_len F⟩
 · rename_i x hx e cl y hy
   obtain ⟨y1,y2,y3⟩:=x
   obtain ⟨⟨e1,e2⟩,k1,k2⟩:(n=d∧n'=r)∧Ow D y1∧Ow (mkR g R) y2:=hx
   obtain ⟨h1,h2⟩:Ow (wkL F (dcS F t d g D R)) y∧(t<wkN F (dcS F t d g D R)∨(wkL F (dcS F t d g D R)).length≠wkN F (dcS F t d g D R)+1):=hy
   rw [← dcL_eq,← dcN_eq] at h2
   refine Ends.next (Ends.one () ⟨⟨e1,e2⟩,cl,.inl h2⟩ ?_)
   exact vgo
 · rename_i x hx e cl y hy
   obtain ⟨y1,y2,y3⟩:=x
   obtain ⟨⟨e1,e2⟩,k1,k2⟩:(n=d∧n'=r)∧Ow D y1∧Ow (mkR g R) y2:=hx
   obtain ⟨h1,h2⟩:Ow (wkL F (dcS F t d g D R)) y∧¬ (t<wkN F (dcS F t d g D R)∨(wkL F (dcS F t d g D R)).length≠wkN F (dcS F t d g D R)+1):=hy
   rw [← dcL_eq] at h1
   rw [← dcL_eq,← dcN_eq] at h2
   refine Stands.next (Stands.next (Stands.one ((y1,y2,y3,y):Os×Os×Nat×Os) ⟨⟨⟨e1,e2⟩,cl,h2,k1,k2,h1⟩,wt 3,?_⟩))
   ((conv=>arg 1;reduce);with_reducible repeat' first | exact ty | refine ta ?_ ?_ | refine ti fun _ => ?_ | refine tf fun _ => ?_ | refine tl ?_)
   all_goals first | exact vlf | rw [dcL_eq] | rw [dcN_eq]
 · rename_i e
   exact absurd (show (1:Int)<((4:Nat):Int) by decide) (nf e)
 · show (2:Int)<((4:Nat):Int);decide
 · rename_i x hx e
   obtain ⟨y1,y2,y3,y4⟩:=x
   obtain ⟨⟨e1,e2⟩,cl,h2,k1,k2,k3⟩:(n=d∧n'=r)∧clnB (dcS F t d g D R)=false∧¬ (t<dcN F t d g D R∨(dcL F t d g D R).length≠dcN F t d g D R+1)∧Ow D y1∧Ow (mkR g R) y2∧Ow (dcL F t d g D R) y4:=hx
   have dL:y4.2.2.1.take (dcL F t d g D R).length=dcL F t d g D R:=k3.eq
   exact ⟨⟨hd,hg⟩,k3.cap,k3.len,by show (dcL F t d g D R).length≤2048;omega,k3.nil⟩
 · rename_i x hx e y hy
   obtain ⟨y1,y2,y3,y4⟩:=x
   obtain ⟨⟨e1,e2⟩,cl,h2,k1,k2,k3⟩:(n=d∧n'=r)∧clnB (dcS F t d g D R)=false∧¬ (t<dcN F t d g D R∨(dcL F t d g D R).length≠dcN F t d g D R+1)∧Ow D y1∧Ow (mkR g R) y2∧Ow (dcL F t d g D R) y4:=hx
   have dL:y4.2.2.1.take (dcL F t d g D R).length=dcL F t d g D R:=k3.eq
   obtain ⟨h3,h4⟩:Oqw (srL F (y4.2.2.1.take (dcL F t d g D R).length) (8*(d:Int)+(g:Int))) y∧((srL F (y4.2.2.1.take (dcL F t d g D R).length) (8*(d:Int)+(g:Int))).length:Int)≠(dcN F t d g D R:Int):=hy
   rw [dL,← dcZ_eq] at h4
   refine Ends.next (Ends.one () ⟨⟨e1,e2⟩,cl,.inr (by omega)⟩ ?_)
   exact vgo
 · rename_i x hx e y hy
   obtain ⟨y1,y2,y3,y4⟩:=x
   obtain ⟨⟨e1,e2⟩,cl,h2,k1,k2,k3⟩:(n=d∧n'=r)∧clnB (dcS F t d g D R)=false∧¬ (t<dcN F t d g D R∨(dcL F t d g D R).length≠dcN F t d g D R+1)∧Ow D y1∧Ow (mkR g R) y2∧Ow (dcL F t d g D R) y4:=hx
   have dL:y4.2.2.1.take (dcL F t d g D R).length=dcL F t d g D R:=k3.eq
   obtain ⟨h3,h4⟩:Oqw (srL F (y4.2.2.1.take (dcL F t d g D R).length) (8*(d:Int)+(g:Int))) y∧((srL F (y4.2.2.1.take (dcL F t d g D R).length) (8*(d:Int)+(g:Int))).length:Int)=(dcN F t d g D R:Int):=hy
   have eZ:srL F (y4.2.2.1.take (dcL F t d g D R).length) (8*(d:Int)+(g:Int))=dcZ F t d g D R:=by rw [dL,← dcZ_eq]
   rw [eZ] at h3 h4
   refine Stands.next (Stands.next (Stands.next (Stands.one (((y1,y2,y3,y4),y):(Os×Os×Nat×Os)×Oq) ⟨⟨⟨e1,e2⟩,cl,⟨h2,by omega⟩,⟨k1,k2,k3⟩,h3⟩,wt 2,?_⟩)))
   ((conv=>arg 1;reduce);with_reducible repeat' first | exact ty | refine ta ?_ ?_ | refine ti fun _ => ?_ | refine tf fun _ => ?_ | refine tl ?_)
   all_goals first | exact vlf | rw [eZ]
 · rename_i e
   exact absurd (show (2:Int)<((4:Nat):Int) by decide) (nf e)
 · show (3:Int)<((4:Nat):Int);decide
 · rename_i x hx e
   obtain ⟨⟨y1,y2,y3,y4⟩,y5⟩:=x
   obtain ⟨⟨e1,e2⟩,cl,h2,⟨k1,k2,k3⟩,k4⟩:(n=d∧n'=r)∧clnB (dcS F t d g D R)=false∧(¬ (t<dcN F t d g D R∨(dcL F t d g D R).length≠dcN F t d g D R+1)∧(dcZ F t d g D R).length=dcN F t d g D R)∧(Ow D y1∧Ow (mkR g R) y2∧Ow (dcL F t d g D R) y4)∧Oqw (dcZ F t d g D R) y5:=hx
   have dD:(y1.2.2.1.drop 0).take d=D:=by have:=k1.eq;rw [lD,e1] at this;exact this
   have dR:(y2.2.2.1.drop 0).take r=mkR g R:=by have:=k2.eq;rw [mkR_len,lR,e2] at this;exact this
   have dZ:y5.2.2.2.1.take (dcZ F t d g D R).length=dcZ F t d g D R:=k4.eq
   have a1:=k1.cap;have a2:=k1.len;have a3:=k2.cap;have a4:=k2.len
   rw [mkR_len] at a3
   refine ⟨⟨hd,by show g≤8*r;omega,by show r<_;omega⟩,⟨by show 0+d≤y1.2.2.1.length;omega,by show d≤y1.2.2.2;omega,fun e => ?_⟩,⟨by show 0+r≤y2.2.2.1.length;omega,by show r≤y2.2.2.2;omega,fun e => ?_⟩,⟨k4.cap,k4.len,by show (dcZ F t d g D R).length<1000000;omega,k4.nil⟩,fun z hz => ?_⟩
   · have:=k1.nil e;exact ⟨by omega,this.2⟩
   · have:=k2.nil e;rw [mkR_len] at this;exact ⟨by omega,this.2⟩
   · have hz:z∈y5.2.2.2.1.take (dcZ F t d g D R).length:=hz
     rw [dZ] at hz;exact dcZ_rng F z hz
 · rename_i x hx e y hy
   obtain ⟨⟨y1,y2,y3,y4⟩,y5⟩:=x
   obtain ⟨⟨e1,e2⟩,cl,h2,⟨k1,k2,k3⟩,k4⟩:(n=d∧n'=r)∧clnB (dcS F t d g D R)=false∧(¬ (t<dcN F t d g D R∨(dcL F t d g D R).length≠dcN F t d g D R+1)∧(dcZ F t d g D R).length=dcN F t d g D R)∧(Ow D y1∧Ow (mkR g R) y2∧Ow (dcL F t d g D R) y4)∧Oqw (dcZ F t d g D R) y5:=hx
   have dD:(y1.2.2.1.drop 0).take d=D:=by have:=k1.eq;rw [lD,e1] at this;exact this
   have dR:(y2.2.2.1.drop 0).take r=mkR g R:=by have:=k2.eq;rw [mkR_len,lR,e2] at this;exact this
   have dZ:y5.2.2.2.1.take (dcZ F t d g D R).length=dcZ F t d g D R:=k4.eq
   have a1:=k1.cap;have a2:=k1.len;have a3:=k2.cap;have a4:=k2.len
   rw [mkR_len] at a3
   have hy:(dcZ F t d g D R).length=0:=hy
   have eZ:dcZ F t d g D R=[]:=vg hy
   refine Stands.next (Stands.next (Stands.next (Stands.next (Stands.one (((y1,y2,y3,y4),y5):(Os×Os×Nat×Os)×Oq) ⟨⟨⟨e1,e2⟩,cl,h2,⟨by rw [eZ,tnD_zero];exact k1,by rw [eZ,tnP_zero];exact k2⟩,k4⟩,wt 1,?_⟩))))
   exact vgo
 · rename_i x hx e y hy
   obtain ⟨⟨y1,y2,y3,y4⟩,y5⟩:=x
   obtain ⟨⟨e1,e2⟩,cl,h2,⟨k1,k2,k3⟩,k4⟩:(n=d∧n'=r)∧clnB (dcS F t d g D R)=false∧(¬ (t<dcN F t d g D R∨(dcL F t d g D R).length≠dcN F t d g D R+1)∧(dcZ F t d g D R).length=dcN F t d g D R)∧(Ow D y1∧Ow (mkR g R) y2∧Ow (dcL F t d g D R) y4)∧Oqw (dcZ F t d g D R) y5:=hx
   have dD:(y1.2.2.1.drop 0).take d=D:=by have:=k1.eq;rw [lD,e1] at this;exact this
   have dR:(y2.2.2.1.drop 0).take r=mkR g R:=by have:=k2.eq;rw [mkR_len,lR,e2] at this;exact this
   have dZ:y5.2.2.2.1.take (dcZ F t d g D R).length=dcZ F t d g D R:=k4.eq
   have a1:=k1.cap;have a2:=k1.len;have a3:=k2.cap;have a4:=k2.len
   rw [mkR_len] at a3
   obtain ⟨u1,u2⟩:=y
   obtain ⟨hz,g1,g2⟩:(dcZ F t d g D R).length≠0∧Ow (tnD g ((y1.2.2.1.drop 0).take d) (y5.2.2.2.1.take (dcZ F t d g D R).length)) u1∧Ow (tnP g ((y2.2.2.1.drop 0).take r) (y5.2.2.2.1.take (dcZ F t d g D R).length)) u2:=hy
   rw [dD,dZ] at g1
   rw [dR,dZ] at g2
   refine Stands.next (Stands.next (Stands.next (Stands.next (Stands.next (Stands.one (((y1,y2,y3,y4),y5,u1,u2):(Os×Os×Nat×Os)×Oq×Os×Os) ⟨⟨⟨e1,e2⟩,cl,h2,⟨g1,g2⟩,k4⟩,wt 1,?_⟩)))))
   exact vgo
 · rename_i e
   exact absurd (show (3:Int)<((4:Nat):Int) by decide) (nf e)
 · rename_i e
   exact absurd (ng e) (show ¬ (4:Int)<((4:Nat):Int) by decide)
 · rename_i e
   exact absurd (ng e) (show ¬ (4:Int)<((4:Nat):Int) by decide)
 · rename_i x hx e
   obtain ⟨⟨y1,y2,y3,y4⟩,y5⟩:=x
   obtain ⟨⟨e1,e2⟩,cl,h2,⟨k1,k2⟩,k4⟩:(n=d∧n'=r)∧clnB (dcS F t d g D R)=false∧(¬ (t<dcN F t d g D R∨(dcL F t d g D R).length≠dcN F t d g D R+1)∧(dcZ F t d g D R).length=dcN F t d g D R)∧(Ow (tnD g D (dcZ F t d g D R)) y1∧Ow (tnP g (mkR g R) (dcZ F t d g D R)) y2)∧Oqw (dcZ F t d g D R) y5:=hx
   refine Ends.next (Ends.next (Ends.next (Ends.one ((y1,y2,y5):Os×Os×Oq) ⟨⟨e1,e2⟩,cl,h2,⟨k1,k2⟩,k4⟩ ?_)))
   exact vgo
 · rename_i e
   exact absurd (ng e) (show ¬ (4:Int)<((4:Nat):Int) by decide)
 · rename_i e
   exact absurd (ng e) (show ¬ (4:Int)<((4:Nat):Int) by decide)
 · rename_i x hx e
   obtain ⟨⟨y1,y2,y3,y4⟩,y5,u1,u2⟩:=x
   obtain ⟨⟨e1,e2⟩,cl,h2,⟨k1,k2⟩,k4⟩:(n=d∧n'=r)∧clnB (dcS F t d g D R)=false∧(¬ (t<dcN F t d g D R∨(dcL F t d g D R).length≠dcN F t d g D R+1)∧(dcZ F t d g D R).length=dcN F t d g D R)∧(Ow (tnD g D (dcZ F t d g D R)) u1∧Ow (tnP g (mkR g R) (dcZ F t d g D R)) u2)∧Oqw (dcZ F t d g D R) y5:=hx
   refine Ends.next (Ends.next (Ends.next (Ends.one ((u1,u2,y5):Os×Os×Oq) ⟨⟨e1,e2⟩,cl,h2,⟨k1,k2⟩,k4⟩ ?_)))
   exact vgo
end
end
end Go.Vx
namespace Go.Vx
open Go Go.Proofs
noncomputable section
variable [Gl]
section
variable (F:Gf)
def fcDecode:Fc Tryz.prog C0 where
 tg:=.fn 15
 X:=(Nat×Nat)×Co5×(Nat×Nat×Nat×Nat×Nat×Nat)×Sl3×Sl3
 args:=fun (_,_,_,(o,b,q,l,i,n,c),(o',b',q',l',i',n',c'))=>[.ptr 0 0 0,.sl 5 i n c,.sl 6 i' n' c']
 mem:=fun ((bd,qd),(bC,qC,t,d,g,r),(bF,qF,be,qe,bl,ql),(o,b,q,l,i,n,c),(o',b',q',l',i',n',c'))=>dcC F bd qd bC qC t d g r bF qF be qe bl ql ++ [⟨b,q,1,false,some o,.rows 5 l⟩,⟨b',q',1,false,some o',.rows 5 l'⟩]
 pre:=fun (_,(_,_,t,d,g,r),_,(o,b,q,l,i,n,c),(o',b',q',l',i',n',c'))=>(t≤40∧d<100000∧g<100000∧r=(g+7) / 8∧1≤d∧1≤g)∧(Sl3.pre (o,b,q,l,i,n,c)∧Sl3.pre (o',b',q',l',i',n',c'))∧Byt8 ((l.drop i).take n)∧Byt8 ((l'.drop i').take n')
 alts:=fun ((bd,qd),(bC,qC,t,d,g,r),(bF,qF,be,qe,bl,ql),(o,b,q,l,i,n,c),(o',b',q',l',i',n',c'))=>[⟨Unit,fun _=>n≠d∨n'≠r,fun _=>.tup [.nils,.nils,.nils,eV 0],fun _=>dcC F bd qd bC qC t d g r bF qF be qe bl ql ++ [⟨b,q,1,false,some o,.rows 5 l⟩,⟨b',q',1,false,some o',.rows 5 l'⟩]⟩,
      ⟨Unit,fun _=>(n=d∧n'=r)∧clnB (dcS F t d g ((l.drop i).take n) ((l'.drop i').take n'))=false∧((t<dcN F t d g ((l.drop i).take n) ((l'.drop i').take n')∨(dcL F t d g ((l.drop i).take n) ((l'.drop i').take n')).length≠dcN F t d g ((l.drop i).take n) ((l'.drop i').take n')+1)∨(dcZ F t d g ((l.drop i).take n) ((l'.drop i').take n')).length≠dcN F t d g ((l.drop i).take n) ((l'.drop i').take n')),fun _=>.tup [.nils,.nils,.nils,eV 1],fun _=>dcC F bd qd bC qC t d g r bF qF be qe bl ql ++ [⟨b,q,1,false,some o,.rows 5 l⟩,⟨b',q',1,false,some o',.rows 5 l'⟩]⟩,
      ⟨Os×Os,fun y=>(n=d∧n'=r)∧clnB (dcS F t d g ((l.drop i).take n) ((l'.drop i').take n'))=true∧Ow ((l.drop i).take n) y.1∧Ow (mkR g ((l'.drop i').take n')) y.2,fun y=>.tup [.sl 7 0 d y.1.2.2.2,.sl 8 0 r y.2.2.2.2,.nils,.nili],fun y=>dcC F bd qd bC qC t d g r bF qF be qe bl ql ++ [⟨b,q,1,false,some o,.rows 5 l⟩,⟨b',q',1,false,some o',.rows 5 l'⟩,osB true y.1,osB true y.2]⟩,
      ⟨Os×Os×Oq,fun y=>(n=d∧n'=r)∧clnB (dcS F t d g ((l.drop i).take n) ((l'.drop i').take n'))=false∧(¬ (t<dcN F t d g ((l.drop i).take n) ((l'.drop i').take n')∨(dcL F t d g ((l.drop i).take n) ((l'.drop i').take n')).length≠dcN F t d g ((l.drop i).take n) ((l'.drop i').take n')+1)∧(dcZ F t d g ((l.drop i).take n) ((l'.drop i').take n')).length=dcN F t d g ((l.drop i).take n) ((l'.drop i').take n'))∧(Ow (tnD g ((l.drop i).take n) (dcZ F t d g ((l.drop i).take n) ((l'.drop i').take n'))) y.1∧Ow (tnP g (mkR g ((l'.drop i').take n')) (dcZ F t d g ((l.drop i).take n) ((l'.drop i').take n'))) y.2.1)∧Oqw (dcZ F t d g ((l.drop i).take n) ((l'.drop i').take n')) y.2.2,fun y=>.tup [.sl 7 0 d y.1.2.2.2,.sl 8 0 r y.2.1.2.2.2,.sl 9 0 (dcZ F t d g ((l.drop i).take n) ((l'.drop i').take n')).length y.2.2.2.2.2.2,.nili],fun y=>dcC F bd qd bC qC t d g r bF qF be qe bl ql ++ [⟨b,q,1,false,some o,.rows 5 l⟩,⟨b',q',1,false,some o',.rows 5 l'⟩,osB true y.1,osB true y.2.1,oqC true y.2.2]⟩]
 mat vs m:=match vs with
  | [.ptr k _ _,.sl s i n c,.sl s' i' n' c']=>match nth m k with
    | ⟨bd,qd,_,_,_,.one (.ptr p _ _ :: _)⟩=>match nth m p with
      | ⟨bC,qC,_,_,_,.one (.ptr f _ _ :: .int _ (t:Nat) :: .int _ (d:Nat) :: .int _ (g:Nat) :: .int _ (r:Nat) :: _)⟩=>match nth m f with
        | ⟨bF,qF,_,_,_,.one (_ :: _ :: .sl x _ _ _ :: .sl h _ _ _ :: _)⟩=>match nth m x,nth m h,nth m s,nth m s' with
          | ⟨be,qe,_,_,_,_⟩,⟨bl,ql,_,_,_,_⟩,⟨b,q,_,_,o,.rows 5 l⟩,⟨b',q',_,_,o',.rows 5 l'⟩=>some (((bd,qd),(bC,qC,t,d,g,r),(bF,qF,be,qe,bl,ql),(onOf o,b,q,l,i,n,c),(onOf o',b',q',l',i',n',c')),[k,p,f,x,h,s,s'])
          | _,_,_,_=>none
        | _=>none
      | _=>none
    | _=>none
  | _=>none
 ok:=fun ((bd,qd),(bC,qC,t,d,g,r),(bF,qF,be,qe,bl,ql),(o,b,q,l,i,n,c),(o',b',q',l',i',n',c')) h=>decode_ok F bd qd bC qC t d g r bF qF be qe bl ql h.1.1 h.1.2.1 h.1.2.2.1 h.1.2.2.2.1 h.1.2.2.2.2.1 h.1.2.2.2.2.2 o b q l i n c h.2.1.1.1 h.2.1.1.2.1 h.2.1.1.2.2 o' b' q' l' i' n' c' h.2.1.2.1 h.2.1.2.2.1 h.2.1.2.2.2 _ _ rfl rfl h.2.2.1 h.2.2.2
end
end
end Go.Vx
