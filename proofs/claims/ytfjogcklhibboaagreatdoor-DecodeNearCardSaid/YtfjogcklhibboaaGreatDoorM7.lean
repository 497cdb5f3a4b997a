/-
  Round 10: the document's bits of bytes: bit, Degree, bits, Of.
  Round 10: the document's BinMul, Minimal, Generator.
  Round 10: cosets, minimal polynomials, generators, az numbers that can be worked out: plain facts.
  Round 10: codes that can be worked out: their leaders, generators, roots.
  Round 10: the fields and codes of the statements, worked out by the kernel.
  Round 10: minimal.Coset.
  Round 10: minimal.leaders, Least.
  Round 10: the product of polynomials over the field.
  Round 10: minimal.fold: factors are put together.
  Round 10: minimal.Of.
  Round 10: minimal.product.
  Round 10: minimal.Generator.
  Round 10: encode's shift: a bit comes to the register.
  Round 10: encode's bitwise.
  Conditions: none.
-/
import Derived.Test.YtfjogcklhibboaaGreatDoorM6
import Derived.KernelRfl
open Bool renaming and_eq_true → zq, false_and → yf, not_eq_false' → ry, not_eq_true' → yi, or_eq_false_iff → xf, or_eq_true → yd, or_false → sr, toNat_le → ul, true_and → zd
open Int renaming eq_ofNat_of_zero_le → yh, natCast_add → qr, ofNat_tdiv → yj, ofNat_tmod → zb, toNat_natCast → zu
open List renaming all_eq_true → ux, any_eq_true → pk, append_assoc → vx, drop_zero → zm, foldl_append → uo, getD_eq_getElem?_getD → zy, getElem?_append_left → yx, getElem?_append_right → xr, getElem?_eq_getElem → zt, getElem?_map → zf, getElem?_take_of_lt → yn, getElem_mem → xe, length_append → zx, length_cons → xy, length_map → zn, length_nil → ur, length_replicate → xz, length_set → zh, length_take → ze, map_replicate → qb, map_set → nw, mem_singleton → wq, nodup_nil → vk, pairwise_singleton → rj, range → xq, replicate → zo, take_length → xb, take_of_length_le → zc
open Nat renaming add_zero → za, beq → zi, ble → wc, blt_eq → ui, eq_of_beq_eq_true → zp, le_of_ble_eq_true → xk, le_refl → zw, lt_of_lt_of_le → zk, min_eq_left → xa, mod_eq_of_lt → tb, mod_lt → yv, one_lt_two_pow → ug, pow_le_pow_right → zj, sub_self → qo, testBit_shiftLeft → vr, testBit_succ → wy, two_pow_pos → yg, zero_le → zg, zero_testBit → xj
open Option renaming getD_some → ym
set_option linter.unusedVariables false
set_option linter.unusedSimpArgs false
set_option linter.unusedSectionVars false
set_option maxRecDepth 100000
namespace Go.Vx
open Go Go.Proofs
noncomputable section
variable [Gl]
abbrev obC (wr:Bool) (y:Oq):Ck C0:=⟨y.2.1,y.2.2.1,1,wr,some y.1,.rows 5 y.2.2.2.1⟩
theorem rbit_ok (o:Bool) (b q:Nat) (l:List Int) (i n c:Nat) (h:i+n≤l.length) (hn:n<1000000000) (ho:o=false→n=0∧c=0) (z:Nat) (hz:z<10000000000) (P:List Int) (hP:(l.drop i).take n=P) (kP:Byt8 P):
 Tells (C:=C0) Tryz.prog (.fn 74) [⟨b,q,1,false,some o,.rows 5 l⟩] [.sl 0 i n c,.int .i64 (z:Int)] (.int .i64 ((bt P z).toNat:Int)):=by
 have e1:(z:Int).tdiv 8=((z / 8:Nat):Int):=(yj z 8).symm
 have e2:(z:Int).tmod 8=((z % 8:Nat):Int):=(zb z 8).symm
 refine loc_pc (P:=Tryz.prog) (E:=⟨[],[],25,[],[],[],none⟩) (L:=[]) mix Tryz.func74 rfl (by kernel_rfl) (by kernel_rfl) rfl rfl ?_
 ((conv=>arg 1;reduce);with_reducible repeat' first | exact ty | refine ta ?_ ?_ | refine ti fun _ => ?_ | refine tf fun _ => ?_ | refine tl ?_)
 all_goals try exact vlf
 all_goals (
  rename_i d
  simp only [yd,xf,decide_eq_true_eq,decide_eq_false_iff_not,SB.val,e1] at d)
 · rw [bt_out (by rw [← hP,row_len h];omega)];rfl
 all_goals have wz:IntKind.u64.wrap ((z:Int).tmod 8)=((z % 8:Nat):Int):=by rw [e2];exact wu (by omega)
 all_goals first
  | exact on_of ho (by omega)
  | (show (z:Int).tdiv 8<(n:Int);rw [e1];omega)
  | (show ((z:Int).tdiv 8).toNat+i<l.length;rw [e1];omega)
  | (rw [wz];omega)
  | (have hx:0≤P.getD (z / 8) 0∧P.getD (z / 8) 0<256:=by
      rw [zy,zt (by rw [← hP,row_len h];omega),ym]
      exact kP _ (xe _)
     obtain ⟨x,hx2⟩:=yh hx.1
     have h3:x / 2 ^ (z % 8)≤x:=Nat.div_le_self _ _
     have eG:l.getD (((z:Int).tdiv 8).toNat+i) 0=(x:Int):=by
      rw [e1,zu,row_at (n:=n) (z / 8) (by omega),hP,hx2]
     have eS:ishr .u8 (l.getD (((z:Int).tdiv 8).toNat+i) 0) (IntKind.u64.wrap ((z:Int).tmod 8))=((x / 2 ^ (z % 8):Nat):Int):=by
      rw [eG,wz,shr8 .u8 x (z % 8) (show z % 8≤8 by omega)]
     have hx3:x<256:=by omega
     first
     | (show inR .i64 (ishr .u8 (l.getD (((z:Int).tdiv 8).toNat+i) 0) (IntKind.u64.wrap ((z:Int).tmod 8)))
        rw [eS]
        generalize x / 2 ^ (z % 8)=u at h3
        exact inR64 (n:=(u:Int)) (by omega) (by omega))
     | (show ibit .and .i64 (ishr .u8 (l.getD (((z:Int).tdiv 8).toNat+i) 0) (IntKind.u64.wrap ((z:Int).tmod 8))) 1=((bt P z).toNat:Int)
        rw [eS,odd64 (by omega)]
        have eB:bt P z=x.testBit (z % 8):=by unfold bt;rw [hx2];rfl
        rw [eB,Nat.testBit_eq_decide_div_mod_eq]
        by_cases h9:x / 2 ^ (z % 8) % 2=1
        · rw [decide_eq_true h9,h9];rfl
        · rw [decide_eq_false h9,show x / 2 ^ (z % 8) % 2=0 by omega];rfl))
def pcRbit:Pc Tryz.prog C0 where
 tg:=.fn 74
 X:=Sl3×Int
 args:=fun ((o,b,q,l,i,n,c),z)=>[.sl 0 i n c,.int .i64 z]
 mem:=fun ((o,b,q,l,i,n,c),z)=>[⟨b,q,1,false,some o,.rows 5 l⟩]
 pre:=fun (s,z)=>Sl3.pre s∧(0≤z∧z<10000000000)∧Byt8 ((s.2.2.2.1.drop s.2.2.2.2.1).take s.2.2.2.2.2.1)
 res:=fun ((o,b,q,l,i,n,c),z)=>.int .i64 ((bt ((l.drop i).take n) z.toNat).toNat:Int)
 mat vs m:=match vs with
  | [.sl s i n c,.int _ z]=>match nth m s with
    | ⟨b,q,_,_,g,.rows 5 l⟩=>some (((onOf g,b,q,l,i,n,c),z),[s])
    | _=>none
  | _=>none
 ok:=fun ((o,b,q,l,i,n,c),z) h=>by
  obtain ⟨z,rfl⟩:=yh h.2.1.1
  exact rbit_ok o b q l i n c h.1.1 h.1.2.1 h.1.2.2 z (Int.ofNat_lt.1 h.2.1.2) _ rfl h.2.2
def Gd2 (n:Nat):Inv' C0:=⟨2,Nat,fun x=>[(3,.int .i64 ((x:Int) - 1))],fun _ m=>m,fun x=>x≤8*n,fun x=>x⟩
theorem rdeg_ok (o:Bool) (b q:Nat) (l:List Int) (i n c:Nat) (h:i+n≤l.length) (hn:n<1000000000) (ho:o=false→n=0∧c=0) (kP:Byt8 ((l.drop i).take n)):
 Does (C:=C0) Tryz.prog (.fn 107) [⟨b,q,1,false,some o,.rows 5 l⟩] [.sl 0 i n c]
  [⟨Nat,fun d=>d≤8*n,fun d=>.int .i64 ((d:Int) - 1),fun _=>[⟨b,q,1,false,some o,.rows 5 l⟩]⟩]:=by
 refine loc_fn (P:=Tryz.prog) (E:=⟨[],[pcRbit],17,[],[],[],none⟩) (L:=[Gd2 n]) mix Tryz.func107 rfl (by kernel_rfl) (by kernel_rfl) rfl rfl ?_
 ((conv=>arg 1;reduce);with_reducible repeat' first | exact ty | refine ta ?_ ?_ | refine ti fun _ => ?_ | refine tf fun _ => ?_ | refine tl ?_)
 all_goals try exact vlf
 · refine Stands.one (8*n:Nat) ⟨zw _,?_⟩
   ((conv=>arg 1;reduce);with_reducible repeat' first | exact ty | refine ta ?_ ?_ | refine ti fun _ => ?_ | refine tf fun _ => ?_ | refine tl ?_)
   all_goals first | exact vlf | (show 8*(n:Int) - 1=((8*n:Nat):Int) - 1;omega)
 · rename_i x hx d
   change Nat at x
   have hx:x≤8*n:=hx
   have d:0≤(x:Int) - 1:=ng d
   exact ⟨⟨h,hn,ho⟩,⟨d,by show (x:Int) - 1<_;omega⟩,kP⟩
 · rename_i x hx d d2
   change Nat at x
   refine Ends.one (x:Nat) hx ?_
   exact vgo
 iterate 2 (focus
  rename_i x hx d d2
  change Nat at x
  have hx:x≤8*n:=hx
  have d:0≤(x:Int) - 1:=ng d
  first
  | exact inR64 (n:=(x:Int) - 1 - 1) (by omega) (by omega)
  | (refine Stands.one (x - 1:Nat) ⟨by show x - 1≤8*n;omega,by show x - 1<x;omega,?_⟩
     ((conv=>arg 1;reduce);with_reducible repeat' first | exact ty | refine ta ?_ ?_ | refine ti fun _ => ?_ | refine tf fun _ => ?_ | refine tl ?_)
     all_goals first | exact vlf | (show (x:Int) - 1 - 1=((x - 1:Nat):Int) - 1;omega)))
 · rename_i x hx d
   change Nat at x
   have d:¬ 0≤(x:Int) - 1:=nf d
   refine Ends.one (0:Nat) (zg _) ?_
   ((conv=>arg 1;reduce);with_reducible repeat' first | exact ty | refine ta ?_ ?_ | refine ti fun _ => ?_ | refine tf fun _ => ?_ | refine tl ?_)
   all_goals first | exact vlf | rfl
def fcRdeg:Fc Tryz.prog C0 where
 tg:=.fn 107
 X:=Sl3
 args:=fun (o,b,q,l,i,n,c)=>[.sl 0 i n c]
 mem:=fun (o,b,q,l,i,n,c)=>[⟨b,q,1,false,some o,.rows 5 l⟩]
 pre:=fun s=>Sl3.pre s∧Byt8 ((s.2.2.2.1.drop s.2.2.2.2.1).take s.2.2.2.2.2.1)
 alts:=fun (o,b,q,l,i,n,c)=>[⟨Nat,fun d=>d≤8*n,fun d=>.int .i64 ((d:Int) - 1),fun _=>[⟨b,q,1,false,some o,.rows 5 l⟩]⟩]
 mat vs m:=match vs with
  | [.sl s i n c]=>match nth m s with
    | ⟨b,q,_,_,g,.rows 5 l⟩=>some ((onOf g,b,q,l,i,n,c),[s])
    | _=>none
  | _=>none
 ok:=fun (o,b,q,l,i,n,c) h=>rdeg_ok o b q l i n c h.1.1 h.1.2.1 h.1.2.2 h.2
theorem wrap8_byt (n:Int):0≤IntKind.u8.wrap n∧IntKind.u8.wrap n<256:=by
 unfold IntKind.wrap
 simp [IntKind.bits,IntKind.signed]
 omega
theorem or8_byt (a b:Int):0≤ibit .or .u8 a b∧ibit .or .u8 a b<256:=by rw [ibit_or];exact wrap8_byt _
theorem Oqw.put {L:List Int} {y:Oq} (h:Oqw L y) {i:Nat} (hi:i<L.length) (v:Int):Oqw (L.set i v) (y.1,y.2.1,y.2.2.1,y.2.2.2.1.set i v,y.2.2.2.2):=by
 refine ⟨?_,by show (L.set i v).length≤_;rw [zh];exact h.cap,by show _≤(y.2.2.2.1.set i v).length;rw [zh];exact h.len,fun h0 => ?_⟩
 · show (y.2.2.2.1.set i v).take (L.set i v).length=L.set i v
   rw [zh,List.take_set,h.eq]
 · have:=(h.nil h0).1;omega
def Bi3 (n:Nat):Inv' C0:=⟨3,Nat×Lq,fun x=>[(4,.int .i64 (x.1:Int)),(3,.sl 1 0 x.2.1.length x.2.2.2.2.2.2)],fun x m=>match m with
 | p :: _=>[p,obC true x.2.2]
 | m=>m,fun x=>x.1≤n∧Oqw x.2.1 x.2.2∧Byt8 x.2.1∧8*x.2.1.length≤x.1+7,fun x=>n - x.1⟩
def Bi6 (n:Nat):Inv' C0:=⟨6,Nat×Lq,fun x=>[(4,.int .i64 (x.1:Int)),(3,.sl 1 0 x.2.1.length x.2.2.2.2.2.2)],fun x m=>match m with
 | p :: _=>[p,obC true x.2.2]
 | m=>m,fun x=>x.1<n∧Oqw x.2.1 x.2.2∧Byt8 x.2.1∧x.2.1.length≤x.1 / 8+1,fun x=>x.1 / 8+1 - x.2.1.length⟩
set_option maxHeartbeats 4000000 in
theorem rbits_ok (o:Bool) (b q:Nat) (l:List Int) (i n c:Nat) (h:i+n≤l.length) (hn:n<1000000000) (ho:o=false→n=0∧c=0):
 Does (C:=C0) Tryz.prog (.fn 108) [⟨b,q,1,false,some o,.rows 3 l⟩] [.sl 0 i n c]
  [⟨Lq,fun y=>Oqw y.1 y.2∧Byt8 y.1∧8*y.1.length≤n+7,fun y=>.sl 1 0 y.1.length y.2.2.2.2.2,fun y=>[⟨b,q,1,false,some o,.rows 3 l⟩,obC true y.2]⟩]:=by
 have hby:Tryz.prog.types[5].bytes=1:=by kernel_rfl
 refine loc_fn (P:=Tryz.prog) (E:=⟨[],[],39,[],[],[],none⟩) (L:=[Bi3 n,Bi6 n]) mix Tryz.func108 rfl (by kernel_rfl) (by kernel_rfl) rfl rfl ?_
 ((conv=>arg 1;reduce);with_reducible repeat' first | exact ty | refine ta ?_ ?_ | refine ti fun _ => ?_ | refine tf fun _ => ?_ | refine tl ?_)
 all_goals try exact vlf
 · refine Stands.one ((0,[],(false,0,0,[],0)):Nat×Lq) ⟨⟨zg _,Oqw.none,(fun x hx=>nomatch hx),by decide⟩,?_⟩
   exact vgo
 iterate 4 (focus
  rename_i x hx d
  change Nat×Lq at x
  obtain ⟨j,L,y⟩:=x
  have d:(j:Int)<(n:Int):=ng d
  first
  | exact on_of ho (by omega)
  | exact d
  | (show (j:Int).toNat+i<l.length;omega))
 iterate 2 (focus
  rename_i x hx d d2
  change Nat×Lq at x
  obtain ⟨j,L,y⟩:=x
  obtain ⟨k1,k2,k3,k4⟩:j≤n∧Oqw L y∧Byt8 L∧8*L.length≤j+7:=hx
  have d:(j:Int)<(n:Int):=ng d
  first
  | exact inR64 (n:=(j:Int)+1) (by omega) (by omega)
  | (refine Stands.one ((j+1,L,y):Nat×Lq) ⟨⟨by show j+1≤n;omega,k2,k3,by show 8*L.length≤j+1+7;omega⟩,by show n - (j+1)<n - j;omega,?_⟩
     exact vgo))
 · rename_i x hx d d2
   change Nat×Lq at x
   obtain ⟨j,L,y⟩:=x
   obtain ⟨k1,k2,k3,k4⟩:j≤n∧Oqw L y∧Byt8 L∧8*L.length≤j+7:=hx
   have d:(j:Int)<(n:Int):=ng d
   refine Stands.one ((j,L,y):Nat×Lq) ⟨⟨by show j<n;omega,k2,k3,by show L.length≤j / 8+1;omega⟩,?_⟩
   exact vgo
 all_goals have q8:∀ j:Nat,(j:Int).tdiv 8=((j / 8:Nat):Int):=fun j=>(yj j 8).symm
 all_goals have m8:∀ j:Nat,(j:Int).tmod 8=((j % 8:Nat):Int):=fun j=>(zb j 8).symm
 · rename_i w hw dw dw2 x hx e
   change Nat×Lq at x
   obtain ⟨j,L,y⟩:=x
   have j1:j<n:=hx.1
   show inR .i64 ((j:Int).tdiv 8)
   rw [q8];exact inR64 (n:=((j / 8:Nat):Int)) (by omega) (by omega)
 iterate 2 (focus
  rename_i w hw dw dw2 x hx e d b1
  change Nat×Lq at x
  obtain ⟨j,L,y⟩:=x
  obtain ⟨k1,k2,k3,k4⟩:j<n∧Oqw L y∧Byt8 L∧L.length≤j / 8+1:=hx
  have c1:=k2.cap
  have c2:=k2.len
  first
  | (rw [hby];exact ⟨c1,by show 0+y.2.2.2.2≤y.2.2.2.1.length;omega,zw _,by show (L.length+1)*1≤_;omega⟩)
  | exact k2.nil)
 · rename_i w hw dw dw2 x hx e d g1 g2 g3 sp k h3 h4
   change Nat×Lq at x
   change List Int at sp
   obtain ⟨j,L,y⟩:=x
   obtain ⟨k1,k2,k3,k4⟩:j<n∧Oqw L y∧Byt8 L∧L.length≤j / 8+1:=hx
   have d:(L.length:Int)≤(j:Int).tdiv 8:=ng d
   rw [q8] at d
   have h3:L.length+1≤k:=h3
   have h4:k≤L.length+1+sp.length:=h4
   refine Stands.one ((j,L ++ [0],(true,g2,g3,y.2.2.2.1.take L.length ++ [0] ++ sp,k)):Nat×Lq) ⟨⟨k1,k2.snoc _ _ _ _ _ sp _ rfl h3 h4 rfl,fun z hz => ?_,by show (L ++ [0]).length≤_;rw [zx];show L.length+1≤j / 8+1;omega⟩,by show j / 8+1 - (L ++ [0]).length<j / 8+1 - L.length;rw [zx];show j / 8+1 - (L.length+1)<_;omega,?_⟩
   · rcases List.mem_append.1 hz with hz | hz
     · exact k3 z hz
     · rw [List.mem_singleton.1 hz];decide
   ((conv=>arg 1;reduce);with_reducible repeat' first | exact ty | refine ta ?_ ?_ | refine ti fun _ => ?_ | refine tf fun _ => ?_ | refine tl ?_)
   all_goals first | exact vlf | (show L.length+1=(L ++ [(0:Int)]).length;rw [zx];rfl) | (show (L ++ [(0:Int)]).length=L.length+1;rw [zx];rfl)
 all_goals try (
  rename_i w hw dw dw2 x hx e d
  change Nat×Lq at w
  change Nat×Lq at x
  obtain ⟨j,L,y⟩:=x
  obtain ⟨k1,k2,k3,k4⟩:j<n∧Oqw L y∧Byt8 L∧L.length≤j / 8+1:=hx
  have d:¬ (L.length:Int)≤(j:Int).tdiv 8:=nf d
  rw [q8] at d
  have c1:=k2.cap
  have c2:=k2.len
  have lL:L.length=j / 8+1:=by omega
  first
  | (show inR .i64 ((j:Int).tdiv 8);rw [q8];exact inR64 (n:=((j / 8:Nat):Int)) (by omega) (by omega))
  | exact on_of k2.nil (by omega)
  | (show 0≤(j:Int).tdiv 8;rw [q8];omega)
  | (show (j:Int).tdiv 8<(L.length:Int);rw [q8];omega)
  | (show ((j:Int).tdiv 8).toNat+0<y.2.2.2.1.length;rw [q8];omega)
  | (show 0≤IntKind.u64.wrap ((j:Int).tmod 8);rw [m8,wu (by omega)];omega)
  | exact inR64 (n:=(j:Int)+1) (by omega) (by omega)
  | (refine Stands.one ((j+1,L.set (j / 8) (ibit .or .u8 (y.2.2.2.1.getD (((j:Int).tdiv 8).toNat+0) 0) (ishl .u8 1 (IntKind.u64.wrap ((j:Int).tmod 8)))),(y.1,y.2.1,y.2.2.1,y.2.2.2.1.set (j / 8) (ibit .or .u8 (y.2.2.2.1.getD (((j:Int).tdiv 8).toNat+0) 0) (ishl .u8 1 (IntKind.u64.wrap ((j:Int).tmod 8)))),y.2.2.2.2)):Nat×Lq) ⟨⟨by show j+1≤n;omega,k2.put (by omega) _,byt_set k3 (or8_byt _ _),by show 8*(L.set _ _).length≤_;rw [zh];omega⟩,by have:=e;show n - (j+1)<n - w.1;have e:(w.1:Int)=(j:Int):=e;omega,?_⟩
     ((conv=>arg 1;reduce);with_reducible repeat' first | exact ty | refine ta ?_ ?_ | refine ti fun _ => ?_ | refine tf fun _ => ?_ | refine tl ?_)
     all_goals first
      | exact vlf
      | (show L.length=(L.set (j / 8) _).length;rw [zh])
      | (show (L.set (j / 8) _).length=L.length;rw [zh])
      | (rw [show ((j:Int).tdiv 8).toNat+0=j / 8 by rw [q8];omega];rfl)
      | (have eN:((j:Int).tdiv 8).toNat+0=j / 8:=by rw [q8];omega
         simp only [eN];rfl)))
 · rename_i x hx d
   change Nat×Lq at x
   obtain ⟨j,L,y⟩:=x
   obtain ⟨k1,k2,k3,k4⟩:j≤n∧Oqw L y∧Byt8 L∧8*L.length≤j+7:=hx
   refine Ends.one ((L,y):Lq) ⟨k2,k3,by show 8*L.length≤n+7;omega⟩ ?_
   exact vgo
def fcRbits:Fc Tryz.prog C0 where
 tg:=.fn 108
 X:=Sl3
 args:=fun (o,b,q,l,i,n,c)=>[.sl 0 i n c]
 mem:=fun (o,b,q,l,i,n,c)=>[⟨b,q,1,false,some o,.rows 3 l⟩]
 pre:=Sl3.pre
 alts:=fun (o,b,q,l,i,n,c)=>[⟨Lq,fun y=>Oqw y.1 y.2∧Byt8 y.1∧8*y.1.length≤n+7,fun y=>.sl 1 0 y.1.length y.2.2.2.2.2,fun y=>[⟨b,q,1,false,some o,.rows 3 l⟩,obC true y.2]⟩]
 mat vs m:=match vs with
  | [.sl s i n c]=>match nth m s with
    | ⟨b,q,_,_,g,.rows 3 l⟩=>some ((onOf g,b,q,l,i,n,c),[s])
    | _=>none
  | _=>none
 ok:=fun (o,b,q,l,i,n,c) h=>rbits_ok o b q l i n c h.1 h.2.1 h.2.2
def Rf3 (N:Nat) (P:List Int):Inv' C0:=⟨3,Nat×Nat,fun x=>[(4,.int .i64 (x.1:Int)),(3,.int .i64 (x.2:Int))],fun _ m=>m,fun x=>x.1≤P.length∧x.2<N∧∀ k,k<x.1→P.getD k 0≤(x.2:Int),fun x=>P.length - x.1⟩
def Rf8 (N:Nat) (P:List Int):Inv' C0:=⟨8,Nat×Nat×List Int,fun x=>[(6,.int .i64 (x.1:Int)),(3,.int .i64 (x.2.1:Int))],fun x m=>match m with
 | [p,t]=>[p,⟨t.block,t.base,1,true,none,.rows 3 x.2.2⟩]
 | m=>m,fun x=>x.1≤P.length∧x.2.1<N∧x.2.2.length=x.2.1+1∧∀ k,k<P.length→P.getD k 0≤(x.2.1:Int),fun x=>P.length - x.1⟩
set_option maxHeartbeats 4000000 in
theorem rof_ok (N:Nat) (hN:N<100000000) (h0:0<N) (o:Bool) (b q:Nat) (l:List Int) (i n c:Nat) (h:i+n≤l.length) (hn:n<1000000000) (ho:o=false→n=0∧c=0) (P:List Int) (hP:(l.drop i).take n=P) (hR:Rng P N):
 Does (C:=C0) Tryz.prog (.fn 111) [⟨b,q,1,false,some o,.rows 3 l⟩] [.sl 0 i n c]
  [⟨Lq,fun y=>Oqw y.1 y.2∧Byt8 y.1∧8*y.1.length≤N+7,fun y=>.sl 1 0 y.1.length y.2.2.2.2.2,fun y=>[⟨b,q,1,false,some o,.rows 3 l⟩,obC true y.2]⟩]:=by
 have hby:(Tryz.prog.types[3].bytes:Int)=8:=by kernel_rfl
 have hL:P.length=n:=by rw [← hP];exact row_len h
 have pv:∀ j,j<n→l.getD (j+i) 0=P.getD j 0:=fun j hj=>by rw [row_at j hj,hP]
 have pR:∀ j,j<n→0≤P.getD j 0∧P.getD j 0<(N:Int):=fun j hj=>hR _ (getD_mem (by omega))
 refine loc_fn (P:=Tryz.prog) (E:=⟨[fcRbits],[],44,[(10,[],[.p 0,.p 1,.p 2,.p 3,.p 5,.p 6,.p 7,.p 8,.q 4,.q 9,.p 10,.q 11,.p 12,.p 13,.e 14])],[],[],none⟩) (L:=[Rf3 N P,Rf8 N P]) mix Tryz.func111 rfl (by kernel_rfl) (by kernel_rfl) rfl rfl ?_
 ((conv=>arg 1;reduce);with_reducible repeat' first | exact ty | refine ta ?_ ?_ | refine ti fun _ => ?_ | refine tf fun _ => ?_ | refine tl ?_)
 all_goals try exact vlf
 · refine Stands.one ((0,0):Nat×Nat) ⟨⟨zg _,h0,fun k hk=>absurd hk (Nat.not_lt_zero k)⟩,?_⟩
   exact vgo
 all_goals try (
  rename_i x hx d
  change Nat×Nat at x
  obtain ⟨j,w⟩:=x
  obtain ⟨k1,k2,k3⟩:j≤P.length∧w<N∧∀ k,k<j→P.getD k 0≤(w:Int):=hx
  have d:(j:Int)<(n:Int):=ng d
  have r1:=pR j (by omega)
  have eV:l.getD ((j:Int).toNat+i) 0=P.getD j 0:=pv j (by omega)
  first
  | exact on_of ho (by omega)
  | exact d
  | (show (j:Int).toNat+i<l.length;omega)
  | exact inR64 (n:=(j:Int)+1) (by omega) (by omega)
  | (refine Stands.one ((j+1,(max (w:Int) (P.getD j 0)).toNat):Nat×Nat) ⟨⟨by show j+1≤P.length;omega,by show (max (w:Int) (P.getD j 0)).toNat<N;omega,fun k hk => ?_⟩,by show P.length - (j+1)<P.length - j;omega,?_⟩
     · show P.getD k 0≤((max (w:Int) (P.getD j 0)).toNat:Int)
       have hk:k<j+1:=hk
       by_cases hj:k=j
       · rw [hj];omega
       · have:=k3 k (by omega);omega
     ((conv=>arg 1;reduce);with_reducible repeat' first | exact ty | refine ta ?_ ?_ | refine ti fun _ => ?_ | refine tf fun _ => ?_ | refine tl ?_)
     all_goals first
      | exact vlf
      | (show max (w:Int) (l.getD ((j:Int).toNat+i) 0)=((max (w:Int) (P.getD j 0)).toNat:Int);rw [eV];omega)))
 all_goals try (
  rename_i x hx d
  change Nat×Nat at x
  obtain ⟨j,w⟩:=x
  obtain ⟨k1,k2,k3⟩:j≤P.length∧w<N∧∀ k,k<j→P.getD k 0≤(w:Int):=hx
  have d:¬ (j:Int)<(n:Int):=nf d
  first
  | exact inR64 (n:=(w:Int)+1) (by omega) (by omega)
  | (rw [hby];show 0≤(w:Int)+1∧(w:Int)+1≤(w:Int)+1∧8*((w:Int)+1)≤281474976710656∧(w:Int)+1≤9223372036854775807;omega))
 · rename_i x hx d b0
   change Nat×Nat at x
   obtain ⟨j,w⟩:=x
   obtain ⟨k1,k2,k3⟩:j≤P.length∧w<N∧∀ k,k<j→P.getD k 0≤(w:Int):=hx
   have d:¬ (j:Int)<(n:Int):=nf d
   have ew:((w:Int)+1).toNat=w+1:=by omega
   refine Stands.one ((0,w,zo (w+1) 0):Nat×Nat×List Int) ⟨⟨zg _,k2,xz,fun k hk=>k3 k (by omega)⟩,?_⟩
   ((conv=>arg 1;reduce);with_reducible repeat' first | exact ty | refine ta ?_ ?_ | refine ti fun _ => ?_ | refine tf fun _ => ?_ | refine tl ?_)
   all_goals first | exact vlf | (show zo (w+1) (0:Int)=zo ((w:Int)+1).toNat 0;rw [ew]) | (show zo ((w:Int)+1).toNat (0:Int)=zo (w+1) 0;rw [ew])
 all_goals try (
  rename_i w0 hw d0 b0 x hx e d
  change Nat×Nat at w0
  change Nat×Nat×List Int at x
  obtain ⟨j0,w⟩:=w0
  obtain ⟨j,w',V⟩:=x
  obtain ⟨k1,k2,k3,k4⟩:j≤P.length∧w'<N∧V.length=w'+1∧∀ k,k<P.length→P.getD k 0≤(w':Int):=hx
  have e:(w:Int)=(w':Int):=e
  obtain rfl:w=w':=by omega
  have d:(j:Int)<(n:Int):=ng d
  have r1:=pR j (by omega)
  have r2:=k4 j (by omega)
  have eV:l.getD ((j:Int).toNat+i) 0=P.getD j 0:=pv j (by omega)
  first
  | exact on_of ho (by omega)
  | exact d
  | (show (j:Int).toNat+i<l.length;omega)
  | (show 0≤l.getD ((j:Int).toNat+i) 0;omega)
  | (show l.getD ((j:Int).toNat+i) 0<(((w:Int)+1).toNat:Int);omega)
  | (show (l.getD ((j:Int).toNat+i) 0).toNat+0<V.length;omega)
  | exact inR64 (n:=(j:Int)+1) (by omega) (by omega)
  | (refine Stands.one ((j+1,w,V.set ((l.getD ((j:Int).toNat+i) 0).toNat+0) (ibit .xor .i64 (V.getD ((l.getD ((j:Int).toNat+i) 0).toNat+0) 0) 1)):Nat×Nat×List Int) ⟨⟨by show j+1≤P.length;omega,k2,by show (V.set _ _).length=_;rw [zh];exact k3,k4⟩,by show P.length - (j+1)<P.length - j;omega,?_⟩
     exact vgo))
 · rename_i w0 hw d0 b0 x hx e d
   change Nat×Nat at w0
   change Nat×Nat×List Int at x
   obtain ⟨j0,w⟩:=w0
   obtain ⟨j,w',V⟩:=x
   obtain ⟨k1,k2,k3,k4⟩:j≤P.length∧w'<N∧V.length=w'+1∧∀ k,k<P.length→P.getD k 0≤(w':Int):=hx
   have e:(w:Int)=(w':Int):=e
   exact ⟨by show 0+((w:Int)+1).toNat≤V.length;omega,by show ((w:Int)+1).toNat<1000000000;omega,nofun⟩
 · rename_i w0 hw d0 b0 x hx e d y hy
   change Nat×Nat at w0
   change Lq at y
   obtain ⟨j0,w⟩:=w0
   have k2:w<N:=hw.2.1
   have hy:Oqw y.1 y.2∧Byt8 y.1∧8*y.1.length≤((w:Int)+1).toNat+7:=hy
   refine Ends.one (y:Lq) ⟨hy.1,hy.2.1,by omega⟩ ?_
   exact vgo
def fcRof (N:Nat):Fc Tryz.prog C0 where
 tg:=.fn 111
 X:=Sl3
 args:=fun (o,b,q,l,i,n,c)=>[.sl 0 i n c]
 mem:=fun (o,b,q,l,i,n,c)=>[⟨b,q,1,false,some o,.rows 3 l⟩]
 pre:=fun s=>(N<100000000∧0<N)∧Sl3.pre s∧Rng ((s.2.2.2.1.drop s.2.2.2.2.1).take s.2.2.2.2.2.1) N
 alts:=fun (o,b,q,l,i,n,c)=>[⟨Lq,fun y=>Oqw y.1 y.2∧Byt8 y.1∧8*y.1.length≤N+7,fun y=>.sl 1 0 y.1.length y.2.2.2.2.2,fun y=>[⟨b,q,1,false,some o,.rows 3 l⟩,obC true y.2]⟩]
 mat vs m:=match vs with
  | [.sl s i n c]=>match nth m s with
    | ⟨b,q,_,_,g,.rows 3 l⟩=>some ((onOf g,b,q,l,i,n,c),[s])
    | _=>none
  | _=>none
 ok:=fun (o,b,q,l,i,n,c) h=>rof_ok N h.1.1 h.1.2 o b q l i n c h.2.1.1 h.2.1.2.1 h.2.1.2.2 _ rfl h.2.2
end
end Go.Vx
namespace Go.Vx
open Go Go.Proofs
noncomputable section
variable [Gl]
def Bm7 (n n2:Nat):Inv' C0:=⟨7,Nat×Nat×Nat×List Int,fun x=>[(8,.int .i64 (x.1:Int)),(5,.int .i64 ((x.2.1:Int) - 1)),(6,.int .i64 ((x.2.2.1:Int) - 1))],fun x m=>match m with
 | [p,q,t]=>[p,q,⟨t.block,t.base,1,true,none,.rows 3 x.2.2.2⟩]
 | m=>m,fun x=>(1≤x.2.1∧x.2.1≤8*n∧1≤x.2.2.1∧x.2.2.1≤8*n2)∧x.2.2.2.length=x.2.1+x.2.2.1 - 1∧x.1≤x.2.1,fun x=>x.2.1 - x.1⟩
def Bm11 (n n2:Nat):Inv' C0:=⟨11,Nat×Nat×Nat×Nat×List Int,fun x=>[(8,.int .i64 (x.1:Int)),(9,.int .i64 (x.2.1:Int)),(5,.int .i64 ((x.2.2.1:Int) - 1)),(6,.int .i64 ((x.2.2.2.1:Int) - 1))],fun x m=>match m with
 | [p,q,t]=>[p,q,⟨t.block,t.base,1,true,none,.rows 3 x.2.2.2.2⟩]
 | m=>m,fun x=>(1≤x.2.2.1∧x.2.2.1≤8*n∧1≤x.2.2.2.1∧x.2.2.2.1≤8*n2)∧x.2.2.2.2.length=x.2.2.1+x.2.2.2.1 - 1∧x.1<x.2.2.1∧x.2.1≤x.2.2.2.1,fun x=>x.2.2.2.1 - x.2.1⟩
set_option maxHeartbeats 4000000 in
theorem rbmul_ok (o:Bool) (b q:Nat) (l:List Int) (i n c:Nat) (h:i+n≤l.length) (hn:n<10000000) (ho:o=false→n=0∧c=0) (kP:Byt8 ((l.drop i).take n)) (o2:Bool) (b2 q2:Nat) (l2:List Int) (i2 n2 c2:Nat) (h2:i2+n2≤l2.length) (hn2:n2<10000000) (ho2:o2=false→n2=0∧c2=0) (kQ:Byt8 ((l2.drop i2).take n2)):
 Does (C:=C0) Tryz.prog (.fn 81) [⟨b,q,1,false,some o,.rows 5 l⟩,⟨b2,q2,1,false,some o2,.rows 5 l2⟩] [.sl 0 i n c,.sl 1 i2 n2 c2]
  [⟨Lq,fun y=>Oqw y.1 y.2∧Byt8 y.1∧y.1.length≤n+n2,fun y=>.sl 2 0 y.1.length y.2.2.2.2.2,fun y=>[⟨b,q,1,false,some o,.rows 5 l⟩,⟨b2,q2,1,false,some o2,.rows 5 l2⟩,obC true y.2]⟩]:=by
 have hby:(Tryz.prog.types[3].bytes:Int)=8:=by kernel_rfl
 refine loc_fn (P:=Tryz.prog) (E:=⟨[fcRdeg,fcRbits],[pcRbit],56,[(13,[],[.p 0,.p 1,.p 2,.p 3,.p 4,.p 5,.p 6,.p 7,.p 8,.p 10,.p 11,.q 9,.q 12,.p 13,.p 14,.e 15])],[],[],none⟩) (L:=[Bm7 n n2,Bm11 n n2]) mix Tryz.func81 rfl (by kernel_rfl) (by kernel_rfl) rfl rfl ?_
 ((conv=>arg 1;reduce);with_reducible repeat' first | exact ty | refine ta ?_ ?_ | refine ti fun _ => ?_ | refine tf fun _ => ?_ | refine tl ?_)
 all_goals try exact vlf
 · exact ⟨⟨h,by show n<1000000000;omega,ho⟩,kP⟩
 · exact ⟨⟨h2,by show n2<1000000000;omega,ho2⟩,kQ⟩
 · refine Ends.one (([],(false,0,0,[],0)):Lq) ⟨Oqw.none,(fun x hx=>nomatch hx),zg _⟩ ?_
   exact vgo
 all_goals try (
  rename_i d hd e he z
  change Nat at d
  change Nat at e
  have hd:d≤8*n:=hd
  have he:e≤8*n2:=he
  simp only [xf,decide_eq_false_iff_not,SB.val] at z
  rw [hby]
  show 0≤(d:Int) - 1+((e:Int) - 1)+1∧(d:Int) - 1+((e:Int) - 1)+1≤(d:Int) - 1+((e:Int) - 1)+1∧8*((d:Int) - 1+((e:Int) - 1)+1)≤281474976710656∧(d:Int) - 1+((e:Int) - 1)+1≤9223372036854775807
  omega)
 · rename_i d hd e he z b0
   change Nat at d
   change Nat at e
   have hd:d≤8*n:=hd
   have he:e≤8*n2:=he
   simp only [xf,decide_eq_false_iff_not,SB.val] at z
   refine Stands.one ((0,d,e,zo ((d:Int) - 1+((e:Int) - 1)+1).toNat 0):Nat×Nat×Nat×List Int) ⟨⟨⟨by show 1≤d;omega,hd,by show 1≤e;omega,he⟩,by show (zo _ _).length=d+e - 1;rw [xz];omega,zg _⟩,?_⟩
   exact vgo
 all_goals try (
  rename_i d hd e he z b0 x hx x1 x2 x3
  change Nat×Nat×Nat×List Int at x
  obtain ⟨j,d',e',V⟩:=x
  have hx:(1≤d'∧d'≤8*n∧1≤e'∧e'≤8*n2)∧V.length=d'+e' - 1∧j≤d':=hx
  exact ⟨⟨h,by show n<1000000000;omega,ho⟩,⟨by show 0≤(j:Int);omega,by show (j:Int)<10000000000;omega⟩,kP⟩)
 all_goals try (
  rename_i d hd e he z b0 x hx x1 x2 x3 x4
  change Nat×Nat×Nat×List Int at x
  obtain ⟨j,d',e',V⟩:=x
  have hx:(1≤d'∧d'≤8*n∧1≤e'∧e'≤8*n2)∧V.length=d'+e' - 1∧j≤d':=hx
  have x3:(j:Int)≤(d':Int) - 1:=ng x3
  first
  | exact inR64 (n:=(j:Int)+1) (by omega) (by omega)
  | (refine Stands.one ((j+1,d',e',V):Nat×Nat×Nat×List Int) ⟨⟨hx.1,hx.2.1,by show j+1≤d';omega⟩,by show d' - (j+1)<d' - j;omega,?_⟩
     exact vgo)
  | (refine Stands.one ((j,0,d',e',V):Nat×Nat×Nat×Nat×List Int) ⟨⟨hx.1,hx.2.1,by show j<d';omega,zg _⟩,?_⟩
     exact vgo))
 all_goals try (
  rename_i d hd e he z b0 w hw x1 x2 x3 x4 x hx y1 y2 y3 y4
  change Nat at d
  change Nat at e
  change Nat×Nat×Nat×List Int at w
  change Nat×Nat×Nat×Nat×List Int at x
  obtain ⟨i',d1,e1,V1⟩:=w
  obtain ⟨j,k,d',e',V⟩:=x
  have hx:(1≤d'∧d'≤8*n∧1≤e'∧e'≤8*n2)∧V.length=d'+e' - 1∧j<d'∧k≤e':=hx
  have x1:(d:Int) - 1=(d1:Int) - 1:=x1
  have x2:(e:Int) - 1=(e1:Int) - 1:=x2
  have y2:(d1:Int) - 1=(d':Int) - 1:=y2
  have y3:(e1:Int) - 1=(e':Int) - 1:=y3
  have y4:(k:Int)≤(e':Int) - 1:=ng y4
  first
  | exact inR64 (n:=(j:Int)+(k:Int)) (by omega) (by omega)
  | exact inR64 (n:=(k:Int)+1) (by omega) (by omega)
  | (show (j:Int)+(k:Int)<(((d:Int) - 1+((e:Int) - 1)+1).toNat:Int);omega)
  | (show ((j:Int)+(k:Int)).toNat+0<V.length;omega)
  | exact ⟨⟨h2,by show n2<1000000000;omega,ho2⟩,⟨by show 0≤(k:Int);omega,by show (k:Int)<10000000000;omega⟩,kQ⟩
  | (refine Stands.one ((j,k+1,d',e',V.set (((j:Int)+(k:Int)).toNat+0) (ibit .xor .i64 (V.getD (((j:Int)+(k:Int)).toNat+0) 0) (((bt ((l2.drop i2).take n2) (k:Int).toNat).toNat:Nat):Int))):Nat×Nat×Nat×Nat×List Int) ⟨⟨hx.1,by show (V.set _ _).length=_;rw [zh];exact hx.2.1,hx.2.2.1,by show k+1≤e';omega⟩,by show e' - (k+1)<e' - k;omega,?_⟩
     exact vgo))
 all_goals try (
  rename_i d hd e he z b0 w hw x1 x2 x3 x4 x hx y1 y2 y3 y4
  change Nat×Nat×Nat×List Int at w
  change Nat×Nat×Nat×Nat×List Int at x
  obtain ⟨i',d1,e1,V1⟩:=w
  obtain ⟨j,k,d',e',V⟩:=x
  have hx:(1≤d'∧d'≤8*n∧1≤e'∧e'≤8*n2)∧V.length=d'+e' - 1∧j<d'∧k≤e':=hx
  have y1:(i':Int)=(j:Int):=y1
  have y2:(d1:Int) - 1=(d':Int) - 1:=y2
  have y4:¬ (k:Int)≤(e':Int) - 1:=nf y4
  first
  | exact inR64 (n:=(j:Int)+1) (by omega) (by omega)
  | (refine Stands.one ((j+1,d',e',V):Nat×Nat×Nat×List Int) ⟨⟨hx.1,hx.2.1,by show j+1≤d';omega⟩,by show d' - (j+1)<d1 - i';omega,?_⟩
     exact vgo))
 · rename_i d hd e he z b0 x hx x1 x2 x3
   change Nat at d
   change Nat at e
   change Nat×Nat×Nat×List Int at x
   obtain ⟨j,d',e',V⟩:=x
   have hx:(1≤d'∧d'≤8*n∧1≤e'∧e'≤8*n2)∧V.length=d'+e' - 1∧j≤d':=hx
   have x1:(d:Int) - 1=(d':Int) - 1:=x1
   have x2:(e:Int) - 1=(e':Int) - 1:=x2
   exact ⟨by show 0+((d:Int) - 1+((e:Int) - 1)+1).toNat≤V.length;omega,by show ((d:Int) - 1+((e:Int) - 1)+1).toNat<1000000000;omega,nofun⟩
 · rename_i d hd e he z b0 x hx x1 x2 x3 y hy
   change Nat at d
   change Nat at e
   change Lq at y
   have hd:d≤8*n:=hd
   have he:e≤8*n2:=he
   simp only [xf,decide_eq_false_iff_not,SB.val] at z
   have hy:Oqw y.1 y.2∧Byt8 y.1∧8*y.1.length≤((d:Int) - 1+((e:Int) - 1)+1).toNat+7:=hy
   refine Ends.one (y:Lq) ⟨hy.1,hy.2.1,by have:=hy.2.2;omega⟩ ?_
   exact vgo
def fcRbmul:Fc Tryz.prog C0 where
 tg:=.fn 81
 X:=Sl3×Sl3
 args:=fun ((o,b,q,l,i,n,c),(o2,b2,q2,l2,i2,n2,c2))=>[.sl 0 i n c,.sl 1 i2 n2 c2]
 mem:=fun ((o,b,q,l,i,n,c),(o2,b2,q2,l2,i2,n2,c2))=>[⟨b,q,1,false,some o,.rows 5 l⟩,⟨b2,q2,1,false,some o2,.rows 5 l2⟩]
 pre:=fun ((o,b,q,l,i,n,c),(o2,b2,q2,l2,i2,n2,c2))=>(Sl3.pre (o,b,q,l,i,n,c)∧n<10000000∧Byt8 ((l.drop i).take n))∧Sl3.pre (o2,b2,q2,l2,i2,n2,c2)∧n2<10000000∧Byt8 ((l2.drop i2).take n2)
 alts:=fun ((o,b,q,l,i,n,c),(o2,b2,q2,l2,i2,n2,c2))=>[⟨Lq,fun y=>Oqw y.1 y.2∧Byt8 y.1∧y.1.length≤n+n2,fun y=>.sl 2 0 y.1.length y.2.2.2.2.2,fun y=>[⟨b,q,1,false,some o,.rows 5 l⟩,⟨b2,q2,1,false,some o2,.rows 5 l2⟩,obC true y.2]⟩]
 mat vs m:=match vs with
  | [.sl s i n c,.sl s2 i2 n2 c2]=>match nth m s,nth m s2 with
    | ⟨b,q,_,_,g,.rows 5 l⟩,⟨b2,q2,_,_,g2,.rows 5 l2⟩=>some (((onOf g,b,q,l,i,n,c),(onOf g2,b2,q2,l2,i2,n2,c2)),[s,s2])
    | _,_=>none
  | _=>none
 ok:=fun ((o,b,q,l,i,n,c),(o2,b2,q2,l2,i2,n2,c2)) h=>rbmul_ok o b q l i n c h.1.1.1 h.1.2.1 h.1.1.2.2 h.1.2.2 o2 b2 q2 l2 i2 n2 c2 h.2.1.1 h.2.2.1 h.2.1.2.2 h.2.2.2
section
variable (F:Gf)
def Mi4:Inv' C0:=⟨4,Nat×Lq,fun x=>[(7,.int .i64 (x.1:Int)),(6,.sl 1 0 x.2.1.length x.2.2.2.2.2.2)],fun x m=>match m with
 | p :: _=>[p,oqC true x.2.2]
 | m=>m,fun x=>x.1≤16384∧Oqw x.2.1 x.2.2∧x.2.1.length=x.1,fun x=>16384 - x.1⟩
def Mi10:Inv' C0:=⟨10,Nat×Lq,fun x=>[(10,.int .i64 (x.1:Int)),(9,.sl 3 0 x.2.1.length x.2.2.2.2.2.2)],fun x m=>match m with
 | a :: b :: p :: _=>[a,b,p,oqC true x.2.2]
 | m=>m,fun x=>x.1≤39999∧Oqw x.2.1 x.2.2∧x.2.1.length≤x.1∧Rng x.2.1 40000,fun x=>39999 - x.1⟩
set_option maxHeartbeats 4000000 in
theorem rminimal_ok (i:Int) (h1 : -1000000000<i) (h2:i<1000000000):
 Does (C:=C0) Tryz.prog (.fn 82) [] [.int .i64 (F.m:Int),.int .i64 i]
  [⟨Lq,fun y=>Oqw y.1 y.2∧Byt8 y.1∧y.1.length≤5001,fun y=>.sl 0 0 y.1.length y.2.2.2.2.2,fun y=>[obC true y.2]⟩]:=by
 have hby:Tryz.prog.types[3].bytes=8:=by kernel_rfl
 obtain ⟨hs,h7,hh⟩:=nF_sz F
 refine loc_fn (P:=Tryz.prog) (E:=⟨[fcRcoset F,fcRfroots F,fcRof 40000],[pcRexp F],49,[],[],[],none⟩) (L:=[Mi4,Mi10]) mix Tryz.func82 rfl (by kernel_rfl) (by kernel_rfl) rfl rfl ?_
 ((conv=>arg 1;reduce);with_reducible repeat' first | exact ty | refine ta ?_ ?_ | refine ti fun _ => ?_ | refine tf fun _ => ?_ | refine tl ?_)
 all_goals try exact vlf
 · exact ⟨h1,h2⟩
 · refine Stands.one ((0,[],(false,0,0,[],0)):Nat×Lq) ⟨⟨zg _,Oqw.none,rfl⟩,?_⟩
   exact vgo
 all_goals try (
  rename_i y hy x hx d
  change Lq at y
  change Nat×Lq at x
  obtain ⟨A,y⟩:=y
  obtain ⟨j,L,z⟩:=x
  obtain ⟨a1,a2,a3⟩:Oqw A y∧A.length≤nF F∧Rng A (nF F):=hy
  have d:(j:Int)<(A.length:Int):=ng d
  have c1:=a1.cap
  have c2:=a1.len
  first
  | exact on_of a1.nil (by omega)
  | exact d
  | (show (j:Int).toNat+0<y.2.2.2.1.length;omega)
  | (have r:=a3 _ (getD_mem (d:=0) (show j<A.length by omega))
     have e:y.2.2.2.1.getD ((j:Int).toNat+0) 0=A.getD j 0:=by rw [show (j:Int).toNat+0=j by omega];exact a1.at (by omega)
     exact ⟨by show -1000000000<y.2.2.2.1.getD ((j:Int).toNat+0) 0;omega,by show y.2.2.2.1.getD ((j:Int).toNat+0) 0<1000000000;omega⟩))
 all_goals try (
  rename_i y hy x hx d b1
  change Lq at y
  change Nat×Lq at x
  obtain ⟨j,L,z⟩:=x
  obtain ⟨k1,k2,k3⟩:j≤16384∧Oqw L z∧L.length=j:=hx
  have c1:=k2.cap
  have c2:=k2.len
  first
  | (rw [hby];exact ⟨c1,by show 0+z.2.2.2.2≤z.2.2.2.1.length;omega,zw _,by show (L.length+1)*8≤_;omega⟩)
  | exact k2.nil)
 all_goals try (
  rename_i y hy x hx d g1 g2 g3 sp k h3 h4
  change Lq at y
  change Nat×Lq at x
  change List Int at sp
  obtain ⟨A,y⟩:=y
  obtain ⟨j,L,z⟩:=x
  obtain ⟨a1,a2,a3⟩:Oqw A y∧A.length≤nF F∧Rng A (nF F):=hy
  obtain ⟨k1,k2,k3⟩:j≤16384∧Oqw L z∧L.length=j:=hx
  have d:(j:Int)<(A.length:Int):=ng d
  have h3:L.length+1≤k:=h3
  have h4:k≤L.length+1+sp.length:=h4
  first
  | exact inR64 (n:=(j:Int)+1) (by omega) (by omega)
  | (refine Stands.one ((j+1,L ++ [vi (exF F (y.2.2.2.1.getD ((j:Int).toNat+0) 0))],(true,g2,g3,z.2.2.2.1.take L.length ++ [vi (exF F (y.2.2.2.1.getD ((j:Int).toNat+0) 0))] ++ sp,k)):Nat×Lq) ⟨⟨by show j+1≤16384;omega,k2.snoc _ _ _ _ _ sp _ rfl h3 h4 rfl,by show (L ++ [_]).length=j+1;rw [zx];show L.length+1=j+1;omega⟩,by show 16384 - (j+1)<16384 - j;omega,?_⟩
     ((conv=>arg 1;reduce);with_reducible repeat' first | exact ty | refine ta ?_ ?_ | refine ti fun _ => ?_ | refine tf fun _ => ?_ | refine tl ?_)
     all_goals first | exact vlf | (show L.length+1=(L ++ [_]).length;rw [zx];rfl) | (show (L ++ [_]).length=L.length+1;rw [zx];rfl)))
 · rename_i y hy x hx d
   change Lq at y
   change Nat×Lq at x
   obtain ⟨j,L,z⟩:=x
   obtain ⟨k1,k2,k3⟩:j≤16384∧Oqw L z∧L.length=j:=hx
   have c1:=k2.cap
   have c2:=k2.len
   exact ⟨⟨by show 0+L.length≤z.2.2.2.1.length;omega,by show L.length<1000000000;omega,k2.nil⟩,by show L.length<10000000;omega⟩
 · refine Stands.one ((0,[],(false,0,0,[],0)):Nat×Lq) ⟨⟨zg _,Oqw.none,zw _,(fun x hx=>nomatch hx)⟩,?_⟩
   exact vgo
 all_goals try (
  rename_i y hy w hw dw y2 hy2 x hx d
  change Lq at y2
  change Nat×Lq at x
  obtain ⟨A,y2⟩:=y2
  obtain ⟨j,L,z⟩:=x
  have a1:Oqw A y2:=hy2.1
  have d:(j:Int)<(A.length:Int):=ng d
  have c1:=a1.cap
  have c2:=a1.len
  first
  | exact on_of a1.nil (by omega)
  | exact d
  | (show (j:Int).toNat+0<y2.2.2.2.1.length;omega))
 all_goals try (
  rename_i y hy w hw dw y2 hy2 x hx d dz b1
  change Nat×Lq at x
  obtain ⟨j,L,z⟩:=x
  obtain ⟨k1,k2,k3,k4⟩:j≤39999∧Oqw L z∧L.length≤j∧Rng L 40000:=hx
  have c1:=k2.cap
  have c2:=k2.len
  first
  | (rw [hby];exact ⟨c1,by show 0+z.2.2.2.2≤z.2.2.2.1.length;omega,zw _,by show (L.length+1)*8≤_;omega⟩)
  | exact k2.nil)
 all_goals try (
  rename_i y hy w hw dw y2 hy2 x hx d dz g1 g2 g3 sp k h3 h4
  change Nat×Lq at w
  change Lq at y2
  change Nat×Lq at x
  change List Int at sp
  obtain ⟨A,y2⟩:=y2
  obtain ⟨j,L,z⟩:=x
  have hy2:Oqw A y2∧A.length≤1+2*w.2.1.length:=hy2
  have hw:w.1≤16384∧Oqw w.2.1 w.2.2∧w.2.1.length=w.1:=hw
  obtain ⟨k1,k2,k3,k4⟩:j≤39999∧Oqw L z∧L.length≤j∧Rng L 40000:=hx
  have d:(j:Int)<(A.length:Int):=ng d
  have h3:L.length+1≤k:=h3
  have h4:k≤L.length+1+sp.length:=h4
  first
  | exact inR64 (n:=(j:Int)+1) (by omega) (by omega)
  | (refine Stands.one ((j+1,L ++ [(j:Int)],(true,g2,g3,z.2.2.2.1.take L.length ++ [(j:Int)] ++ sp,k)):Nat×Lq) ⟨⟨by show j+1≤39999;omega,k2.snoc _ _ _ _ _ sp _ rfl h3 h4 rfl,by show (L ++ [_]).length≤j+1;rw [zx];show L.length+1≤j+1;omega,fun v hv => ?_⟩,by show 39999 - (j+1)<39999 - j;omega,?_⟩
     · rcases List.mem_append.1 hv with hv | hv
       · exact k4 v hv
       · rw [List.mem_singleton.1 hv];omega
     ((conv=>arg 1;reduce);with_reducible repeat' first | exact ty | refine ta ?_ ?_ | refine ti fun _ => ?_ | refine tf fun _ => ?_ | refine tl ?_)
     all_goals first | exact vlf | (show L.length+1=(L ++ [_]).length;rw [zx];rfl) | (show (L ++ [_]).length=L.length+1;rw [zx];rfl)))
 all_goals try (
  rename_i y hy w hw dw y2 hy2 x hx d dz
  change Nat×Lq at w
  change Lq at y2
  change Nat×Lq at x
  obtain ⟨A,y2⟩:=y2
  obtain ⟨j,L,z⟩:=x
  have hy2:Oqw A y2∧A.length≤1+2*w.2.1.length:=hy2
  have hw:w.1≤16384∧Oqw w.2.1 w.2.2∧w.2.1.length=w.1:=hw
  obtain ⟨k1,k2,k3,k4⟩:j≤39999∧Oqw L z∧L.length≤j∧Rng L 40000:=hx
  have d:(j:Int)<(A.length:Int):=ng d
  first
  | exact inR64 (n:=(j:Int)+1) (by omega) (by omega)
  | (refine Stands.one ((j+1,L,z):Nat×Lq) ⟨⟨by show j+1≤39999;omega,k2,by show L.length≤j+1;omega,k4⟩,by show 39999 - (j+1)<39999 - j;omega,?_⟩
     exact vgo))
 · rename_i y hy w hw dw y2 hy2 x hx d
   change Nat×Lq at x
   obtain ⟨j,L,z⟩:=x
   obtain ⟨k1,k2,k3,k4⟩:j≤39999∧Oqw L z∧L.length≤j∧Rng L 40000:=hx
   have c1:=k2.cap
   have c2:=k2.len
   refine ⟨⟨by decide,by decide⟩,⟨by show 0+L.length≤z.2.2.2.1.length;omega,by show L.length<1000000000;omega,k2.nil⟩,?_⟩
   show Rng ((z.2.2.2.1.drop 0).take L.length) 40000
   rw [zm,k2.eq];exact k4
 · rename_i y hy w hw dw y2 hy2 x hx d v hv
   change Lq at v
   have hv:Oqw v.1 v.2∧Byt8 v.1∧8*v.1.length≤40000+7:=hv
   refine Ends.one (v:Lq) ⟨hv.1,hv.2.1,by have:=hv.2.2;omega⟩ ?_
   exact vgo
def fcRminimal:Fc Tryz.prog C0 where
 tg:=.fn 82
 X:=Int
 args i:=[.int .i64 (F.m:Int),.int .i64 i]
 mem _:=[]
 pre i := -1000000000<i∧i<1000000000
 alts i:=[⟨Lq,fun y=>Oqw y.1 y.2∧Byt8 y.1∧y.1.length≤5001,fun y=>.sl 0 0 y.1.length y.2.2.2.2.2,fun y=>[obC true y.2]⟩]
 mat vs m:=match vs with
  | [_,.int _ i]=>some (i,[])
  | _=>none
 ok i h:=rminimal_ok F i h.1 h.2
def Ge6 (n:Nat):Inv' C0:=⟨6,Nat×Lq,fun x=>[(10,.int .i64 (x.1:Int)),(9,.sl 1 0 x.2.1.length x.2.2.2.2.2.2),(21,.junk)],fun x m=>match m with
 | p :: _=>[p,obC true x.2.2]
 | m=>m,fun x=>x.1≤n∧Oqw x.2.1 x.2.2∧Byt8 x.2.1∧x.2.1.length≤1+5001*x.1,fun x=>n - x.1⟩
set_option maxHeartbeats 4000000 in
theorem rgen_ok (t:Nat) (t1:1≤t) (t40:t≤40) (hD:(lsO (nF F) t).2.2<nF F):
 Does (C:=C0) Tryz.prog (.fn 56) [] [.int .i64 (F.m:Int),.int .i64 (t:Int)]
  [⟨Lq,fun y=>Oqw y.1 y.2,fun y=>.tup [.sl 0 0 y.1.length y.2.2.2.2.2,.int .i64 0],fun y=>[obC true y.2]⟩]:=by
 obtain ⟨f1,f2,f3,f4⟩:=lsO_facts (nF F) t
 refine loc_fn (P:=Tryz.prog) (E:=⟨[fcRleast F,fcRminimal F,fcRbmul],[],38,[],[],[],none⟩) (L:=[Ge6 (lsO (nF F) t).2.1.length]) mix Tryz.func56 rfl (by kernel_rfl) (by kernel_rfl) rfl rfl ?_
 ((conv=>arg 1;reduce);with_reducible repeat' first | exact ty | refine ta ?_ ?_ | refine ti fun _ => ?_ | refine tf fun _ => ?_ | refine tl ?_)
 all_goals try exact vlf
 · exact ⟨t1,t40,hD⟩
 · rename_i d;exact absurd (ng d) (fun h=>h rfl)
 · rename_i y hy d b0
   refine Stands.one ((0,[1],(true,b0,0,[1],1)):Nat×Lq) ⟨⟨zg _,⟨rfl,zw _,zw _,nofun⟩,(fun x hx=>by rw [List.mem_singleton.1 hx];decide),zw _⟩,?_⟩
   exact vgo
 all_goals try (
  rename_i y hy d0 b0 x hx d
  change Oq at y
  change Nat×Lq at x
  obtain ⟨j,L,z⟩:=x
  have a1:Oqw (lsO (nF F) t).2.1 y:=hy
  have d:(j:Int)<((lsO (nF F) t).2.1.length:Int):=ng d
  have c1:=a1.cap
  have c2:=a1.len
  first
  | exact on_of a1.nil (by omega)
  | exact d
  | (show (j:Int).toNat+0<y.2.2.2.1.length;omega)
  | (have r:=f4 _ (getD_mem (d:=0) (show j<(lsO (nF F) t).2.1.length by omega))
     have e:y.2.2.2.1.getD ((j:Int).toNat+0) 0=(lsO (nF F) t).2.1.getD j 0:=by rw [show (j:Int).toNat+0=j by omega];exact a1.at (by omega)
     exact ⟨by show -1000000000<y.2.2.2.1.getD ((j:Int).toNat+0) 0;omega,by show y.2.2.2.1.getD ((j:Int).toNat+0) 0<1000000000;omega⟩))
 · rename_i y hy d0 b0 x hx d v hv
   change Nat×Lq at x
   change Lq at v
   obtain ⟨j,L,z⟩:=x
   obtain ⟨k1,k2,k3,k4⟩:j≤(lsO (nF F) t).2.1.length∧Oqw L z∧Byt8 L∧L.length≤1+5001*j:=hx
   obtain ⟨v1,v2,v3⟩:Oqw v.1 v.2∧Byt8 v.1∧v.1.length≤5001:=hv
   have c1:=k2.cap
   have c2:=k2.len
   have c3:=v1.cap
   have c4:=v1.len
   refine ⟨⟨⟨by show 0+L.length≤z.2.2.2.1.length;omega,by show L.length<1000000000;omega,k2.nil⟩,by show L.length<10000000;omega,?_⟩,⟨by show 0+v.1.length≤v.2.2.2.2.1.length;omega,by show v.1.length<1000000000;omega,v1.nil⟩,by show v.1.length<10000000;omega,?_⟩
   · show Byt8 ((z.2.2.2.1.drop 0).take L.length);rw [zm,k2.eq];exact k3
   · show Byt8 ((v.2.2.2.2.1.drop 0).take v.1.length);rw [zm,v1.eq];exact v2
 all_goals try (
  rename_i y hy d0 b0 x hx d v hv u hu
  change Nat×Lq at x
  change Lq at v
  change Lq at u
  obtain ⟨j,L,z⟩:=x
  obtain ⟨k1,k2,k3,k4⟩:j≤(lsO (nF F) t).2.1.length∧Oqw L z∧Byt8 L∧L.length≤1+5001*j:=hx
  obtain ⟨v1,v2,v3⟩:Oqw v.1 v.2∧Byt8 v.1∧v.1.length≤5001:=hv
  obtain ⟨u1,u2,u3⟩:Oqw u.1 u.2∧Byt8 u.1∧u.1.length≤L.length+v.1.length:=hu
  have d:(j:Int)<((lsO (nF F) t).2.1.length:Int):=ng d
  first
  | exact inR64 (n:=(j:Int)+1) (by omega) (by omega)
  | (refine Stands.one ((j+1,u.1,u.2):Nat×Lq) ⟨⟨by show j+1≤_;omega,u1,u2,by show u.1.length≤1+5001*(j+1);omega⟩,by show _ - (j+1)<_ - j;omega,?_⟩
     exact vgo))
 · rename_i y hy d0 b0 x hx d
   change Nat×Lq at x
   obtain ⟨j,L,z⟩:=x
   refine Ends.one ((L,z):Lq) hx.2.1 ?_
   exact vgo
def fcRgen:Fc Tryz.prog C0 where
 tg:=.fn 56
 X:=Nat
 args t:=[.int .i64 (F.m:Int),.int .i64 (t:Int)]
 mem _:=[]
 pre t:=1≤t∧t≤40∧(lsO (nF F) t).2.2<nF F
 alts t:=[⟨Lq,fun y=>Oqw y.1 y.2,fun y=>.tup [.sl 0 0 y.1.length y.2.2.2.2.2,.int .i64 0],fun y=>[obC true y.2]⟩]
 mat vs m:=match vs with
  | [_,.int _ (t:Nat)]=>some (t,[])
  | _=>none
 ok t h:=rgen_ok F t h.1 h.2.1 h.2.2
end
end
end Go.Vx
namespace Go.Vx
open Go.Vx.Fd
noncomputable section
theorem nodup_le:∀ (n:Nat) (l:List Int),l.Nodup→(∀ x∈l,0≤x∧x<(n:Int))→l.length≤n
 | 0,[],_,_=>zw 0
 | 0,x :: l,_,h=>by have:=h x (List.mem_cons_self ..);omega
 | n+1,l,hn,h=>by
   by_cases hm:(n:Int)∈l
   · have h1:=nodup_le n (l.erase (n:Int)) (hn.erase _) fun x hx=>by
      obtain ⟨h2,h3⟩:=(List.Nodup.mem_erase_iff hn).1 hx
      have:=h x h3
      omega
     rw [List.length_erase_of_mem hm] at h1
     omega
   · have h1:=nodup_le n l hn fun x hx=>by
      have h2:=h x hx
      have:x≠(n:Int):=fun e=>hm (e ▸ hx)
      omega
     omega
def ins (x:Int):List Int→List Int
 | []=>[x]
 | y :: l=>if x≤y then x :: y :: l else y :: ins x l
def isr:List Int→List Int
 | []=>[]
 | x :: l=>ins x (isr l)
theorem ins_perm (x:Int):∀ l:List Int,(ins x l).Perm (x :: l)
 | []=>List.Perm.refl _
 | y :: l=>by
   unfold ins
   split
   · exact List.Perm.refl _
   · exact ((ins_perm x l).cons y).trans (List.Perm.swap ..)
theorem isr_perm:∀ l:List Int,(isr l).Perm l
 | []=>List.Perm.refl _
 | x :: l=>(ins_perm x _).trans ((isr_perm l).cons x)
theorem ins_le (x:Int):∀ l:List Int,l.Pairwise (· ≤ ·)→(ins x l).Pairwise (· ≤ ·)
 | [],_=>rj ..
 | y :: l,h=>by
   unfold ins
   obtain ⟨h1,h2⟩:=List.pairwise_cons.1 h
   split
   · rename_i hx
     refine List.pairwise_cons.2 ⟨fun z hz => ?_,h⟩
     rcases List.mem_cons.1 hz with rfl | hz
     · exact hx
     · have:=h1 z hz;omega
   · rename_i hx
     refine List.pairwise_cons.2 ⟨fun z hz => ?_,ins_le x l h2⟩
     rcases List.mem_cons.1 ((ins_perm x l).mem_iff.1 hz) with rfl | hz
     · omega
     · exact h1 z hz
theorem isr_le:∀ l:List Int,(isr l).Pairwise (· ≤ ·)
 | []=>List.Pairwise.nil
 | x :: l=>ins_le x _ (isr_le l)
theorem isr_eq {l r:List Int} (hp:r.Perm l) (hs:r.Pairwise (· ≤ ·)):r=isr l:=
 List.Perm.eq_of_pairwise (le:=(· ≤ ·)) (fun a b _ _ h1 h2=>by omega) hs (isr_le l) (hp.trans (isr_perm l).symm)
def cosR (n:Nat):Nat→Nat→List Int→List Int
 | 0,_,l=>l
 | f+1,i,l=>if l.contains (i:Int) then l else cosR n f (2*i % n) (l ++ [(i:Int)])
@[irreducible] def cosV (m i:Nat):List Int:=isr (cosR (2 ^ m - 1) (2 ^ m) (i % (2 ^ m - 1)) [])
theorem cosR_facts {n:Nat} (hn:0<n):∀ (f i:Nat) (l:List Int),i<n→l.Nodup→(∀ x∈l,0≤x∧x<(n:Int))→(cosR n f i l).Nodup∧∀ x∈cosR n f i l,0≤x∧x<(n:Int)
 | 0,_,l,_,h1,h2=>⟨h1,h2⟩
 | f+1,i,l,hi,h1,h2=>by
   unfold cosR
   split
   · exact ⟨h1,h2⟩
   · rename_i hc
     have hc:¬ (i:Int)∈l:=fun h=>hc (List.contains_iff_mem.2 h)
     refine cosR_facts hn f _ _ (yv _ hn) (List.nodup_append.2 ⟨h1,rj ..,fun a ha b hb => ?_⟩) fun x hx => ?_
     · rw [wq] at hb
       intro e
       exact hc (hb ▸ e ▸ ha)
     · rcases List.mem_append.1 hx with hx | hx
       · exact h2 x hx
       · rw [wq] at hx;omega
theorem cosV_lt {m i:Nat} (hm:1≤m):∀ x∈cosV m i,0≤x∧x<((2 ^ m - 1:Nat):Int):=by
 have h2:0<2 ^ m - 1:=by have:=ug (show m≠0 by omega);omega
 unfold cosV
 exact fun x hx=>(cosR_facts h2 _ _ _ (yv _ h2) vk fun x hx=>by cases hx).2 x ((isr_perm _).mem_iff.1 hx)
theorem cosV_len {m i:Nat} (hm:1≤m):(cosV m i).length≤2 ^ m - 1:=by
 have h2:0<2 ^ m - 1:=by have:=ug (show m≠0 by omega);omega
 have hc:=cosR_facts h2 (2 ^ m) (i % (2 ^ m - 1)) [] (yv _ h2) vk (fun x hx=>by cases hx)
 have e:(cosV m i).length=(cosR (2 ^ m - 1) (2 ^ m) (i % (2 ^ m - 1)) []).length:=by unfold cosV;exact (isr_perm _).length_eq
 rw [e]
 exact nodup_le _ _ hc.1 hc.2
def ldR (m:Nat):Nat→List Int×Nat
 | 0=>([],0)
 | j+1=>if (ldR m j).1.contains ((cosV m (2*j+1)).getD 0 0) then ldR m j else ((ldR m j).1 ++ [(cosV m (2*j+1)).getD 0 0],(ldR m j).2+(cosV m (2*j+1)).length)
section
variable {F:Gf}
def mlR (a:El F) (Q:List (El F)) (i:Nat):Nat→List (El F)→List (El F)
 | 0,o=>o
 | k+1,o=>(mlR a Q i k o).set (i+k) (cf (mlR a Q i k o) (i+k)+a*cf Q k)
def mlC (P Q:List (El F)):Nat→List (El F)
 | 0=>zo (P.length+Q.length - 1) zr
 | i+1=>mlR (cf P i) Q i Q.length (mlC P Q i)
theorem mlR_len (a:El F) (Q:List (El F)) (i:Nat) (o:List (El F)):∀ k,(mlR a Q i k o).length=o.length
 | 0=>rfl
 | k+1=>by show ((mlR a Q i k o).set _ _).length=_;rw [zh,mlR_len a Q i o k]
theorem mlC_len (P Q:List (El F)):∀ i,(mlC P Q i).length=P.length+Q.length - 1
 | 0=>by show (zo _ _).length=_;rw [xz]
 | i+1=>by show (mlR _ _ _ _ _).length=_;rw [mlR_len,mlC_len P Q i]
theorem cf_set {l:List (El F)} {i j:Nat} {x:El F} (hi:i<l.length):cf (l.set i x) j=if j=i then x else cf l j:=by
 unfold cf
 simp only [zy]
 by_cases h:j=i
 · rw [if_pos h,h,List.getElem?_set_self hi];rfl
 · rw [if_neg h,List.getElem?_set_ne (Ne.symm h)]
def fdE (F:Gf) (l:List Int):List (El F):=l.foldl (fun P k=>mlC P [ex F k.toNat,un] P.length) [un]
theorem fdE_snoc (l:List Int) (k:Int):fdE F (l ++ [k])=mlC (fdE F l) [ex F k.toNat,un] (fdE F l).length:=by unfold fdE;rw [uo];rfl
theorem mlC_two (P:List (El F)) (c:El F) (i:Nat):∃ x,mlC P [c,un] (i+1)=((mlC P [c,un] i).set i x).set (i+1) (cf ((mlC P [c,un] i).set i x) (i+1)+cf P i*un):=⟨cf (mlC P [c,un] i) i+cf P i*c,rfl⟩
theorem mlC_low {P:List (El F)} {c:El F}:∀ {i s:Nat},i<s→cf (mlC P [c,un] i) s=zr
 | 0,s,_=>by
   show cf (zo _ _) s=_
   unfold cf
   rw [zy,List.getElem?_replicate]
   split <;> rfl
 | i+1,s,h=>by
   obtain ⟨x,e⟩:=mlC_two P c i
   by_cases h1:i+1<(mlC P [c,un] i).length
   · rw [e,cf_set (by rw [zh];exact h1),if_neg (by omega),cf_set (by omega),if_neg (by omega),mlC_low (by omega)]
   · exact cf_of (by rw [e,zh,zh];omega)
theorem mlC_top {P:List (El F)} {c:El F} {n:Nat} (hp:P.length=n+1) (hl:cf P n=un):cf (mlC P [c,un] (n+1)) (n+1)=un:=by
 obtain ⟨x,e⟩:=mlC_two P c n
 have hL:(mlC P [c,un] n).length=n+2:=by rw [mlC_len,hp];rfl
 rw [e,cf_set (by rw [zh,hL];omega),if_pos rfl,hl,cf_set (by rw [hL];omega),if_neg (by omega),mlC_low (by omega),zadd,umul]
theorem fdE_facts (l:List Int):(fdE F l).length=l.length+1∧cf (fdE F l) l.length=un:=by
 refine snoc_ind (P:=fun l=>(fdE F l).length=l.length+1∧cf (fdE F l) l.length=un) ⟨rfl,rfl⟩ (fun l k ih => ?_) l
 rw [fdE_snoc]
 constructor
 · rw [mlC_len,ih.1,zx];rfl
 · rw [ih.1,zx]
   exact mlC_top ih.1 ih.2
theorem trim_id {l:List (El F)} {n:Nat} (hl:l.length=n+1) (h:cf l n≠zr):trim l=l:=by
 unfold trim
 refine zc ?_
 rw [hl]
 refine Nat.le_of_not_lt fun hlt=>h (top_zero l (by omega))
theorem fdE_trim (l:List Int):trim (fdE F l)=fdE F l:=trim_id (fdE_facts l).1 (by rw [(fdE_facts l).2];exact ne)
@[irreducible] def mpN (F:Gf) (l:List Int):Nat:=bn (l.length+1) fun k=>decide (cf (fdE F l) k=un)
theorem mpN_bit (l:List Int) (k:Nat):(mpN F l).testBit k=decide (cf (fdE F l) k=un):=by
 unfold mpN
 rw [bn_bit]
 by_cases h:k<l.length+1
 · rw [decide_eq_true h,zd]
 · rw [decide_eq_false h,yf,cf_of (by rw [(fdE_facts l).1];omega)]
   exact (decide_eq_false (fun e=>ne e.symm)).symm
theorem mpN_bl (l:List Int):bl (mpN F l)=l.length+1:=by
 refine bl_of (by rw [mpN_bit,(fdE_facts l).2];exact decide_eq_true rfl) ?_
 unfold mpN
 exact bn_lt _ _
def mlRN (m p a:Nat) (Q:List Nat) (i:Nat):Nat→List Nat→List Nat
 | 0,o=>o
 | k+1,o=>(mlRN m p a Q i k o).set (i+k) ((mlRN m p a Q i k o).getD (i+k) 0 ^^^ mg m p m a (Q.getD k 0))
def mlCN (m p:Nat) (P Q:List Nat):Nat→List Nat
 | 0=>zo (P.length+Q.length - 1) 0
 | i+1=>mlRN m p (P.getD i 0) Q i Q.length (mlCN m p P Q i)
def pwB (m p:Nat):Nat→Nat→Nat
 | 0,_=>1
 | f+1,k=>if k % 2=1 then mulx m p (mg m p m (pwB m p f (k / 2)) (pwB m p f (k / 2))) else mg m p m (pwB m p f (k / 2)) (pwB m p f (k / 2))
def fdN (m p:Nat) (l:List Int):List Nat:=l.foldl (fun P k=>mlCN m p P [pwB m p m k.toNat,1] P.length) [1]
theorem cf_v (l:List (El F)) (i:Nat):(cf l i).v=(l.map El.v).getD i 0:=by
 unfold cf
 simp only [zy,zf]
 cases l[i]? <;> rfl
theorem pwB_ok:∀ f k,k<2 ^ f→pwB F.m F.p f k=(ex F k).v
 | 0,k,h=>by
   obtain rfl:k=0:=by rw [Nat.pow_zero] at h;omega
   rfl
 | f+1,k,h=>by
   have ih:=pwB_ok f (k / 2) (by rw [Nat.pow_succ] at h;omega)
   have e:mg F.m F.p F.m (pwB F.m F.p f (k / 2)) (pwB F.m F.p f (k / 2))=(ex F (k / 2+k / 2)).v:=by
    rw [ih,ex_add];rfl
   show (if k % 2=1 then mulx F.m F.p (mg F.m F.p F.m (pwB F.m F.p f (k / 2)) (pwB F.m F.p f (k / 2))) else mg F.m F.p F.m (pwB F.m F.p f (k / 2)) (pwB F.m F.p f (k / 2)))=_
   rw [e]
   split
   · rw [show (ex F k).v=(ex F (k / 2+k / 2+1)).v by congr 2;omega]
     rfl
   · congr 2;omega
theorem mlR_N (a:El F) (Q:List (El F)) (i:Nat) (o:List (El F)):∀ k,(mlR a Q i k o).map El.v=mlRN F.m F.p a.v (Q.map El.v) i k (o.map El.v)
 | 0=>rfl
 | k+1=>by
   show ((mlR a Q i k o).set _ _).map El.v=(mlRN _ _ _ _ _ k _).set _ _
   rw [nw,mlR_N a Q i o k,add_v,mul_v,cf_v,cf_v,mlR_N a Q i o k]
theorem mlC_N (P Q:List (El F)):∀ i,(mlC P Q i).map El.v=mlCN F.m F.p (P.map El.v) (Q.map El.v) i
 | 0=>by
   show (zo _ _).map El.v=zo _ _
   rw [qb,zn,zn]
   rfl
 | i+1=>by
   show (mlR _ _ _ _ _).map El.v=mlRN _ _ _ _ _ _ _
   rw [mlR_N,mlC_N P Q i,cf_v,zn]
theorem fdE_N {l:List Int}:(∀ x∈l,x.toNat<2 ^ F.m)→(fdE F l).map El.v=fdN F.m F.p l:=by
 refine snoc_ind (P:=fun l=>(∀ x∈l,x.toNat<2 ^ F.m)→(fdE F l).map El.v=fdN F.m F.p l) (fun _=>rfl) (fun l k ih h => ?_) l
 have e:fdN F.m F.p (l ++ [k])=mlCN F.m F.p (fdN F.m F.p l) [pwB F.m F.p F.m k.toNat,1] (fdN F.m F.p l).length:=by unfold fdN;rw [uo];rfl
 rw [fdE_snoc,mlC_N,e,← ih fun x hx=>h x (List.mem_append_left _ hx),zn]
 congr 1
 show [(ex F k.toNat).v,1]=_
 rw [pwB_ok F.m k.toNat (h k (by simp))]
def hoN (m p x:Nat):Nat→Nat→Nat
 | 0,_=>0
 | f+1,N=>(if N.testBit 0 then 1 else 0) ^^^ mg m p m x (hoN m p x f (N / 2))
theorem hoN_ok (x:El F):∀ f N,hoN F.m F.p x.v f N=(vl N.testBit f x).v
 | 0,_=>rfl
 | f+1,N=>by
   show (if N.testBit 0 then 1 else 0) ^^^ mg F.m F.p F.m x.v (hoN F.m F.p x.v f (N / 2))=_
   rw [hoN_ok x f (N / 2)]
   have e:vl N.testBit (f+1) x=bk (N.testBit 0)+x*vl (N / 2).testBit f x:=by
    unfold vl
    rw [sm_head,← sm_mul]
    rw [show pw x 0=(un:El F) from rfl,mul1]
    congr 1
    refine sm_congr fun k _ => ?_
    rw [wy]
    show _*(pw x k*x)=_
    rw [mulC (pw x k) x,mulL]
   rw [e,add_v,mul_v]
   cases N.testBit 0 <;> rfl
theorem hoN_vn {x:El F} {f N:Nat} (hf:bl N≤f) (h:hoN F.m F.p x.v f N=0):vn N x=zr:=by
 rw [← vl_more hf]
 exact El.ext (by rw [← hoN_ok];exact h)
end
end
end Go.Vx
namespace Go.Vx
open Go.Vx.Fd
noncomputable section
def mpNn (m p:Nat) (l:List Int):Nat:=bn (l.length+1) fun k=>zi ((fdN m p l).getD k 0) 1
def genN (m p:Nat) (ld:List Int):Nat:=ld.foldl (fun g i=>clm g (mpNn m p (cosV m i.toNat))) 1
def dupB:List Nat→Bool
 | []=>false
 | x :: l=>l.any (zi x) || dupB l
theorem dupB_ok:∀ {l:List Nat},dupB l=false→l.Nodup
 | [],_=>vk
 | x :: l,h=>by
   simp only [dupB,xf,List.any_eq_false] at h
   refine List.nodup_cons.2 ⟨fun hm => ?_,dupB_ok h.2⟩
   exact h.1 x hm (Nat.beq_refl x)
def minOK (m p t:Nat) (i:Int):Bool:=
 (fdN m p (cosV m i.toNat)).all (fun x=>wc x 1) && wc (cosV m i.toNat).length 14 && zi (hoN m p (pwB m p m i.toNat) 15 (mpNn m p (cosV m i.toNat))) 0
   && (cosV m i.toNat).all (fun u=>(xq m).any fun j=>zi (i.toNat*2 ^ j % (2 ^ m - 1)) u.toNat) && decide (1≤i) && wc i.toNat (2*t) && Nat.blt i.toNat (2 ^ m)
def kdU (m:Nat) (ld:List Int):List Nat:=ld.flatMap fun i=>(cosV m i.toNat).map Int.toNat
def kdOK (m p t:Nat):Bool:=
 wc 1 t && wc t 40 && Nat.blt (ldR m t).2 (2 ^ m - 1) && wc 1 (ldR m t).2 && (ldR m t).1.all (minOK m p t) && zi (bl (genN m p (ldR m t).1)) ((ldR m t).2+1)
  && !(dupB (kdU m (ldR m t).1)) && zi (kdU m (ldR m t).1).length (ldR m t).2 && (xq (2*t)).all fun i=>(kdU m (ldR m t).1).any (zi ((i+1) % (2 ^ m - 1)))
structure Kd (F:Gf) where
 t:Nat
 ld:List Int
 D:Nat
 G:Nat
 t1:1≤t
 t40:t≤40
 hl:ldR F.m t=(ld,D)
 hD:D<2 ^ F.m - 1
 D1:1≤D
 ln:∀ i∈ld,(cosV F.m i.toNat).length≤14∧1≤i∧i.toNat<2 ^ F.m
 bin:∀ i∈ld,∀ x∈fdE F (cosV F.m i.toNat),x=zr∨x=un
 gen:ld.foldl (fun g i=>clm g (mpN F (cosV F.m i.toNat))) 1=G
 tp:bl G=D+1
 Q:Cdx F
 Qt:Q.t=t
 QD:Q.D=D
 Qg:∀ k,k<D→Q.g k=G.testBit k
section
variable {F:Gf}
theorem mpN_Nn {l:List Int} (h:∀ x∈l,x.toNat<2 ^ F.m):mpN F l=mpNn F.m F.p l:=by
 unfold mpN mpNn
 refine bn_congr fun k _ => ?_
 rw [← fdE_N h,← cf_v]
 by_cases e:cf (fdE F l) k=un
 · rw [decide_eq_true e,e];rfl
 · rw [decide_eq_false e]
   refine (Bool.eq_false_iff.2 fun h=>e (El.ext ?_)).symm
   exact zp h
theorem minOK_facts {t:Nat} {i:Int} (h:minOK F.m F.p t i=true):(∀ x∈fdE F (cosV F.m i.toNat),x=zr∨x=un)∧(cosV F.m i.toNat).length≤14∧
 vn (mpN F (cosV F.m i.toNat)) (ex F i.toNat)=zr∧(∀ u∈cosV F.m i.toNat,∃ j,i.toNat*2 ^ j % F.N=u.toNat)∧1≤i∧i.toNat≤2*t∧i.toNat<2 ^ F.m:=by
 simp only [minOK,zq,ux,pk,decide_eq_true_eq,ui] at h
 obtain ⟨⟨⟨⟨⟨⟨h1,h2⟩,h3⟩,h4⟩,h5⟩,h6⟩,h7⟩:=h
 have h2:=xk h2
 have hm:=F.m3
 have hc:∀ x∈cosV F.m i.toNat,x.toNat<2 ^ F.m:=fun x hx=>by
  have:=cosV_lt (m:=F.m) (i:=i.toNat) (by omega) x hx
  have:=yg F.m
  omega
 refine ⟨fun x hx => ?_,h2,?_,fun u hu => ?_,h5,xk h6,h7⟩
 · have h9:x.v≤1:=by
    refine xk (h1 x.v ?_)
    rw [← fdE_N hc]
    exact List.mem_map_of_mem hx
   by_cases h0:x.v=0
   · exact .inl (El.ext h0)
   · exact .inr (El.ext (show x.v=1 by omega))
 · refine hoN_vn (f:=15) (by rw [mpN_bl];omega) ?_
   rw [← pwB_ok F.m i.toNat h7,mpN_Nn hc]
   exact zp h3
 · obtain ⟨j,_,h9⟩:=h4 u hu
   exact ⟨j,zp h9⟩
theorem vn_pow {N i:Nat} (h:vn N (ex F i)=zr):∀ j,vn N (ex F (i*2 ^ j))=zr:=pow_zero' h
theorem vn_gen {x:El F} (ld:List Int) {f:Int→Nat} {i:Int} (hi:i∈ld) (h:vn (f i) x=zr):vn (ld.foldl (fun g i=>clm g (f i)) 1) x=zr:=by
 revert hi
 refine snoc_ind (P:=fun ld=>i∈ld→vn (ld.foldl (fun g i=>clm g (f i)) 1) x=zr) (fun h=>by cases h) (fun l k ih hi => ?_) ld
 rw [uo]
 show vn (clm _ _) x=zr
 rw [vn_clm]
 rcases List.mem_append.1 hi with hi | hi
 · rw [ih hi,zmul]
 · rw [wq] at hi
   rw [← hi,h,mul0]
theorem kdU_mem {m u:Nat} {ld:List Int} (h:u∈kdU m ld):∃ i∈ld,∃ c∈cosV m i.toNat,c.toNat=u:=by
 obtain ⟨i,hi,h⟩:=List.mem_flatMap.1 h
 exact ⟨i,hi,List.mem_map.1 h⟩
def Kd.of (F:Gf) (t:Nat) (h:kdOK F.m F.p t=true):Kd F:=
 have H:(1≤t∧t≤40∧(ldR F.m t).2<2 ^ F.m - 1∧1≤(ldR F.m t).2)∧(∀ i∈(ldR F.m t).1,minOK F.m F.p t i=true)∧bl (genN F.m F.p (ldR F.m t).1)=(ldR F.m t).2+1∧
  (kdU F.m (ldR F.m t).1).Nodup∧(kdU F.m (ldR F.m t).1).length=(ldR F.m t).2∧∀ i,i<2*t→(i+1) % F.N∈kdU F.m (ldR F.m t).1:=by
  simp only [kdOK,zq,ux,pk,ui,yi] at h
  obtain ⟨⟨⟨⟨⟨⟨⟨⟨h1,h2⟩,h3⟩,h4⟩,h5⟩,h6⟩,h7⟩,h8⟩,h9⟩:=h
  refine ⟨⟨xk h1,xk h2,h3,xk h4⟩,h5,zp h6,dupB_ok h7,zp h8,fun i hi => ?_⟩
  obtain ⟨u,hu,he⟩:=h9 i (List.mem_range.2 hi)
  have he:(i+1) % F.N=u:=zp he
  rw [he];exact hu
 have hg:(ldR F.m t).1.foldl (fun g i=>clm g (mpN F (cosV F.m i.toNat))) 1=genN F.m F.p (ldR F.m t).1:=by
  unfold genN
  have key:∀ (l:List Int) (a:Nat),l.foldl (fun g i=>clm g (mpN F (cosV F.m i.toNat))) a=l.foldl (fun g i=>clm g (mpNn F.m F.p (cosV F.m i.toNat))) a:=by
   intro l
   induction l with
   | nil=>exact fun _=>rfl
   | cons i l ih=>
     intro a
     show List.foldl _ (clm a _) l=List.foldl _ (clm a _) l
     rw [ih,mpN_Nn]
     intro x hx
     have:=F.m3
     have:=cosV_lt (m:=F.m) (i:=i.toNat) (by omega) x hx
     have:=yg F.m
     omega
  exact key _ _
 have hz:∀ u∈kdU F.m (ldR F.m t).1,vn (genN F.m F.p (ldR F.m t).1) (ex F u)=zr:=fun u hu=>by
  obtain ⟨i,hi,c,hc,rfl⟩:=kdU_mem hu
  obtain ⟨_,_,h3,h4,_⟩:=minOK_facts (H.2.1 i hi)
  obtain ⟨j,hj⟩:=h4 c hc
  rw [← hg]
  refine vn_gen (f:=fun i=>mpN F (cosV F.m i.toNat)) _ hi ?_
  rw [← hj,ex_mod]
  exact vn_pow h3 j
 { t:=t,ld:=(ldR F.m t).1,D:=(ldR F.m t).2,G:=genN F.m F.p (ldR F.m t).1
   t1:=H.1.1,t40:=H.1.2.1,hl:=rfl,hD:=H.1.2.2.1,D1:=H.1.2.2.2
   ln:=fun i hi=>have:=minOK_facts (H.2.1 i hi);⟨this.2.1,this.2.2.2.2.1,this.2.2.2.2.2.2⟩
   bin:=fun i hi=>(minOK_facts (H.2.1 i hi)).1
   gen:=hg
   tp:=H.2.2.1
   Q:={
         t:=t,D:=(ldR F.m t).2,g:=(genN F.m F.p (ldR F.m t).1).testBit,U:=kdU F.m (ldR F.m t).1,D1:=H.1.2.2.2,nod:=H.2.2.2.1,len:=H.2.2.2.2.1
         lt:=fun u hu=>by
          obtain ⟨i,hi,c,hc,rfl⟩:=kdU_mem hu
          have:=F.m3
          have:=cosV_lt (m:=F.m) (i:=i.toNat) (by omega) c hc
          show _<2 ^ F.m - 1
          omega
         from':=fun u hu=>by
          obtain ⟨i,hi,c,hc,rfl⟩:=kdU_mem hu
          obtain ⟨_,_,_,h4,h5,h6,_⟩:=minOK_facts (H.2.1 i hi)
          obtain ⟨j,hj⟩:=h4 c hc
          exact ⟨i.toNat,j,by omega,h6,by rw [← hj,ex_mod]⟩
         zero:=fun u hu=>by
          have h0:=hz u hu
          have hb:=H.2.2.1
          have ht:(genN F.m F.p (ldR F.m t).1).testBit (ldR F.m t).2=true:=by
           have:=bl_top (N:=genN F.m F.p (ldR F.m t).1) fun e=>by rw [e,bl_zero] at hb;omega
           rwa [hb,Nat.add_sub_cancel] at this
          unfold vn at h0
          rw [hb] at h0
          have h1:vl (genN F.m F.p (ldR F.m t).1).testBit (ldR F.m t).2 (ex F u)+bk ((genN F.m F.p (ldR F.m t).1).testBit (ldR F.m t).2)*pw (ex F u) (ldR F.m t).2=zr:=h0
          rw [ht] at h1
          have h2:=eq_of_add h1
          rw [h2]
          exact umul _
         has:=fun i h1 h2=>⟨i % F.N,by
          have:=H.2.2.2.2.2 (i - 1) (by omega)
          rwa [show i - 1+1=i by omega] at this,ex_mod i⟩ }
   Qt:=rfl,QD:=rfl,Qg:=fun _ _=>rfl }
end
end
end Go.Vx
namespace Go.Vx
noncomputable section
def gf5:Gf:=Gf.of 5 37 (by omega) (by omega) (by kernel_rfl) (by kernel_rfl) (by decide) (by kernel_rfl)
theorem kd5_1:kdOK 5 37 1=true:=by kernel_rfl
theorem kd5_2:kdOK 5 37 2=true:=by kernel_rfl
theorem kd5_3:kdOK 5 37 3=true:=by kernel_rfl
theorem kd5_4:kdOK 5 37 4=true:=by kernel_rfl
theorem kd5_5:kdOK 5 37 5=true:=by kernel_rfl
def gf6:Gf:=Gf.of 6 67 (by omega) (by omega) (by kernel_rfl) (by kernel_rfl) (by decide) (by kernel_rfl)
theorem kd6_1:kdOK 6 67 1=true:=by kernel_rfl
theorem kd6_2:kdOK 6 67 2=true:=by kernel_rfl
theorem kd6_3:kdOK 6 67 3=true:=by kernel_rfl
theorem kd6_4:kdOK 6 67 4=true:=by kernel_rfl
theorem kd6_5:kdOK 6 67 5=true:=by kernel_rfl
def gf7:Gf:=Gf.of 7 137 (by omega) (by omega) (by kernel_rfl) (by kernel_rfl) (by decide) (by kernel_rfl)
theorem kd7_1:kdOK 7 137 1=true:=by kernel_rfl
theorem kd7_2:kdOK 7 137 2=true:=by kernel_rfl
theorem kd7_3:kdOK 7 137 3=true:=by kernel_rfl
theorem kd7_4:kdOK 7 137 4=true:=by kernel_rfl
theorem kd7_5:kdOK 7 137 5=true:=by kernel_rfl
def gf8:Gf:=Gf.of 8 285 (by omega) (by omega) (by kernel_rfl) (by kernel_rfl) (by decide) (by kernel_rfl)
theorem kd8_1:kdOK 8 285 1=true:=by kernel_rfl
theorem kd8_2:kdOK 8 285 2=true:=by kernel_rfl
theorem kd8_3:kdOK 8 285 3=true:=by kernel_rfl
theorem kd8_4:kdOK 8 285 4=true:=by kernel_rfl
theorem kd8_5:kdOK 8 285 5=true:=by kernel_rfl
end
end Go.Vx
namespace Go.Vx
open Go Go.Proofs
noncomputable section
variable [Gl]
theorem srt_isr (l:List Int):srt l=isr l:=isr_eq (srt_perm l) (srt_le l)
theorem any_has {L:List Int} {x:Int}:anyF (eqI x) L=L.contains x:=by
 by_cases h:x∈L
 · rw [List.contains_iff_mem.2 h,anyF_iff]
   exact ⟨x,h,decide_eq_true rfl⟩
 · rw [Bool.eq_false_iff.2 fun e=>h (List.contains_iff_mem.1 e),Bool.eq_false_iff]
   intro e
   obtain ⟨y,hy,e⟩:=anyF_iff.1 e
   rw [ng e] at h
   exact h hy
section
variable (F:Gf)
def Co6 (C:List Int):Inv' C0:=⟨6,Nat×List Int×Oq,fun x=>[(1,.int .i64 (x.1:Int)),(7,.sl 0 0 x.2.1.length x.2.2.2.2.2.2)],fun x _=>[oqC true x.2.2],
 fun x=>x.1<nF F∧x.2.1.Nodup∧(∀ a∈x.2.1,0≤a∧a<(nF F:Int))∧Oqw x.2.1 x.2.2∧cosR (nF F) (szF F - x.2.1.length) x.1 x.2.1=C,fun x=>szF F - x.2.1.length⟩
set_option maxHeartbeats 4000000 in
theorem coset_ok (i:Nat) (hi:i<1000000000):
 Does (C:=C0) Tryz.prog (.fn 98) [] [.int .i64 (F.m:Int),.int .i64 (i:Int)]
  [⟨Oq,fun y=>Oqw (cosV F.m i) y,fun y=>.tup [.sl 0 0 (cosV F.m i).length y.2.2.2.2,.nili],fun y=>[oqC true y]⟩]:=by
 obtain ⟨hs,h7,hh⟩:=nF_sz F
 have es:=shl_sz F
 have e1:(szF F:Int) - 1=(nF F:Int):=by omega
 have hby:Tryz.prog.types[3].bytes=8:=by kernel_rfl
 have hN:2 ^ F.m - 1=nF F:=by rw [nF_eq]
 have hC:cosV F.m i=isr (cosR (nF F) (szF F) (i % nF F) []):=by unfold cosV;rw [hN,szF_eq]
 have em:(i:Int).tmod (nF F)=((i % nF F:Nat):Int):=(zb i _).symm
 have em2:((i:Int).tmod (nF F)+(nF F:Int)).tmod (nF F)=((i % nF F:Nat):Int):=by
  rw [em,← qr,← zb,Nat.add_mod_right,Nat.mod_mod]
 have hlt:i % nF F<nF F:=yv _ (by omega)
 have hp0:(F.p:Int)≠0:=fun h=>by
  have:F.p=0:=by omega
  have h2:=F.top
  rw [this,xj] at h2
  cases h2
 refine loc_fn (P:=Tryz.prog) (E:=⟨[fcSort],[pcPolyF F,pcContains],37,[],[],[],none⟩) (L:=[Co6 F (cosR (nF F) (szF F) (i % nF F) [])]) mix Tryz.func98 rfl (by kernel_rfl) (by kernel_rfl) rfl rfl ?_
 ((conv=>arg 1;reduce);with_reducible repeat' first | exact ty | refine ta ?_ ?_ | refine ti fun _ => ?_ | refine tf fun _ => ?_ | refine tl ?_)
 all_goals try exact absurd (ng ‹_›) hp0
 all_goals try exact vlf
 · rw [es,e1,em];exact inR64 (n:=((i % nF F:Nat):Int)+(nF F:Int)) (by omega) (by omega)
 · refine Stands.one ((i % nF F,[],(false,0,0,[],0)):Nat×List Int×Oq) ⟨⟨hlt,vk,(fun x hx=>by cases hx),Oqw.none,by show cosR (nF F) (szF F - 0) _ _=_;rw [Nat.sub_zero]⟩,?_⟩
   ((conv=>arg 1;reduce);with_reducible repeat' first | exact ty | refine ta ?_ ?_ | refine ti fun _ => ?_ | refine tf fun _ => ?_ | refine tl ?_)
   all_goals first | exact vlf | (rw [es,e1];exact em2)
 · rename_i d0 x hx
   change Nat×List Int×Oq at x
   obtain ⟨a,L,y⟩:=x
   obtain ⟨k1,k2,k3,k4,k5⟩:a<nF F∧L.Nodup∧(∀ a∈L,0≤a∧a<(nF F:Int))∧Oqw L y∧cosR (nF F) (szF F - L.length) a L=cosR (nF F) (szF F) (i % nF F) []:=hx
   have lL:=nodup_le (nF F) L k2 k3
   have eL:y.2.2.2.1.take L.length=L:=k4.eq
   have c1:L.length≤y.2.2.2.2:=k4.cap
   have c2:y.2.2.2.2≤y.2.2.2.1.length:=k4.len
   exact ⟨by show L.length≤y.2.2.2.1.length;omega,by show L.length<4611686018427387904;omega,k4.nil⟩
 · rename_i d0 x hx d g1
   change Nat×List Int×Oq at x
   obtain ⟨a,L,y⟩:=x
   obtain ⟨k1,k2,k3,k4,k5⟩:a<nF F∧L.Nodup∧(∀ a∈L,0≤a∧a<(nF F:Int))∧Oqw L y∧cosR (nF F) (szF F - L.length) a L=cosR (nF F) (szF F) (i % nF F) []:=hx
   have lL:=nodup_le (nF F) L k2 k3
   have eL:y.2.2.2.1.take L.length=L:=k4.eq
   have c1:L.length≤y.2.2.2.2:=k4.cap
   have c2:y.2.2.2.2≤y.2.2.2.1.length:=k4.len
   rw [hby]
   exact ⟨c1,by show 0+y.2.2.2.2≤y.2.2.2.1.length;omega,zw _,by show (L.length+1)*8≤_;omega⟩
 · rename_i d0 x hx d g1
   change Nat×List Int×Oq at x
   obtain ⟨a,L,y⟩:=x
   obtain ⟨k1,k2,k3,k4,k5⟩:a<nF F∧L.Nodup∧(∀ a∈L,0≤a∧a<(nF F:Int))∧Oqw L y∧cosR (nF F) (szF F - L.length) a L=cosR (nF F) (szF F) (i % nF F) []:=hx
   have lL:=nodup_le (nF F) L k2 k3
   have eL:y.2.2.2.1.take L.length=L:=k4.eq
   have c1:L.length≤y.2.2.2.2:=k4.cap
   have c2:y.2.2.2.2≤y.2.2.2.1.length:=k4.len
   exact k4.nil
 · rename_i d0 x hx d g1 g2 g3 sp k h1 h2
   change Nat×List Int×Oq at x
   obtain ⟨a,L,y⟩:=x
   obtain ⟨k1,k2,k3,k4,k5⟩:a<nF F∧L.Nodup∧(∀ a∈L,0≤a∧a<(nF F:Int))∧Oqw L y∧cosR (nF F) (szF F - L.length) a L=cosR (nF F) (szF F) (i % nF F) []:=hx
   have lL:=nodup_le (nF F) L k2 k3
   have eL:y.2.2.2.1.take L.length=L:=k4.eq
   have c1:L.length≤y.2.2.2.2:=k4.cap
   have c2:y.2.2.2.2≤y.2.2.2.1.length:=k4.len
   exact inR64 (n:=2*(a:Int)) (by omega) (by omega)
 · rename_i d0 x hx d g1 g2 g3 sp k h1 h2
   change Nat×List Int×Oq at x
   obtain ⟨a,L,y⟩:=x
   obtain ⟨k1,k2,k3,k4,k5⟩:a<nF F∧L.Nodup∧(∀ a∈L,0≤a∧a<(nF F:Int))∧Oqw L y∧cosR (nF F) (szF F - L.length) a L=cosR (nF F) (szF F) (i % nF F) []:=hx
   have lL:=nodup_le (nF F) L k2 k3
   have eL:y.2.2.2.1.take L.length=L:=k4.eq
   have c1:L.length≤y.2.2.2.2:=k4.cap
   have c2:y.2.2.2.2≤y.2.2.2.1.length:=k4.len
   change List Int at sp
   have d:(!anyF (eqI (a:Int)) (y.2.2.2.1.take L.length))=true:=d
   rw [eL,any_has,yi] at d
   have hm:¬ (a:Int)∈L:=fun h=>by rw [List.contains_iff_mem.2 h] at d;cases d
   have h1:L.length+1≤k:=h1
   have h2:k≤L.length+1+sp.length:=h2
   refine Stands.one ((2*a % nF F,L ++ [(a:Int)],(true,g2,g3,y.2.2.2.1.take L.length ++ [(a:Int)] ++ sp,k)):Nat×List Int×Oq) ⟨⟨yv _ (by omega),?_,?_,k4.snoc _ _ _ _ _ sp _ rfl h1 h2 rfl,?_⟩,?_,?_⟩
   · refine List.nodup_append.2 ⟨k2,rj ..,fun u hu v hv => ?_⟩
     rw [wq] at hv
     intro e
     exact hm (hv ▸ e ▸ hu)
   · intro u hu
     rcases List.mem_append.1 hu with hu | hu
     · exact k3 u hu
     · rw [wq] at hu;omega
   · show cosR (nF F) (szF F - (L ++ [(a:Int)]).length) (2*a % nF F) (L ++ [(a:Int)])=_
     rw [← k5,zx,show szF F - L.length=(szF F - (L.length+1))+1 by omega]
     show _=if L.contains (a:Int) then L else _
     rw [d]
     rfl
   · show szF F - (L ++ [(a:Int)]).length<szF F - L.length
     rw [zx]
     show szF F - (L.length+1)<_
     omega
   ((conv=>arg 1;reduce);with_reducible repeat' first | exact ty | refine ta ?_ ?_ | refine ti fun _ => ?_ | refine tf fun _ => ?_ | refine tl ?_)
   all_goals first
    | exact vlf
    | (show (L ++ [(a:Int)]).length=L.length+1;rw [zx];rfl)
    | (show L.length+1=(L ++ [(a:Int)]).length;rw [zx];rfl)
    | (rw [es,e1];exact (zb (2*a) (nF F)).symm)
    | (rw [es,e1];show (2*(a:Int)).tmod (nF F)=_;rw [show (2*(a:Int))=((2*a:Nat):Int) by omega];exact (zb (2*a) (nF F)).symm)
 · rename_i d0 x hx d
   change Nat×List Int×Oq at x
   obtain ⟨a,L,y⟩:=x
   obtain ⟨k1,k2,k3,k4,k5⟩:a<nF F∧L.Nodup∧(∀ a∈L,0≤a∧a<(nF F:Int))∧Oqw L y∧cosR (nF F) (szF F - L.length) a L=cosR (nF F) (szF F) (i % nF F) []:=hx
   have lL:=nodup_le (nF F) L k2 k3
   have eL:y.2.2.2.1.take L.length=L:=k4.eq
   have c1:L.length≤y.2.2.2.2:=k4.cap
   have c2:y.2.2.2.2≤y.2.2.2.1.length:=k4.len
   exact ⟨by show L.length≤y.2.2.2.1.length;omega,by show L.length<4611686018427387904;omega,k4.nil⟩
 · rename_i d0 x hx d u hu
   change Nat×List Int×Oq at x
   obtain ⟨a,L,y⟩:=x
   obtain ⟨k1,k2,k3,k4,k5⟩:a<nF F∧L.Nodup∧(∀ a∈L,0≤a∧a<(nF F:Int))∧Oqw L y∧cosR (nF F) (szF F - L.length) a L=cosR (nF F) (szF F) (i % nF F) []:=hx
   have lL:=nodup_le (nF F) L k2 k3
   have eL:y.2.2.2.1.take L.length=L:=k4.eq
   have c1:L.length≤y.2.2.2.2:=k4.cap
   have c2:y.2.2.2.2≤y.2.2.2.1.length:=k4.len
   have d:(!anyF (eqI (a:Int)) (y.2.2.2.1.take L.length))=false:=d
   rw [eL,any_has,ry] at d
   have eC:L=cosR (nF F) (szF F) (i % nF F) []:=by
    rw [← k5,show szF F - L.length=(szF F - L.length - 1)+1 by omega]
    show L=if L.contains (a:Int) then L else _
    rw [d]
    rfl
   have eV:srt L=cosV F.m i:=by rw [hC,← eC,srt_isr]
   have lV:(cosV F.m i).length=L.length:=by rw [← eV,srt_len]
   refine Ends.one ((y.1,y.2.1,y.2.2.1,srt L ++ y.2.2.2.1.drop L.length,y.2.2.2.2):Oq) ⟨?_,?_,?_,?_⟩ ?_
   · show (srt L ++ _).take (cosV F.m i).length=_
     rw [← eV,List.take_left' rfl]
   · show (cosV F.m i).length≤y.2.2.2.2;omega
   · show y.2.2.2.2≤(srt L ++ y.2.2.2.1.drop L.length).length
     rw [zx,srt_len,List.length_drop];omega
   · intro h0
     have:=k4.nil h0
     rw [lV]
     exact this
   ((conv=>arg 1;reduce);with_reducible repeat' first | exact ty | refine ta ?_ ?_ | refine ti fun _ => ?_ | refine tf fun _ => ?_ | refine tl ?_)
   all_goals first
    | exact vlf
    | exact lV
    | exact lV.symm
    | (show srt (y.2.2.2.1.take L.length) ++ _=_;rw [eL])
    | (show _=srt (y.2.2.2.1.take L.length) ++ _;rw [eL])
    | (show _=castL _ _;show srt L ++ _=srt (y.2.2.2.1.take L.length) ++ _;rw [eL])
def fcCoset:Fc Tryz.prog C0 where
 tg:=.fn 98
 X:=Int
 args i:=[.int .i64 (F.m:Int),.int .i64 i]
 mem _:=[]
 pre i:=0≤i∧i<1000000000
 alts i:=[⟨Oq,fun y=>Oqw (cosV F.m i.toNat) y,fun y=>.tup [.sl 0 0 (cosV F.m i.toNat).length y.2.2.2.2,.nili],fun y=>[oqC true y]⟩]
 mat vs m:=match vs with
  | [.int _ _,.int _ i]=>some (i,[])
  | _=>none
 ok:=fun i h=>by
  obtain ⟨i,rfl⟩:=yh h.1
  exact coset_ok F i (Int.ofNat_lt.1 h.2)
end
end
end Go.Vx
namespace Go.Vx
open Go Go.Proofs
noncomputable section
theorem cosR_le (n:Nat):∀ (f i:Nat) (l:List Int),l.length≤(cosR n f i l).length
 | 0,_,_=>zw _
 | f+1,i,l=>by
   unfold cosR
   split
   · exact zw _
   · have:=cosR_le n f (2*i % n) (l ++ [(i:Int)])
     rw [zx] at this
     omega
theorem cosV_pos {m i:Nat}:1≤(cosV m i).length:=by
 obtain ⟨f,hf⟩:∃ f,2 ^ m=f+1:=⟨2 ^ m - 1,by have:=yg m;omega⟩
 have e:(cosV m i).length=(cosR (2 ^ m - 1) (2 ^ m) (i % (2 ^ m - 1)) []).length:=by unfold cosV;exact (isr_perm _).length_eq
 rw [e,hf]
 exact cosR_le _ f _ ([] ++ [_])
theorem ldR_bd {m:Nat} (h1:1≤m) (h2:m≤14):∀ j,(ldR m j).1.length≤j∧(ldR m j).2≤j*16384
 | 0=>⟨zw 0,zg _⟩
 | j+1=>by
   have ih:=ldR_bd h1 h2 j
   have hc:=cosV_len (m:=m) (i:=2*j+1) h1
   have hp:2 ^ m≤2 ^ 14:=zj (by omega) h2
   unfold ldR
   split
   · omega
   · simp only [zx,xy,ur]
     omega
variable [Gl]
section
variable {F:Gf} (K:Kd F)
def Ld8:Inv' C0:=⟨8,Nat×Oq,fun x=>[(9,.int .i64 (2*(x.1:Int)+1)),(8,.int .i64 ((ldR F.m x.1).2:Int)),(7,.sl 0 0 (ldR F.m x.1).1.length x.2.2.2.2.2)],fun x _=>[oqC true x.2],
 fun x=>x.1≤K.t∧Oqw (ldR F.m x.1).1 x.2,fun x=>K.t - x.1⟩
set_option maxHeartbeats 4000000 in
theorem leaders_ok:
 Does (C:=C0) Tryz.prog (.fn 75) [] [.int .i64 (F.m:Int),.int .i64 (K.t:Int)]
  [⟨Oq,fun y=>Oqw K.ld y,fun y=>.tup [.sl 0 0 K.ld.length y.2.2.2.2,.int .i64 (K.D:Int),.nili],fun y=>[oqC true y]⟩]:=by
 obtain ⟨hs,h7,hh⟩:=nF_sz F
 have es:=shl_sz F
 have e1:(szF F:Int) - 1=(nF F:Int):=by omega
 have hN:2 ^ F.m - 1=nF F:=by rw [nF_eq]
 have hby:Tryz.prog.types[3].bytes=8:=by kernel_rfl
 have t1:=K.t1
 have t40:=K.t40
 have hl:=K.hl
 have hD:=K.hD
 rw [hN] at hD
 have bd:=fun j=>ldR_bd (m:=F.m) (by have:=F.m3;omega) F.m14 j
 have cl:=fun i=>cosV_len (m:=F.m) (i:=i) (by have:=F.m3;omega)
 rw [hN] at cl
 have hp0:(F.p:Int)≠0:=fun h=>by
  have:F.p=0:=by omega
  have h2:=F.top
  rw [this,xj] at h2
  cases h2
 refine loc_fn (P:=Tryz.prog) (E:=⟨[fcCoset F],[pcPolyF F,pcContains],64,[],[],[],none⟩) (L:=[Ld8 K]) mix Tryz.func75 rfl (by kernel_rfl) (by kernel_rfl) rfl rfl ?_
 ((conv=>arg 1;reduce);with_reducible repeat' first | exact ty | refine ta ?_ ?_ | refine ti fun _ => ?_ | refine tf fun _ => ?_ | refine tl ?_)
 all_goals try exact absurd (ng ‹_›) hp0
 all_goals try exact vlf
 · exfalso
   rename_i d0 d1
   simp only [yd,decide_eq_true_eq,SB.val] at d1
   omega
 · refine Stands.one ((0,(false,0,0,[],0)):Nat×Oq) ⟨⟨zg _,Oqw.none⟩,?_⟩
   exact vgo
 · rename_i d0 d1 x hx d2
   change Nat×Oq at x
   obtain ⟨j,y⟩:=x
   obtain ⟨k1,k2⟩:j≤K.t∧Oqw (ldR F.m j).1 y:=hx
   have eL:y.2.2.2.1.take (ldR F.m j).1.length=(ldR F.m j).1:=k2.eq
   have c1:(ldR F.m j).1.length≤y.2.2.2.2:=k2.cap
   have c2:y.2.2.2.2≤y.2.2.2.1.length:=k2.len
   have b1:=bd j
   have e2:(2*(j:Int)+1).toNat=2*j+1:=by omega
   have d2:2*(j:Int)+1<2*(K.t:Int):=ng d2
   exact ⟨by omega,by omega⟩
 iterate 5 (focus
  rename_i d0 d1 x hx d2 c hc
  change Nat×Oq at x
  obtain ⟨j,y⟩:=x
  obtain ⟨k1,k2⟩:j≤K.t∧Oqw (ldR F.m j).1 y:=hx
  have eL:y.2.2.2.1.take (ldR F.m j).1.length=(ldR F.m j).1:=k2.eq
  have c1:(ldR F.m j).1.length≤y.2.2.2.2:=k2.cap
  have c2:y.2.2.2.2≤y.2.2.2.1.length:=k2.len
  have b1:=bd j
  have e2:(2*(j:Int)+1).toNat=2*j+1:=by omega
  have d2:2*(j:Int)+1<2*(K.t:Int):=ng d2
  have hc:Oqw (cosV F.m (2*(j:Int)+1).toNat) c:=hc
  rw [e2] at hc
  have v1:=hc.cap
  have v2:=hc.len
  have v3:=cl (2*j+1)
  have v4:=cosV_pos (m:=F.m) (i:=2*j+1)
  have eC:c.2.2.2.1.getD ((0:Int).toNat+0) 0=(cosV F.m (2*j+1)).getD 0 0:=hc.at (by omega)
  first
  | exact on_of hc.nil (by omega)
  | (show 0<((cosV F.m (2*(j:Int)+1).toNat).length:Int);rw [e2];omega)
  | (show (0:Int).toNat+0<c.2.2.2.1.length;show 0<_;omega)
  | exact ⟨by show (ldR F.m j).1.length≤y.2.2.2.1.length;omega,by show (ldR F.m j).1.length<4611686018427387904;omega,k2.nil⟩)
 iterate 4 (focus
  rename_i d0 d1 x hx d2 c hc d3
  change Nat×Oq at x
  obtain ⟨j,y⟩:=x
  obtain ⟨k1,k2⟩:j≤K.t∧Oqw (ldR F.m j).1 y:=hx
  have eL:y.2.2.2.1.take (ldR F.m j).1.length=(ldR F.m j).1:=k2.eq
  have c1:(ldR F.m j).1.length≤y.2.2.2.2:=k2.cap
  have c2:y.2.2.2.2≤y.2.2.2.1.length:=k2.len
  have b1:=bd j
  have e2:(2*(j:Int)+1).toNat=2*j+1:=by omega
  have d2:2*(j:Int)+1<2*(K.t:Int):=ng d2
  have hc:Oqw (cosV F.m (2*(j:Int)+1).toNat) c:=hc
  rw [e2] at hc
  have v1:=hc.cap
  have v2:=hc.len
  have v3:=cl (2*j+1)
  have v4:=cosV_pos (m:=F.m) (i:=2*j+1)
  have eC:c.2.2.2.1.getD ((0:Int).toNat+0) 0=(cosV F.m (2*j+1)).getD 0 0:=hc.at (by omega)
  first
  | exact on_of hc.nil (by omega)
  | (show 0<((cosV F.m (2*(j:Int)+1).toNat).length:Int);rw [e2];omega)
  | (show (0:Int).toNat+0<c.2.2.2.1.length;show 0<_;omega))
 iterate 2 (focus
  rename_i d0 d1 x hx d2 c hc d3 g1
  change Nat×Oq at x
  obtain ⟨j,y⟩:=x
  obtain ⟨k1,k2⟩:j≤K.t∧Oqw (ldR F.m j).1 y:=hx
  have eL:y.2.2.2.1.take (ldR F.m j).1.length=(ldR F.m j).1:=k2.eq
  have c1:(ldR F.m j).1.length≤y.2.2.2.2:=k2.cap
  have c2:y.2.2.2.2≤y.2.2.2.1.length:=k2.len
  have b1:=bd j
  have e2:(2*(j:Int)+1).toNat=2*j+1:=by omega
  have d2:2*(j:Int)+1<2*(K.t:Int):=ng d2
  have hc:Oqw (cosV F.m (2*(j:Int)+1).toNat) c:=hc
  rw [e2] at hc
  have v1:=hc.cap
  have v2:=hc.len
  have v3:=cl (2*j+1)
  have v4:=cosV_pos (m:=F.m) (i:=2*j+1)
  have eC:c.2.2.2.1.getD ((0:Int).toNat+0) 0=(cosV F.m (2*j+1)).getD 0 0:=hc.at (by omega)
  first
  | exact k2.nil
  | (rw [hby];exact ⟨c1,by show 0+y.2.2.2.2≤y.2.2.2.1.length;omega,zw _,by show ((ldR F.m j).1.length+1)*8≤_;omega⟩))
 iterate 3 (focus
  rename_i d0 d1 x hx d2 c hc d3 g1 g2 g3 sp k h1 h2
  change Nat×Oq at x
  obtain ⟨j,y⟩:=x
  obtain ⟨k1,k2⟩:j≤K.t∧Oqw (ldR F.m j).1 y:=hx
  have eL:y.2.2.2.1.take (ldR F.m j).1.length=(ldR F.m j).1:=k2.eq
  have c1:(ldR F.m j).1.length≤y.2.2.2.2:=k2.cap
  have c2:y.2.2.2.2≤y.2.2.2.1.length:=k2.len
  have b1:=bd j
  have e2:(2*(j:Int)+1).toNat=2*j+1:=by omega
  have d2:2*(j:Int)+1<2*(K.t:Int):=ng d2
  have hc:Oqw (cosV F.m (2*(j:Int)+1).toNat) c:=hc
  rw [e2] at hc
  have v1:=hc.cap
  have v2:=hc.len
  have v3:=cl (2*j+1)
  have v4:=cosV_pos (m:=F.m) (i:=2*j+1)
  have eC:c.2.2.2.1.getD ((0:Int).toNat+0) 0=(cosV F.m (2*j+1)).getD 0 0:=hc.at (by omega)
  have d3:(!anyF (eqI (c.2.2.2.1.getD ((0:Int).toNat+0) 0)) (y.2.2.2.1.take (ldR F.m j).1.length))=true:=d3
  rw [eC,eL,any_has,yi] at d3
  have eR:ldR F.m (j+1)=((ldR F.m j).1 ++ [(cosV F.m (2*j+1)).getD 0 0],(ldR F.m j).2+(cosV F.m (2*j+1)).length):=by
   show (if (ldR F.m j).1.contains _ then _ else _)=_
   rw [d3];rfl
  have h1:(ldR F.m j).1.length+1≤k:=h1
  change List Int at sp
  have h2:k≤(ldR F.m j).1.length+1+sp.length:=h2
  first
  | (refine Stands.one ((j+1,(true,g2,g3,y.2.2.2.1.take (ldR F.m j).1.length ++ [c.2.2.2.1.getD ((0:Int).toNat+0) 0] ++ sp,k)):Nat×Oq) ⟨⟨by show j+1≤K.t;omega,?_⟩,by show K.t - (j+1)<K.t - j;omega,?_⟩
     · show Oqw (ldR F.m (j+1)).1 _
       rw [eR]
       refine k2.snoc _ _ _ _ _ sp _ ?_ h1 h2 rfl
       rw [eC]
     ((conv=>arg 1;reduce);with_reducible repeat' first | exact ty | refine ta ?_ ?_ | refine ti fun _ => ?_ | refine tf fun _ => ?_ | refine tl ?_)
     all_goals first
      | exact vlf
      | (show (ldR F.m (j+1)).1.length=(ldR F.m j).1.length+1;rw [eR,zx];rfl)
      | (show (ldR F.m j).1.length+1=(ldR F.m (j+1)).1.length;rw [eR,zx];rfl)
      | (show ((ldR F.m j).2:Int)+((cosV F.m (2*(j:Int)+1).toNat).length:Int)=((ldR F.m (j+1)).2:Int);rw [eR,e2];exact (qr _ _).symm)
      | (show 2*(j:Int)+1+2=2*((j+1:Nat):Int)+1;omega))
  | (show inR .i64 (((ldR F.m j).2:Int)+((cosV F.m (2*(j:Int)+1).toNat).length:Int));rw [e2];exact inR64 (by omega) (by omega))
  | exact inR64 (n:=2*(j:Int)+1+2) (by omega) (by omega))
 iterate 2 (focus
  rename_i d0 d1 x hx d2 c hc d3
  change Nat×Oq at x
  obtain ⟨j,y⟩:=x
  obtain ⟨k1,k2⟩:j≤K.t∧Oqw (ldR F.m j).1 y:=hx
  have eL:y.2.2.2.1.take (ldR F.m j).1.length=(ldR F.m j).1:=k2.eq
  have c1:(ldR F.m j).1.length≤y.2.2.2.2:=k2.cap
  have c2:y.2.2.2.2≤y.2.2.2.1.length:=k2.len
  have b1:=bd j
  have e2:(2*(j:Int)+1).toNat=2*j+1:=by omega
  have d2:2*(j:Int)+1<2*(K.t:Int):=ng d2
  have hc:Oqw (cosV F.m (2*(j:Int)+1).toNat) c:=hc
  rw [e2] at hc
  have v1:=hc.cap
  have v2:=hc.len
  have v3:=cl (2*j+1)
  have v4:=cosV_pos (m:=F.m) (i:=2*j+1)
  have eC:c.2.2.2.1.getD ((0:Int).toNat+0) 0=(cosV F.m (2*j+1)).getD 0 0:=hc.at (by omega)
  have d3:(!anyF (eqI (c.2.2.2.1.getD ((0:Int).toNat+0) 0)) (y.2.2.2.1.take (ldR F.m j).1.length))=false:=d3
  rw [eC,eL,any_has,ry] at d3
  have eR:ldR F.m (j+1)=ldR F.m j:=by
   show (if (ldR F.m j).1.contains _ then _ else _)=_
   rw [d3];rfl
  first
  | (refine Stands.one ((j+1,y):Nat×Oq) ⟨⟨by show j+1≤K.t;omega,by show Oqw (ldR F.m (j+1)).1 _;rw [eR];exact k2⟩,by show K.t - (j+1)<K.t - j;omega,?_⟩
     ((conv=>arg 1;reduce);with_reducible repeat' first | exact ty | refine ta ?_ ?_ | refine ti fun _ => ?_ | refine tf fun _ => ?_ | refine tl ?_)
     all_goals first
      | exact vlf
      | (show (ldR F.m (j+1)).1.length=(ldR F.m j).1.length;rw [eR])
      | (show (ldR F.m j).1.length=(ldR F.m (j+1)).1.length;rw [eR])
      | (show ((ldR F.m j).2:Int)=((ldR F.m (j+1)).2:Int);rw [eR])
      | (show 2*(j:Int)+1+2=2*((j+1:Nat):Int)+1;omega))
  | exact inR64 (n:=2*(j:Int)+1+2) (by omega) (by omega))
 · exfalso
   rename_i d0 d1 x hx d2 d3
   change Nat×Oq at x
   obtain ⟨j,y⟩:=x
   obtain ⟨k1,k2⟩:j≤K.t∧Oqw (ldR F.m j).1 y:=hx
   have d2:¬ 2*(j:Int)+1<2*(K.t:Int):=nf d2
   obtain rfl:j=K.t:=by omega
   simp only [hl] at k2
   have d3:ishl .i64 1 (F.m:Int) - 1≤((ldR F.m K.t).2:Int):=ng d3
   rw [es,e1,hl] at d3
   have d3:(nF F:Int)≤(K.D:Int):=d3
   omega
 · rename_i d0 d1 x hx d2 d3
   change Nat×Oq at x
   obtain ⟨j,y⟩:=x
   obtain ⟨k1,k2⟩:j≤K.t∧Oqw (ldR F.m j).1 y:=hx
   have d2:¬ 2*(j:Int)+1<2*(K.t:Int):=nf d2
   obtain rfl:j=K.t:=by omega
   simp only [hl] at k2
   refine Ends.one y k2 ?_
   ((conv=>arg 1;reduce);with_reducible repeat' first | exact ty | refine ta ?_ ?_ | refine ti fun _ => ?_ | refine tf fun _ => ?_ | refine tl ?_)
   all_goals first
    | exact vlf
    | (show (ldR F.m K.t).1.length=K.ld.length;rw [hl])
    | (show K.ld.length=(ldR F.m K.t).1.length;rw [hl])
    | (show ((ldR F.m K.t).2:Int)=(K.D:Int);rw [hl])
    | (show (K.D:Int)=((ldR F.m K.t).2:Int);rw [hl])
def fcLeaders:Fc Tryz.prog C0 where
 tg:=.fn 75
 X:=Unit
 args _:=[.int .i64 (F.m:Int),.int .i64 (K.t:Int)]
 mem _:=[]
 pre _:=True
 alts _:=[⟨Oq,fun y=>Oqw K.ld y,fun y=>.tup [.sl 0 0 K.ld.length y.2.2.2.2,.int .i64 (K.D:Int),.nili],fun y=>[oqC true y]⟩]
 mat vs m:=match vs with
  | [.int _ _,.int _ _]=>some ((),[])
  | _=>none
 ok:=fun _ _=>leaders_ok K
theorem least_ok:
 Does (C:=C0) Tryz.prog (.fn 50) [] [.int .i64 (F.m:Int),.int .i64 (K.t:Int)]
  [⟨Unit,fun _=>True,fun _=>.tup [.int .i64 (K.D:Int),.nili],fun _=>[]⟩]:=by
 refine loc_fn (P:=Tryz.prog) (E:=⟨[fcLeaders K],[],18,[],[],[],none⟩) (L:=[]) mix Tryz.func50 rfl (by kernel_rfl) (by kernel_rfl) rfl rfl ?_
 ((conv=>arg 1;reduce);with_reducible repeat' first | exact ty | refine ta ?_ ?_ | refine ti fun _ => ?_ | refine tf fun _ => ?_ | refine tl ?_)
 all_goals try exact vlf
 refine Ends.one () trivial ?_
 exact vgo
def fcLeast:Fc Tryz.prog C0 where
 tg:=.fn 50
 X:=Unit
 args _:=[.int .i64 (F.m:Int),.int .i64 (K.t:Int)]
 mem _:=[]
 pre _:=True
 alts _:=[⟨Unit,fun _=>True,fun _=>.tup [.int .i64 (K.D:Int),.nili],fun _=>[]⟩]
 mat vs m:=match vs with
  | [.int _ _,.int _ _]=>some ((),[])
  | _=>none
 ok:=fun _ _=>least_ok K
end
end
end Go.Vx
namespace Go.Vx
open Go Go.Proofs
noncomputable section
variable {F:Gf}
@[irreducible] def mcI (P Q:List (El F)) (i:Nat):List Int:=vis (mlC P Q i)
@[irreducible] def mrI (P Q:List (El F)) (i k:Nat):List Int:=vis (mlR (cf P i) Q i k (mlC P Q i))
theorem mcI_len {P Q:List (El F)} {i:Nat}:(mcI P Q i).length=P.length+Q.length - 1:=by unfold mcI;rw [zn,mlC_len]
theorem mrI_len {P Q:List (El F)} {i k:Nat}:(mrI P Q i k).length=P.length+Q.length - 1:=by unfold mrI;rw [zn,mlR_len,mlC_len]
theorem mcI_zero {P Q:List (El F)}:mcI P Q 0=zo (P.length+Q.length - 1) 0:=by
 unfold mcI
 show (zo _ _).map vi=_
 rw [qb];rfl
theorem mrI_zero {P Q:List (El F)} {i:Nat}:mrI P Q i 0=mcI P Q i:=by unfold mrI mcI;rfl
theorem mrI_all {P Q:List (El F)} {i:Nat}:mrI P Q i Q.length=mcI P Q (i+1):=by unfold mrI mcI;rfl
theorem mrI_set [Gl] {P Q:List (El F)} {i k:Nat}:(mrI P Q i k).set (i+k) (ibit .xor .i64 ((mrI P Q i k).getD (i+k) 0) (muI F (vi (cf P i)) (vi (cf Q k))))=mrI P Q i (k+1):=by
 unfold mrI
 rw [vis_getD,muI_eq,el_vi,el_vi,xor_vi]
 show (List.map vi _).set _ _=List.map vi ((mlR _ _ _ _ _).set _ _)
 rw [nw]
variable [Gl]
theorem trL_vis' (P:List Int):trL F P=vis (trim (els F P)):=by unfold trL;rfl
theorem trL_els {P:List (El F)}:trL F (vis P)=vis (trim P):=by rw [trL_vis',els_vis]
def Rm8 (P Q:List (El F)):Inv' C0:=⟨8,Nat,fun i=>[(45,.int .i64 (i:Int))],fun i m=>match m with
 | [a0,a1,a2,a3,a4,a5,a6,a7,t]=>[a0,a1,a2,a3,a4,a5,a6,a7,⟨t.block,t.base,1,true,none,.rows 3 (mcI P Q i)⟩]
 | m=>m,fun i=>i≤P.length,fun i=>P.length - i⟩
def Rm11 (P Q:List (El F)):Inv' C0:=⟨11,Nat×Nat,fun x=>[(45,.int .i64 (x.1:Int)),(9,.int .i64 (x.1:Int)),(10,.int .i64 (vi (cf P x.1))),(52,.int .i64 (x.2:Int))],fun x m=>match m with
 | [a0,a1,a2,a3,a4,a5,a6,a7,t]=>[a0,a1,a2,a3,a4,a5,a6,a7,⟨t.block,t.base,1,true,none,.rows 3 (mrI P Q x.1 x.2)⟩]
 | m=>m,fun x=>x.1<P.length∧x.2≤Q.length,fun x=>Q.length - x.2⟩
section
variable (F)
set_option maxHeartbeats 4000000 in
theorem rmul_ok (bR qR bF qF be qe bl ql:Nat) (o:Bool) (b q:Nat) (l:List Int) (i n c:Nat) (o2:Bool) (b2 q2:Nat) (l2:List Int) (i2 n2 c2:Nat) (h:i+n≤l.length) (hn:n<1000000000) (ho:o=false→n=0∧c=0)
 (h2:i2+n2≤l2.length) (hn2:n2<1000000000) (ho2:o2=false→n2=0∧c2=0) (P Q:List (El F)) (hP:trim (els F ((l.drop i).take n))=P) (hQ:trim (els F ((l2.drop i2).take n2))=Q) (p1:1≤P.length) (q1:1≤Q.length) (pq:P.length+Q.length≤2048):
 Does (C:=C0) Tryz.prog (.fn 102) (ringC F bR qR bF qF be qe bl ql ++ [⟨b,q,1,false,some o,.rows 3 l⟩,⟨b2,q2,1,false,some o2,.rows 3 l2⟩]) [.ptr 0 0 0,.sl 4 i n c,.sl 5 i2 n2 c2]
  [⟨Os,fun y=>Ow (vis (trim (mlC P Q P.length))) y,fun y=>.tup [.sl 6 0 (vis (trim (mlC P Q P.length))).length y.2.2.2,.nili],fun y=>ringC F bR qR bF qF be qe bl ql ++ [⟨b,q,1,false,some o,.rows 3 l⟩,⟨b2,q2,1,false,some o2,.rows 3 l2⟩,osC true y]⟩]:=by
 have hby:(Tryz.prog.types[3].bytes:Int)=8:=by kernel_rfl
 have t1:trL F ((l.drop i).take n)=vis P:=by rw [trL_vis',hP]
 have t2:trL F ((l2.drop i2).take n2)=vis Q:=by rw [trL_vis',hQ]
 have lC:=fun i=>mcI_len (P:=P) (Q:=Q) (i:=i)
 have lR:=fun i k=>mrI_len (P:=P) (Q:=Q) (i:=i) (k:=k)
 refine loc_fn (P:=Tryz.prog) (E:=⟨[fcTrim F],[pcMul F],77,[(13,[0,8],[.p 0,.p 1,.p 2,.p 3,.p 4,.p 5,.p 6,.p 7,.p 8,.p 9,.p 10,.p 11,.e 12,.p 13,.p 14,.f 15])],[],[],none⟩) (L:=[Rm8 P Q,Rm11 P Q]) mix Tryz.func102 rfl (by kernel_rfl) (by kernel_rfl) rfl rfl ?_
 ((conv=>arg 1;reduce);with_reducible repeat' first | exact ty | refine ta ?_ ?_ | refine ti fun _ => ?_ | refine tf fun _ => ?_ | refine tl ?_)
 all_goals try exact vlf
 · exact ⟨h,hn,ho⟩
 · exact ⟨h2,hn2,ho2⟩
 · simp only [t1,t2,zn]
   exact inR64 (n:=(P.length:Int)+(Q.length:Int)) (by omega) (by omega)
 · exfalso
   rename_i y1 hy1 y2 hy2 d0
   simp only [t1,t2,zn,decide_eq_true_eq] at d0
   omega
 · exfalso
   rename_i y1 hy1 y2 hy2 d0 d1
   simp only [t1,t2,zn,yd,decide_eq_true_eq,SB.val] at d1
   omega
 · simp only [t1,t2,zn]
   exact inR64 (n:=(P.length:Int)+(Q.length:Int)) (by omega) (by omega)
 · simp only [t1,t2,zn]
   exact inR64 (n:=(P.length:Int)+(Q.length:Int) - 1) (by omega) (by omega)
 · simp only [t1,t2,zn]
   rw [hby]
   omega
 · refine Stands.one (0:Nat) ⟨zg _,?_⟩
   have ek:((P.length:Int)+(Q.length:Int) - 1).toNat=P.length+Q.length - 1:=by omega
   ((conv=>arg 1;reduce);with_reducible repeat' first | exact ty | refine ta ?_ ?_ | refine ti fun _ => ?_ | refine tf fun _ => ?_ | refine tl ?_)
   all_goals first
    | exact vlf
    | (simp only [t1,t2,zn];rw [mcI_zero,ek];rfl)
 all_goals try (
  rename_i y1 hy1 y2 hy2 d0 d1 b a ha d
  have hy1:Ow (vis P) y1:=t1 ▸ hy1
  have hy2:Ow (vis Q) y2:=t2 ▸ hy2
  have v1:=hy1.cap
  have v2:=hy1.len
  have w1:=hy2.cap
  have w2:=hy2.len
  simp only [zn] at v1 w1
  change Nat at a
  have ha:a≤P.length:=ha
  simp only [t1,zn] at d
  have d:(a:Int)<(P.length:Int):=ng d
  first
  | exact on_of (n:=(vis P).length) (c:=y1.2.2.2) hy1.nil (by rw [zn];omega)
  | (show (a:Int)<((trL F ((l.drop i).take n)).length:Int);rw [t1,zn];exact d)
  | (show (a:Int).toNat+0<y1.2.2.1.length;omega)
  | (refine Stands.one ((a,0):Nat×Nat) ⟨⟨by show a<P.length;omega,zg _⟩,?_⟩
     ((conv=>arg 1;reduce);with_reducible repeat' first | exact ty | refine ta ?_ ?_ | refine ti fun _ => ?_ | refine tf fun _ => ?_ | refine tl ?_)
     all_goals first
      | exact vlf
      | (show y1.2.2.1.getD ((a:Int).toNat+0) 0=vi (cf P a);rw [zu,za a,hy1.at (by rw [zn];omega),vis_getD])
      | (show mrI P Q a 0=mcI P Q a;exact mrI_zero)))
 all_goals try (
  rename_i y1 hy1 y2 hy2 d0 d1 b a ha d z hz e1 e1' e2 d2
  have hy1:Ow (vis P) y1:=t1 ▸ hy1
  have hy2:Ow (vis Q) y2:=t2 ▸ hy2
  have v1:=hy1.cap
  have v2:=hy1.len
  have w1:=hy2.cap
  have w2:=hy2.len
  simp only [zn] at v1 w1
  change Nat at a
  have ha:a≤P.length:=ha
  simp only [t1,zn] at d
  have d:(a:Int)<(P.length:Int):=ng d
  change Nat×Nat at z
  obtain ⟨a',k⟩:=z
  obtain ⟨z1,z2⟩:a'<P.length∧k≤Q.length:=hz
  have e1:(a:Int)=(a':Int):=e1
  obtain rfl:a=a':=by omega
  simp only [t2,zn] at d2
  first
  | exact inR64 (n:=(a:Int)+(k:Int)) (by omega) (by omega)
  | (show (0:Int)≤(a:Int)+(k:Int);omega)
  | (have d2:(k:Int)<(Q.length:Int):=ng d2
     have ek:((P.length:Int)+(Q.length:Int) - 1).toNat=P.length+Q.length - 1:=by omega
     first
     | exact on_of (n:=(vis Q).length) (c:=y2.2.2.2) hy2.nil (by rw [zn];omega)
     | (show (k:Int)<((trL F ((l2.drop i2).take n2)).length:Int);rw [t2,zn];exact d2)
     | (show (k:Int).toNat+0<y2.2.2.1.length;omega)
     | (show ((a:Int)+(k:Int)).toNat+0<(mrI P Q a k).length;rw [lR];omega)
     | (simp only [t1,t2,zn];rw [ek];show (a:Int)+(k:Int)<((P.length+Q.length - 1:Nat):Int);omega)
     | (rw [zh,lR];show ((a:Int)+(k:Int)).toNat+0<_;omega)
     | exact inR64 (n:=(k:Int)+1) (by omega) (by omega)
     | (refine Stands.one ((a,k+1):Nat×Nat) ⟨⟨z1,by show k+1≤Q.length;omega⟩,by show Q.length - (k+1)<Q.length - k;omega,?_⟩
        ((conv=>arg 1;reduce);with_reducible repeat' first | exact ty | refine ta ?_ ?_ | refine ti fun _ => ?_ | refine tf fun _ => ?_ | refine tl ?_)
        all_goals first
         | exact vlf
         | exact e2
         | (have eq2:y2.2.2.1.getD ((k:Int).toNat+0) 0=vi (cf Q k):=by rw [zu,za k,hy2.at (by rw [zn];omega),vis_getD]
            have es:((a:Int)+(k:Int)).toNat+0=a+k:=by omega
            show mrI P Q a (k+1)=(mrI P Q a k).set (((a:Int)+(k:Int)).toNat+0) (ibit .xor .i64 ((mrI P Q a k).getD (((a:Int)+(k:Int)).toNat+0) 0) (muI F (y1.2.2.1.getD ((a:Int).toNat+0) 0) (y2.2.2.1.getD ((k:Int).toNat+0) 0)))
            have e2:y1.2.2.1.getD ((a:Int).toNat+0) 0=vi (cf P a):=e2
            rw [e2,eq2,es,mrI_set])
         | (have eq2:y2.2.2.1.getD ((k:Int).toNat+0) 0=vi (cf Q k):=by rw [zu,za k,hy2.at (by rw [zn];omega),vis_getD]
            have es:((a:Int)+(k:Int)).toNat+0=a+k:=by omega
            show mrI P Q a (k+1)=(mrI P Q a k).set (((a:Int)+(k:Int)).toNat+0) (ibit .xor .i64 ((mrI P Q a k).getD (((a:Int)+(k:Int)).toNat+0) 0) (muI F (vi (cf P a)) (y2.2.2.1.getD ((k:Int).toNat+0) 0)))
            rw [eq2,es,mrI_set])))
  | (have d2:¬ (k:Int)<(Q.length:Int):=nf d2
     obtain rfl:k=Q.length:=by omega
     first
     | exact inR64 (n:=(a:Int)+1) (by omega) (by omega)
     | (refine Stands.one (a+1:Nat) ⟨by show a+1≤P.length;omega,by show P.length - (a+1)<P.length - a;omega,?_⟩
        ((conv=>arg 1;reduce);with_reducible repeat' first | exact ty | refine ta ?_ ?_ | refine ti fun _ => ?_ | refine tf fun _ => ?_ | refine tl ?_)
        all_goals first | exact vlf | (show mcI P Q (a+1)=mrI P Q a Q.length;exact mrI_all.symm) | (show mrI P Q a Q.length=mcI P Q (a+1);exact mrI_all))))
 · rename_i y1 hy1 y2 hy2 d0 d1 b a ha d
   have hy1:Ow (vis P) y1:=t1 ▸ hy1
   have hy2:Ow (vis Q) y2:=t2 ▸ hy2
   change Nat at a
   have ha:a≤P.length:=ha
   simp only [t1,zn] at d
   have d:¬ (a:Int)<(P.length:Int):=nf d
   obtain rfl:a=P.length:=by omega
   have ek:((P.length:Int)+(Q.length:Int) - 1).toNat=P.length+Q.length - 1:=by omega
   have lC':=lC P.length
   have e9:((mcI P Q P.length).drop 0).take (P.length+Q.length - 1)=vis (mlC P Q P.length):=by
    rw [zm,zc (by rw [lC'];exact zw _)]
    unfold mcI;rfl
   simp only [t1,t2,zn]
   rw [ek]
   exact ⟨by show 0+(P.length+Q.length - 1)≤(mcI P Q P.length).length;omega,by show P.length+Q.length - 1<1000000000;omega,(fun h=>nomatch h)⟩
 · rename_i y1 hy1 y2 hy2 d0 d1 b a ha d y3 hy3
   have hy1:Ow (vis P) y1:=t1 ▸ hy1
   have hy2:Ow (vis Q) y2:=t2 ▸ hy2
   change Nat at a
   have ha:a≤P.length:=ha
   simp only [t1,zn] at d
   have d:¬ (a:Int)<(P.length:Int):=nf d
   obtain rfl:a=P.length:=by omega
   have ek:((P.length:Int)+(Q.length:Int) - 1).toNat=P.length+Q.length - 1:=by omega
   have lC':=lC P.length
   have e9:((mcI P Q P.length).drop 0).take (P.length+Q.length - 1)=vis (mlC P Q P.length):=by
    rw [zm,zc (by rw [lC'];exact zw _)]
    unfold mcI;rfl
   simp only [t1,t2,zn] at hy3
   rw [ek] at hy3
   have hy3:Ow (trL F (((mcI P Q P.length).drop 0).take (P.length+Q.length - 1))) y3:=hy3
   rw [e9,trL_els] at hy3
   refine Ends.one y3 hy3 ?_
   ((conv=>arg 1;reduce);with_reducible repeat' first | exact ty | refine ta ?_ ?_ | refine ti fun _ => ?_ | refine tf fun _ => ?_ | refine tl ?_)
   all_goals first
    | exact vlf
    | (simp only [t1,t2,zn];rw [ek,e9,trL_els,zn])
    | (simp only [t1,t2,zn];rw [ek,e9,trL_els])
end
end
end Go.Vx
namespace Go.Vx
open Go Go.Proofs
noncomputable section
variable [Gl]
section
variable (F:Gf)
def fcRMul:Fc Tryz.prog C0 where
 tg:=.fn 102
 X:=Rf'×Sl3
 args:=fun ((bR,qR,bF,qF,be,qe,bl,ql,o,b,q,l,i,n,c),(o2,b2,q2,l2,i2,n2,c2))=>[.ptr 0 0 0,.sl 4 i n c,.sl 5 i2 n2 c2]
 mem:=fun ((bR,qR,bF,qF,be,qe,bl,ql,o,b,q,l,i,n,c),(o2,b2,q2,l2,i2,n2,c2))=>ringC F bR qR bF qF be qe bl ql ++ [⟨b,q,1,false,some o,.rows 3 l⟩,⟨b2,q2,1,false,some o2,.rows 3 l2⟩]
 pre:=fun ((bR,qR,bF,qF,be,qe,bl,ql,o,b,q,l,i,n,c),(o2,b2,q2,l2,i2,n2,c2))=>(i+n≤l.length∧n<1000000000∧(o=false→n=0∧c=0))∧(i2+n2≤l2.length∧n2<1000000000∧(o2=false→n2=0∧c2=0))∧
  1≤(trim (els F ((l.drop i).take n))).length∧1≤(trim (els F ((l2.drop i2).take n2))).length∧(trim (els F ((l.drop i).take n))).length+(trim (els F ((l2.drop i2).take n2))).length≤2048
 alts:=fun ((bR,qR,bF,qF,be,qe,bl,ql,o,b,q,l,i,n,c),(o2,b2,q2,l2,i2,n2,c2))=>
  [⟨Os,fun y=>Ow (vis (trim (mlC (trim (els F ((l.drop i).take n))) (trim (els F ((l2.drop i2).take n2))) (trim (els F ((l.drop i).take n))).length))) y,fun y=>.tup [.sl 6 0 (vis (trim (mlC (trim (els F ((l.drop i).take n))) (trim (els F ((l2.drop i2).take n2))) (trim (els F ((l.drop i).take n))).length))).length y.2.2.2,.nili],
    fun y=>ringC F bR qR bF qF be qe bl ql ++ [⟨b,q,1,false,some o,.rows 3 l⟩,⟨b2,q2,1,false,some o2,.rows 3 l2⟩,osC true y]⟩]
 mat vs m:=match vs with
  | [.ptr r _ _,.sl s i n c,.sl s2 i2 n2 c2]=>match nth m r with
    | ⟨bR,qR,_,_,_,.one (.ptr f _ _ :: _)⟩=>match nth m f with
      | ⟨bF,qF,_,_,_,.one (_ :: _ :: .sl e _ _ _ :: .sl g _ _ _ :: _)⟩=>match nth m e,nth m g,nth m s,nth m s2 with
        | ⟨be,qe,_,_,_,_⟩,⟨bl,ql,_,_,_,_⟩,⟨b,q,_,_,z,.rows 3 l⟩,⟨b2,q2,_,_,z2,.rows 3 l2⟩=>some (((bR,qR,bF,qF,be,qe,bl,ql,onOf z,b,q,l,i,n,c),(onOf z2,b2,q2,l2,i2,n2,c2)),[r,f,e,g,s,s2])
        | _,_,_,_=>none
      | _=>none
    | _=>none
  | _=>none
 ok:=fun ((bR,qR,bF,qF,be,qe,bl,ql,o,b,q,l,i,n,c),(o2,b2,q2,l2,i2,n2,c2)) h=>
  rmul_ok F bR qR bF qF be qe bl ql o b q l i n c o2 b2 q2 l2 i2 n2 c2 h.1.1 h.1.2.1 h.1.2.2 h.2.1.1 h.2.1.2.1 h.2.1.2.2 _ _ rfl rfl h.2.2.1 h.2.2.2.1 h.2.2.2.2
theorem el_one:el F 1=Fd.un:=El.ext (by
 show lw F.m ((1:Nat):Int)=1
 exact lw_nat (ug (by have:=F.m3;omega)))
theorem els_row (k:Nat):trim (els F [vi (ex F k),1])=[ex F k,Fd.un]:=by
 show trim [el F (vi (ex F k)),el F 1]=_
 rw [el_vi,el_one]
 exact trim_id (n:=1) rfl (by show (Fd.un:El F)≠Fd.zr;exact Fd.ne)
def rwX (ks:List Int) (R:List (Rw Int)):Prop:=∀ j,j<ks.length→(R.getD j Rw.nil).on=true∧(R.getD j Rw.nil).l=[vi (ex F (ks.getD j 0).toNat),1]
def Fd3 (ks:List Int):Inv' C0:=⟨3,Nat×Os,fun x=>[(11,.int .i64 (x.1:Int)),(5,.sl 5 0 (x.1+1) x.2.2.2.2),(8,.junk)],fun x m=>match m with
 | [a0,a1,a2,a3,a4,a5]=>[a0,a1,a2,a3,a4,osC true x.2]
 | m=>m,fun x=>x.1≤ks.length∧Ow (vis (fdE F (ks.take x.1))) x.2,fun x=>ks.length - x.1⟩
set_option maxHeartbeats 4000000 in
theorem fold_ok (bR qR bF qF be qe bl ql:Nat) (o:Bool) (b q:Nat) (R:List (Rw Int)) (n c:Nat) (h:n≤R.length) (ho:o=false→n=0∧c=0) (ks:List Int) (hk:ks.length=n) (hn:n≤1000) (hR:rwX F ks R):
 Does (C:=C0) Tryz.prog (.fn 101) (ringC F bR qR bF qF be qe bl ql ++ [⟨b,q,1,false,some o,.rows 33 R⟩]) [.sl 4 0 n c,.fn (.func 102) [.ptr 0 0 0] []]
  [⟨Os,fun y=>Ow (vis (fdE F ks)) y,fun y=>.sl 5 0 (n+1) y.2.2.2,fun y=>ringC F bR qR bF qF be qe bl ql ++ [⟨b,q,1,false,some o,.rows 33 R⟩,osC true y]⟩]:=by
 refine loc_fn (P:=Tryz.prog) (E:=⟨[fcRMul F],[],24,[],[rdI],[],none⟩) (L:=[Fd3 F ks]) mix Tryz.func101 rfl (by kernel_rfl) (by kernel_rfl) rfl rfl ?_
 ((conv=>arg 1;reduce);with_reducible repeat' first | exact ty | refine ta ?_ ?_ | refine ti fun _ => ?_ | refine tf fun _ => ?_ | refine tl ?_)
 all_goals try exact vlf
 · rename_i g1
   refine Stands.one ((0,(true,g1,[1],1)):Nat×Os) ⟨⟨zg _,⟨rfl,zw _,zw _,(fun h=>nomatch h)⟩⟩,?_⟩
   exact vgo
 iterate 4 (focus
  rename_i g1 x hx d
  change Nat×Os at x
  obtain ⟨j,y⟩:=x
  obtain ⟨k1,k2⟩:j≤ks.length∧Ow (vis (fdE F (ks.take j))) y:=hx
  have lE:(vis (fdE F (ks.take j))).length=j+1:=by rw [zn,(fdE_facts _).1,ze,xa k1]
  have v1:=k2.cap
  have v2:=k2.len
  have eL:y.2.2.1.take (j+1)=vis (fdE F (ks.take j)):=by rw [← lE];exact k2.eq
  have d:(j:Int)<(n:Int):=ng d
  first
  | exact on_of ho (by omega)
  | exact d
  | (show (j:Int).toNat+0<R.length;omega))
 · rename_i g1 x hx d r hr
   change Nat×Os at x
   obtain ⟨j,y⟩:=x
   obtain ⟨k1,k2⟩:j≤ks.length∧Ow (vis (fdE F (ks.take j))) y:=hx
   have lE:(vis (fdE F (ks.take j))).length=j+1:=by rw [zn,(fdE_facts _).1,ze,xa k1]
   have v1:=k2.cap
   have v2:=k2.len
   have eL:y.2.2.1.take (j+1)=vis (fdE F (ks.take j)):=by rw [← lE];exact k2.eq
   have d:(j:Int)<(n:Int):=ng d
   change Rw Int at r
   have hr:R.getD ((j:Int).toNat+0) Rw.nil=r:=hr
   rw [zu,za j] at hr
   obtain ⟨r1,r2⟩:=hR j (by omega)
   rw [hr] at r1 r2
   have w1:trim (els F ((y.2.2.1.drop 0).take (j+1)))=fdE F (ks.take j):=by rw [zm,eL,els_vis,fdE_trim]
   have w2:trim (els F ((r.l.drop 0).take r.l.length))=[ex F (ks.getD j 0).toNat,Fd.un]:=by rw [zm,xb,r2,els_row]
   have w3:(fdE F (ks.take j)).length=j+1:=by rw [(fdE_facts _).1,ze,xa k1]
   refine ⟨⟨by show 0+(j+1)≤y.2.2.1.length;omega,by show j+1<1000000000;omega,?_⟩,⟨by show 0+r.l.length≤r.l.length;omega,by show r.l.length<1000000000;rw [r2];show 2<_;omega,?_⟩,?_,?_,?_⟩
   · intro h0;have:=k2.nil h0;omega
   · intro h0
     have h0:r.on=false:=h0
     rw [r1] at h0
     cases h0
   · show 1≤(trim (els F ((y.2.2.1.drop 0).take (j+1)))).length;rw [w1,w3];omega
   · show 1≤(trim (els F ((r.l.drop 0).take r.l.length))).length;rw [w2];show 1≤2;omega
   · show (trim (els F ((y.2.2.1.drop 0).take (j+1)))).length+(trim (els F ((r.l.drop 0).take r.l.length))).length≤2048
     rw [w1,w2,w3];show j+1+2≤2048;omega
 iterate 2 (focus
  rename_i g1 x hx d r hr y3 hy3
  change Nat×Os at x
  obtain ⟨j,y⟩:=x
  obtain ⟨k1,k2⟩:j≤ks.length∧Ow (vis (fdE F (ks.take j))) y:=hx
  have lE:(vis (fdE F (ks.take j))).length=j+1:=by rw [zn,(fdE_facts _).1,ze,xa k1]
  have v1:=k2.cap
  have v2:=k2.len
  have eL:y.2.2.1.take (j+1)=vis (fdE F (ks.take j)):=by rw [← lE];exact k2.eq
  have d:(j:Int)<(n:Int):=ng d
  change Rw Int at r
  have hr:R.getD ((j:Int).toNat+0) Rw.nil=r:=hr
  rw [zu,za j] at hr
  obtain ⟨r1,r2⟩:=hR j (by omega)
  rw [hr] at r1 r2
  have w1:trim (els F ((y.2.2.1.drop 0).take (j+1)))=fdE F (ks.take j):=by rw [zm,eL,els_vis,fdE_trim]
  have w2:trim (els F ((r.l.drop 0).take r.l.length))=[ex F (ks.getD j 0).toNat,Fd.un]:=by rw [zm,xb,r2,els_row]
  have w3:(fdE F (ks.take j)).length=j+1:=by rw [(fdE_facts _).1,ze,xa k1]
  have w4:trim (mlC (fdE F (ks.take j)) [ex F (ks.getD j 0).toNat,Fd.un] (fdE F (ks.take j)).length)=fdE F (ks.take (j+1)):=by
   rw [← fdE_snoc,take_snoc (d:=0) (by omega),fdE_trim]
  have hy3:Ow (vis (trim (mlC (trim (els F ((y.2.2.1.drop 0).take (j+1)))) (trim (els F ((r.l.drop 0).take r.l.length))) (trim (els F ((y.2.2.1.drop 0).take (j+1)))).length))) y3:=hy3
  rw [w1,w2,w4] at hy3
  have lE':(vis (fdE F (ks.take (j+1)))).length=j+1+1:=by rw [zn,(fdE_facts _).1,ze,xa (by omega)]
  first
  | exact inR64 (n:=(j:Int)+1) (by omega) (by omega)
  | (refine Stands.one ((j+1,y3):Nat×Os) ⟨⟨by show j+1≤ks.length;omega,hy3⟩,by show ks.length - (j+1)<ks.length - j;omega,?_⟩
     ((conv=>arg 1;reduce);with_reducible repeat' first | exact ty | refine ta ?_ ?_ | refine ti fun _ => ?_ | refine tf fun _ => ?_ | refine tl ?_)
     all_goals first
      | exact vlf
      | (show (vis (trim (mlC (trim (els F ((y.2.2.1.drop 0).take (j+1)))) (trim (els F ((r.l.drop 0).take r.l.length))) (trim (els F ((y.2.2.1.drop 0).take (j+1)))).length))).length=j+1+1;rw [w1,w2,w4,lE'])
      | (show j+1+1=(vis (trim (mlC (trim (els F ((y.2.2.1.drop 0).take (j+1)))) (trim (els F ((r.l.drop 0).take r.l.length))) (trim (els F ((y.2.2.1.drop 0).take (j+1)))).length))).length;rw [w1,w2,w4,lE'])))
 · rename_i g1 x hx d
   change Nat×Os at x
   obtain ⟨j,y⟩:=x
   obtain ⟨k1,k2⟩:j≤ks.length∧Ow (vis (fdE F (ks.take j))) y:=hx
   have lE:(vis (fdE F (ks.take j))).length=j+1:=by rw [zn,(fdE_facts _).1,ze,xa k1]
   have v1:=k2.cap
   have v2:=k2.len
   have eL:y.2.2.1.take (j+1)=vis (fdE F (ks.take j)):=by rw [← lE];exact k2.eq
   have d:¬ (j:Int)<(n:Int):=nf d
   obtain rfl:j=ks.length:=by omega
   rw [xb] at k2
   refine Ends.one y k2 ?_
   ((conv=>arg 1;reduce);with_reducible repeat' first | exact ty | refine ta ?_ ?_ | refine ti fun _ => ?_ | refine tf fun _ => ?_ | refine tl ?_)
   all_goals first | exact vlf | (rw [hk]) | exact congrArg (· + 1) hk
def fcFold (ks:List Int):Fc Tryz.prog C0 where
 tg:=.fn 101
 X:=Nat×Nat×Nat×Nat×Nat×Nat×Nat×Nat×Bool×Nat×Nat×List (Rw Int)×Nat×Nat
 args:=fun (bR,qR,bF,qF,be,qe,bl,ql,o,b,q,R,n,c)=>[.sl 4 0 n c,.fn (.func 102) [.ptr 0 0 0] []]
 mem:=fun (bR,qR,bF,qF,be,qe,bl,ql,o,b,q,R,n,c)=>ringC F bR qR bF qF be qe bl ql ++ [⟨b,q,1,false,some o,.rows 33 R⟩]
 pre:=fun (bR,qR,bF,qF,be,qe,bl,ql,o,b,q,R,n,c)=>n≤R.length∧(o=false→n=0∧c=0)∧ks.length=n∧n≤1000∧rwX F ks R
 alts:=fun (bR,qR,bF,qF,be,qe,bl,ql,o,b,q,R,n,c)=>[⟨Os,fun y=>Ow (vis (fdE F ks)) y,fun y=>.sl 5 0 (n+1) y.2.2.2,fun y=>ringC F bR qR bF qF be qe bl ql ++ [⟨b,q,1,false,some o,.rows 33 R⟩,osC true y]⟩]
 mat vs m:=match vs with
  | [.sl s _ n c,.fn _ [.ptr r _ _] _]=>match nth m r with
    | ⟨bR,qR,_,_,_,.one (.ptr f _ _ :: _)⟩=>match nth m f with
      | ⟨bF,qF,_,_,_,.one (_ :: _ :: .sl e _ _ _ :: .sl g _ _ _ :: _)⟩=>match nth m e,nth m g,nth m s with
        | ⟨be,qe,_,_,_,_⟩,⟨bl,ql,_,_,_,_⟩,⟨b,q,_,_,z,.rows 33 R⟩=>some ((bR,qR,bF,qF,be,qe,bl,ql,onOf z,b,q,R,n,c),[r,f,e,g,s])
        | _,_,_=>none
      | _=>none
    | _=>none
  | _=>none
 ok:=fun (bR,qR,bF,qF,be,qe,bl,ql,o,b,q,R,n,c) h=>fold_ok F bR qR bF qF be qe bl ql o b q R n c h.1 h.2.1 ks h.2.2.1 h.2.2.2.1 h.2.2.2.2
end
end
end Go.Vx
namespace Go.Vx
open Go Go.Proofs
noncomputable section
theorem byT_or {K N j y:Nat} (hj:j<K) (hy:y<256):(byT K N).set j (ibit .or .u8 ((byT K N).getD j 0) (y:Int))=byT K (N ||| (y <<< (8*j))):=by
 rw [byT_eq,byT_eq]
 obtain ⟨x,hx,x1,x2⟩:=by_at (b:=N.testBit) hj
 rw [hx,or8 x1 hy]
 refine by_set hj (Nat.or_lt_two_pow (n:=8) x1 hy) fun k hk => ?_
 rw [tb_or,vr]
 by_cases h:k / 8=j
 · rw [if_pos h,tb_or,x2 _ (yv _ (by omega)),show 8*j+k % 8=k by omega,show decide (8*j≤k)=true from decide_eq_true (by omega),zd,show k - 8*j=k % 8 by omega]
 · rw [if_neg h]
   by_cases h2:8*j≤k
   · have:y.testBit (k - 8*j)=false:=Nat.testBit_lt_two_pow (zk hy (show 2 ^ 8≤_ from zj (by omega) (by omega)))
     rw [this,Bool.and_false,sr]
   · rw [decide_eq_false (by omega),yf,sr]
theorem bn_snoc (f:Nat→Bool) (j:Nat):bn (j+1) f=bn j f ||| ((f j).toNat <<< j):=by
 refine Nat.eq_of_testBit_eq fun k => ?_
 rw [tb_or,bn_bit,bn_bit,vr]
 have ht:∀ (b:Bool) (n:Nat),b.toNat.testBit n=(decide (n=0) && b):=fun b n=>by
  cases b
  · simp
  · cases n with
    | zero=>rfl
    | succ n=>rw [wy];simp
 rw [ht]
 by_cases h:k<j
 · rw [decide_eq_true h,decide_eq_true (show k<j+1 by omega),decide_eq_false (show ¬ j≤k by omega)];simp
 · by_cases h2:k=j
   · subst h2;simp
   · rw [decide_eq_false h,decide_eq_false (show ¬ k<j+1 by omega),decide_eq_false (show ¬ k - j=0 by omega)];simp
section
variable {F:Gf}
@[irreducible] def mpJ (F:Gf) (l:List Int) (j:Nat):Nat:=bn j fun k=>decide (cf (fdE F l) k=Fd.un)
theorem mpJ_all (l:List Int):mpJ F l (l.length+1)=mpN F l:=by unfold mpJ mpN;rfl
theorem mpJ_zero (l:List Int):mpJ F l 0=0:=by unfold mpJ;rfl
theorem mpJ_step {l:List Int} {K j:Nat} (hj:j / 8<K) (h:cf (fdE F l) j=Fd.zr∨cf (fdE F l) j=Fd.un):(byT K (mpJ F l j)).set (j / 8) (ibit .or .u8 ((byT K (mpJ F l j)).getD (j / 8) 0) (ishl .u8 (vi (cf (fdE F l) j)) ((j % 8:Nat):Int)))=byT K (mpJ F l (j+1)):=by
 have e:∃ b:Bool,vi (cf (fdE F l) j)=((b.toNat:Nat):Int)∧decide (cf (fdE F l) j=Fd.un)=b:=by
  rcases h with h | h
  · exact ⟨false,by rw [h];rfl,by rw [h];exact decide_eq_false fun e=>Fd.ne e.symm⟩
  · exact ⟨true,by rw [h];rfl,by rw [h];exact decide_eq_true rfl⟩
 obtain ⟨b,e1,e2⟩:=e
 have hb:=ul b
 have hp:2 ^ (j % 8)≤2 ^ 7:=zj (by omega) (by omega)
 have h8:b.toNat*2 ^ (j % 8)<256:=Nat.lt_of_le_of_lt (Nat.mul_le_mul hb hp) (by decide)
 rw [e1,shl8 _ _ (by omega),tb h8,byT_or hj h8]
 unfold mpJ
 rw [bn_snoc,e2,← Nat.shiftLeft_eq,← Nat.shiftLeft_add,show j % 8+8*(j / 8)=j by omega]
end
variable [Gl]
section
variable (F:Gf)
abbrev Fks:=Bool×Nat×Nat×List (Rw Int)×Nat
structure Fkw (ks:List Int) (j:Nat) (y:Fks):Prop where
 rw:rwX F (ks.take j) y.2.2.2.1
 cap:j≤y.2.2.2.2
 len:y.2.2.2.2≤y.2.2.2.1.length
 nil:y.1=false→j=0∧y.2.2.2.2=0
abbrev fkC (wr:Bool) (y:Fks):Ck C0:=⟨y.2.1,y.2.2.1,1,wr,some y.1,.rows 33 y.2.2.2.1⟩
def Of4 (ks:List Int):Inv' C0:=⟨4,Nat×Fks,fun x=>[(22,.int .i64 (x.1:Int)),(7,.sl 4 0 x.1 x.2.2.2.2.2)],fun x m=>match m with
 | a0 :: a1 :: a2 :: a3 :: _=>[a0,a1,a2,a3,fkC true x.2]
 | m=>m,fun x=>x.1≤ks.length∧Fkw F ks x.1 x.2,fun x=>ks.length - x.1⟩
def Of10 (ks:List Int):Inv' C0:=⟨10,Nat,fun j=>[(45,.int .i64 (j:Int))],fun j m=>match m with
 | [a0,a1,a2,a3,a4,p,a6,a7]=>[a0,a1,a2,a3,a4,⟨p.block,p.base,1,true,none,.rows 5 (byT (ks.length / 8+1) (mpJ F ks j))⟩,a6,a7]
 | m=>m,fun j=>j≤ks.length+1,fun j=>ks.length+1 - j⟩
set_option maxHeartbeats 4000000 in
theorem mof_ok (bF qF be qe bl ql:Nat) (i:Nat) (hi:i<1000000000) (ks:List Int) (hk:cosV F.m i=ks) (hl:ks.length≤14) (hb:∀ x∈fdE F ks,x=Fd.zr∨x=Fd.un):
 Does (C:=C0) Tryz.prog (.fn 78) [fld F bF qF,xCk F be qe,lCk F bl ql] [.ptr 0 0 0,.int .i64 (i:Int)]
  [⟨Nat,fun _=>True,fun _=>.sl 3 0 (ks.length / 8+1) (ks.length / 8+1),fun y=>[fld F bF qF,xCk F be qe,lCk F bl ql,⟨y,0,1,true,none,.rows 5 (byT (ks.length / 8+1) (mpN F ks))⟩]⟩]:=by
 have hki:cosV F.m (i:Int).toNat=ks:=by rw [zu];exact hk
 have by33:Tryz.prog.types[33].bytes=24:=by kernel_rfl
 have by5:(Tryz.prog.types[5].bytes:Int)=1:=by kernel_rfl
 have hm:=F.m3
 have ht14:2 ^ F.m≤2 ^ 14:=zj (by omega) F.m14
 have kl:∀ j,j<ks.length→0≤ks.getD j 0∧ks.getD j 0<16384:=fun j hj=>by
  have:=cosV_lt (m:=F.m) (i:=i) (by omega) (ks.getD j 0) (by rw [hk];exact getD_mem hj)
  omega
 have eq8:(ks.length:Int).tdiv 8=((ks.length / 8:Nat):Int):=(yj _ 8).symm
 refine loc_fn (P:=Tryz.prog) (E:=⟨[fcCoset F,fcRing,fcFold F ks],[pcM,pcExp F],64,[(12,[],[.p 0,.p 1,.p 2,.p 3,.p 5,.p 6,.p 7,.p 8,.p 9,.q 4,.p 10,.p 11,.e 12])],[rdI],[mkI],none⟩) (L:=[Of4 F ks,Of10 F ks]) mix Tryz.func78 rfl (by kernel_rfl) (by kernel_rfl) rfl rfl ?_
 ((conv=>arg 1;reduce);with_reducible repeat' first | exact ty | refine ta ?_ ?_ | refine ti fun _ => ?_ | refine tf fun _ => ?_ | refine tl ?_)
 all_goals try exact vlf
 · exact ⟨Int.natCast_nonneg i,by omega⟩
 · rename_i c hc
   refine Stands.one ((0,(false,0,0,[],0)):Nat×Fks) ⟨⟨zg _,⟨fun j hj=>absurd hj (by simp),zw _,zw _,fun _=>⟨rfl,rfl⟩⟩⟩,?_⟩
   exact vgo
 iterate 5 (focus
  rename_i c hc x hx d
  have hc:Oqw ks c:=hki ▸ hc
  have v1:=hc.cap
  have v2:=hc.len
  change Nat×Fks at x
  obtain ⟨j,y⟩:=x
  obtain ⟨k1,k2⟩:j≤ks.length∧Fkw F ks j y:=hx
  have c1:=k2.cap
  have c2:=k2.len
  rw [hki] at d
  have d:(j:Int)<(ks.length:Int):=ng d
  have eC:c.2.2.2.1.getD ((j:Int).toNat+0) 0=ks.getD j 0:=by rw [zu,za j];exact hc.at (by omega)
  have kj:=kl j (by omega)
  first
  | exact on_of hc.nil (by omega)
  | (show (j:Int)<((cosV F.m (i:Int).toNat).length:Int);rw [hki];exact d)
  | (show (j:Int).toNat+0<c.2.2.2.1.length;omega)
  | (show -4611686018427387904≤c.2.2.2.1.getD ((j:Int).toNat+0) 0∧c.2.2.2.1.getD ((j:Int).toNat+0) 0≤4611686018427387904;rw [eC];omega))
 · show 0+2≤2
   omega
 iterate 2 (focus
  rename_i c hc x hx d g1 g2
  have hc:Oqw ks c:=hki ▸ hc
  have v1:=hc.cap
  have v2:=hc.len
  change Nat×Fks at x
  obtain ⟨j,y⟩:=x
  obtain ⟨k1,k2⟩:j≤ks.length∧Fkw F ks j y:=hx
  have c1:=k2.cap
  have c2:=k2.len
  rw [hki] at d
  have d:(j:Int)<(ks.length:Int):=ng d
  have eC:c.2.2.2.1.getD ((j:Int).toNat+0) 0=ks.getD j 0:=by rw [zu,za j];exact hc.at (by omega)
  have kj:=kl j (by omega)
  first
  | exact k2.nil
  | (rw [by33];exact ⟨c1,by show 0+y.2.2.2.2≤y.2.2.2.1.length;omega,zw _,by show (j+1)*24≤_;omega⟩))
 iterate 2 (focus
  rename_i c hc x hx d g1 g2 g3 g4 sp k h1 h2
  change List (Rw Int) at sp
  have hc:Oqw ks c:=hki ▸ hc
  have v1:=hc.cap
  have v2:=hc.len
  change Nat×Fks at x
  obtain ⟨j,y⟩:=x
  obtain ⟨k1,k2⟩:j≤ks.length∧Fkw F ks j y:=hx
  have c1:=k2.cap
  have c2:=k2.len
  rw [hki] at d
  have d:(j:Int)<(ks.length:Int):=ng d
  have eC:c.2.2.2.1.getD ((j:Int).toNat+0) 0=ks.getD j 0:=by rw [zu,za j];exact hc.at (by omega)
  have kj:=kl j (by omega)
  have h1:j+1≤k:=h1
  have h2:k≤j+1+sp.length:=h2
  have eX:vi (exF F (c.2.2.2.1.getD ((j:Int).toNat+0) 0))=vi (ex F (ks.getD j 0).toNat):=by
   rw [eC]
   obtain ⟨u,hu⟩:=yh kj.1
   rw [hu,exF_nat]
   rfl
  have tl':(y.2.2.2.1.take j).length=j:=by rw [ze];omega
  first
  | exact inR64 (n:=(j:Int)+1) (by omega) (by omega)
  | (refine Stands.one ((j+1,(true,g3,g4,y.2.2.2.1.take j ++ [⟨true,g1,0,2,[vi (exF F (c.2.2.2.1.getD ((j:Int).toNat+0) 0)),1]⟩] ++ sp,k)):Nat×Fks) ⟨⟨by show j+1≤ks.length;omega,⟨fun u hu => ?_,h1,?_,fun h=>nomatch h⟩⟩,by show ks.length - (j+1)<ks.length - j;omega,?_⟩
     · rw [ze,xa (by omega)] at hu
       have e1:(ks.take (j+1)).getD u 0=ks.getD u 0:=tk_get hu
       rw [e1]
       show ((y.2.2.2.1.take j ++ [_] ++ sp).getD u Rw.nil).on=true∧((y.2.2.2.1.take j ++ [_] ++ sp).getD u Rw.nil).l=_
       by_cases hj:u=j
       · subst hj
         have e2:∀ r:Rw Int,(y.2.2.2.1.take u ++ [r] ++ sp).getD u Rw.nil=r:=fun r=>by
          rw [vx,zy,xr (by omega),tl',qo]
          rfl
         rw [e2,eX]
         exact ⟨rfl,rfl⟩
       · have e2:∀ r:Rw Int,(y.2.2.2.1.take j ++ [r] ++ sp).getD u Rw.nil=y.2.2.2.1.getD u Rw.nil:=fun r=>by
          rw [vx,zy,yx (by omega),yn (by omega),zy]
         rw [e2]
         have e3:(ks.take j).getD u 0=ks.getD u 0:=tk_get (by omega)
         rw [← e3]
         exact k2.rw u (by rw [ze];omega)
     · show k≤(y.2.2.2.1.take j ++ [_] ++ sp).length
       simp only [zx,tl',xy,ur]
       omega
     exact vgo))
 iterate 3 (focus
  rename_i c hc x hx d
  have hc:Oqw ks c:=hki ▸ hc
  have v1:=hc.cap
  have v2:=hc.len
  change Nat×Fks at x
  obtain ⟨j,y⟩:=x
  obtain ⟨k1,k2⟩:j≤ks.length∧Fkw F ks j y:=hx
  have c1:=k2.cap
  have c2:=k2.len
  rw [hki] at d
  have d:¬ (j:Int)<(ks.length:Int):=nf d
  obtain rfl:j=ks.length:=by omega
  rw [hki,eq8]
  first
  | exact inR64 (n:=((ks.length / 8:Nat):Int)) (by omega) (by omega)
  | exact inR64 (n:=((ks.length / 8:Nat):Int)+1) (by omega) (by omega)
  | (rw [by5];omega))
 · rename_i c hc x hx d p rg hrg
   have hc:Oqw ks c:=hki ▸ hc
   have v1:=hc.cap
   have v2:=hc.len
   change Nat×Fks at x
   obtain ⟨j,y⟩:=x
   obtain ⟨k1,k2⟩:j≤ks.length∧Fkw F ks j y:=hx
   have c1:=k2.cap
   have c2:=k2.len
   rw [hki] at d
   have d:¬ (j:Int)<(ks.length:Int):=nf d
   obtain rfl:j=ks.length:=by omega
   refine ⟨by show ks.length≤y.2.2.2.1.length;omega,k2.nil,rfl,by omega,?_⟩
   have:=k2.rw
   rwa [xb] at this
 · rename_i c hc x hx d p rg hrg y3 hy3
   have hc:Oqw ks c:=hki ▸ hc
   have v1:=hc.cap
   have v2:=hc.len
   change Nat×Fks at x
   obtain ⟨j,y⟩:=x
   obtain ⟨k1,k2⟩:j≤ks.length∧Fkw F ks j y:=hx
   have c1:=k2.cap
   have c2:=k2.len
   rw [hki] at d
   have d:¬ (j:Int)<(ks.length:Int):=nf d
   obtain rfl:j=ks.length:=by omega
   have eK:((ks.length:Int).tdiv 8+1).toNat=ks.length / 8+1:=by rw [eq8];omega
   refine Stands.one (0:Nat) ⟨zg _,?_⟩
   ((conv=>arg 1;reduce);with_reducible repeat' first | exact ty | refine ta ?_ ?_ | refine ti fun _ => ?_ | refine tf fun _ => ?_ | refine tl ?_)
   all_goals first
    | exact vlf
    | (rw [hki,eK,mpJ_zero,byT_zero];rfl)
 all_goals try (
  rename_i c hc x hx d p rg hrg y3 hy3 a ha d2
  have hc:Oqw ks c:=hki ▸ hc
  have v1:=hc.cap
  have v2:=hc.len
  change Nat×Fks at x
  obtain ⟨j,y⟩:=x
  obtain ⟨k1,k2⟩:j≤ks.length∧Fkw F ks j y:=hx
  have c1:=k2.cap
  have c2:=k2.len
  rw [hki] at d
  have d:¬ (j:Int)<(ks.length:Int):=nf d
  obtain rfl:j=ks.length:=by omega
  change Nat at a
  have ha:a≤ks.length+1:=ha
  have hy3:Ow (vis (fdE F ks)) y3:=hy3
  have lE:(vis (fdE F ks)).length=ks.length+1:=by rw [zn,(fdE_facts _).1]
  have w1:=hy3.cap
  have w2:=hy3.len
  have a8:(a:Int).tdiv 8=((a / 8:Nat):Int):=(yj a 8).symm
  have m8:(a:Int).tmod 8=((a % 8:Nat):Int):=(zb a 8).symm
  have eK:((ks.length:Int).tdiv 8+1).toNat=ks.length / 8+1:=by rw [eq8];omega
  have d2:(a:Int)<((ks.length+1:Nat):Int):=ng d2
  have eV:y3.2.2.1.getD ((a:Int).toNat+0) 0=vi (cf (fdE F ks) a):=by rw [zu,za a,hy3.at (by omega),vis_getD]
  first
  | exact on_of (n:=(vis (fdE F ks)).length) (c:=y3.2.2.2) hy3.nil (by omega)
  | exact d2
  | (show (a:Int).toNat+0<y3.2.2.1.length;omega)
  | (rw [a8];exact inR64 (n:=((a / 8:Nat):Int)) (by omega) (by omega))
  | (show (0:Int)≤(a:Int).tdiv 8;rw [a8];omega)
  | (show (0:Int)≤(a:Int).tmod 8;rw [m8];omega)
  | (rw [hki,eK,a8];omega)
  | (rw [byT_len,a8];omega)
  | exact inR64 (n:=(a:Int)+1) (by omega) (by omega)
  | (refine Stands.one (a+1:Nat) ⟨by show a+1≤ks.length+1;omega,by show ks.length+1 - (a+1)<ks.length+1 - a;omega,?_⟩
     ((conv=>arg 1;reduce);with_reducible repeat' first | exact ty | refine ta ?_ ?_ | refine ti fun _ => ?_ | refine tf fun _ => ?_ | refine tl ?_)
     all_goals first
      | exact vlf
      | (show byT (ks.length / 8+1) (mpJ F ks (a+1))=(byT (ks.length / 8+1) (mpJ F ks a)).set (((a:Int).tdiv 8).toNat+0) (ibit .or .u8 ((byT (ks.length / 8+1) (mpJ F ks a)).getD (((a:Int).tdiv 8).toNat+0) 0) (ishl .u8 (IntKind.u8.wrap (y3.2.2.1.getD ((a:Int).toNat+0) 0)) ((a:Int).tmod 8)))
         have hcf:cf (fdE F ks) a=Fd.zr∨cf (fdE F ks) a=Fd.un:=hb _ (getD_mem (by rw [(fdE_facts _).1];omega))
         have hw:IntKind.u8.wrap (vi (cf (fdE F ks) a))=vi (cf (fdE F ks) a):=by
          rcases hcf with h | h
          · rw [h];rfl
          · rw [h];rfl
         rw [eV,hw,a8,m8,zu,za (a / 8)]
         exact (mpJ_step (by omega) hcf).symm)))
 · rename_i c hc x hx d p rg hrg y3 hy3 a ha d2
   have hc:Oqw ks c:=hki ▸ hc
   have v1:=hc.cap
   have v2:=hc.len
   change Nat×Fks at x
   obtain ⟨j,y⟩:=x
   obtain ⟨k1,k2⟩:j≤ks.length∧Fkw F ks j y:=hx
   have c1:=k2.cap
   have c2:=k2.len
   rw [hki] at d
   have d:¬ (j:Int)<(ks.length:Int):=nf d
   obtain rfl:j=ks.length:=by omega
   change Nat at a
   have ha:a≤ks.length+1:=ha
   have hy3:Ow (vis (fdE F ks)) y3:=hy3
   have lE:(vis (fdE F ks)).length=ks.length+1:=by rw [zn,(fdE_facts _).1]
   have w1:=hy3.cap
   have w2:=hy3.len
   have a8:(a:Int).tdiv 8=((a / 8:Nat):Int):=(yj a 8).symm
   have m8:(a:Int).tmod 8=((a % 8:Nat):Int):=(zb a 8).symm
   have eK:((ks.length:Int).tdiv 8+1).toNat=ks.length / 8+1:=by rw [eq8];omega
   have d2:¬ (a:Int)<((ks.length+1:Nat):Int):=nf d2
   obtain rfl:a=ks.length+1:=by omega
   refine Ends.one p trivial ?_
   ((conv=>arg 1;reduce);with_reducible repeat' first | exact ty | refine ta ?_ ?_ | refine ti fun _ => ?_ | refine tf fun _ => ?_ | refine tl ?_)
   all_goals first
    | exact vlf
    | (rw [hki,eK])
    | (rw [mpJ_all];rfl)
def fcMOf (K:Kd F):Fc Tryz.prog C0 where
 tg:=.fn 78
 X:=Nat×Nat×Nat×Nat×Nat×Nat×Int
 args:=fun (bF,qF,be,qe,bl,ql,i)=>[.ptr 0 0 0,.int .i64 i]
 mem:=fun (bF,qF,be,qe,bl,ql,i)=>[fld F bF qF,xCk F be qe,lCk F bl ql]
 pre:=fun (bF,qF,be,qe,bl,ql,i)=>i∈K.ld
 alts:=fun (bF,qF,be,qe,bl,ql,i)=>[⟨Nat,fun _=>True,fun _=>.sl 3 0 ((cosV F.m i.toNat).length / 8+1) ((cosV F.m i.toNat).length / 8+1),fun y=>[fld F bF qF,xCk F be qe,lCk F bl ql,⟨y,0,1,true,none,.rows 5 (byT ((cosV F.m i.toNat).length / 8+1) (mpN F (cosV F.m i.toNat)))⟩]⟩]
 mat vs m:=match vs with
  | [.ptr c _ _,.int _ i]=>match nth m c with
    | ⟨b,q,_,_,_,.one (_ :: _ :: .sl e _ _ _ :: .sl l _ _ _ :: _)⟩=>match nth m e,nth m l with
      | ⟨be,qe,_,_,_,_⟩,⟨bl,ql,_,_,_,_⟩=>some ((b,q,be,qe,bl,ql,i),[c,e,l])
    | _=>none
  | _=>none
 ok:=fun (bF,qF,be,qe,bl,ql,i) h=>by
  obtain ⟨h1,h2,h3⟩:=K.ln i h
  have hb:=K.bin i h
  obtain ⟨i,rfl⟩:=yh (show 0≤i by omega)
  have hm:2 ^ F.m≤2 ^ 14:=zj (by omega) F.m14
  exact mof_ok F bF qF be qe bl ql i (by rw [zu] at h3;omega) _ rfl h1 hb
end
end
end Go.Vx
namespace Go.Vx
open Go Go.Proofs
noncomputable section
theorem clm_zero (Q:Nat):clm 0 Q=0:=by unfold clm exL;rfl
theorem clm_bl (P Q:Nat):bl (clm P Q)≤bl P+bl Q:=bl_le.2 (by
 unfold clm
 exact clF_lt _ fun n hn=>by have:=exL_lt n hn;omega)
@[irreducible] def prJ (ms:List Nat) (j:Nat):Nat:=(ms.take j).foldl (fun g m=>clm g m) 1
theorem prJ_zero (ms:List Nat):prJ ms 0=1:=by unfold prJ;rfl
theorem prJ_succ {ms:List Nat} {j:Nat} (h:j<ms.length):prJ ms (j+1)=clm (prJ ms j) (ms.getD j 0):=by
 unfold prJ
 rw [List.take_add_one,uo]
 simp [List.getD,h]
theorem prJ_bl {ms:List Nat} (hb:∀ m∈ms,bl m≤15):∀ j,j≤ms.length→bl (prJ ms j)≤1+15*j
 | 0,_=>by rw [prJ_zero];exact (by decide:bl 1≤1)
 | j+1,h=>by
   rw [prJ_succ (by omega)]
   have h1:=clm_bl (prJ ms j) (ms.getD j 0)
   have h2:=prJ_bl hb j (by omega)
   have h3:=hb (ms.getD j 0) (by rw [zy,zt (show j<ms.length by omega)];exact xe _)
   omega
theorem prJ_ne {ms:List Nat} (h:prJ ms ms.length≠0):∀ d j,j+d=ms.length→prJ ms j≠0
 | 0,j,e=>by rw [show j=ms.length by omega];exact h
 | d+1,j,e=>fun h0=>prJ_ne h d (j+1) (by omega) (by rw [prJ_succ (by omega),h0,clm_zero])
theorem nb_one:nb 1=[1]:=by unfold nb;kernel_rfl
structure rwPj (m:Nat) (r:Rw Int):Prop where
 on:r.on=true
 byt:Byt8 r.l
 num:byN r.l=m
 cap:r.l.length≤r.m
 len:r.l.length≤1000
def rwP (ms:List Nat) (R:List (Rw Int)):Prop:=∀ j,j<ms.length→rwPj (ms.getD j 0) (R.getD j Rw.nil)
variable [Gl]
def fcPmul:Fc Tryz.prog C0 where
 tg:=.fn 80
 X:=Sb×Sb
 args:=fun ((o,b,q,l,i,n,c),(o2,b2,q2,l2,i2,n2,c2))=>[.sl 0 i n c,.sl 1 i2 n2 c2]
 mem:=fun ((o,b,q,l,i,n,c),(o2,b2,q2,l2,i2,n2,c2))=>[⟨b,q,1,false,some o,.rows 5 l⟩,⟨b2,q2,1,false,some o2,.rows 5 l2⟩]
 pre:=fun (s,s2)=>Sb.pre s∧Sb.pre s2∧byN s.lst≠0∧byN s2.lst≠0∧bl (byN s.lst)+bl (byN s2.lst)≤4098
 alts:=fun ((o,b,q,l,i,n,c),(o2,b2,q2,l2,i2,n2,c2))=>[⟨Os,fun y=>Ow (nb (clm (byN ((l.drop i).take n)) (byN ((l2.drop i2).take n2)))) y,fun y=>.tup [.sl 2 0 (nb (clm (byN ((l.drop i).take n)) (byN ((l2.drop i2).take n2)))).length y.2.2.2,.nili],fun y=>[⟨b,q,1,false,some o,.rows 5 l⟩,⟨b2,q2,1,false,some o2,.rows 5 l2⟩,osB true y]⟩]
 mat vs m:=match vs with
  | [.sl a i n c,.sl t i2 n2 c2]=>match nth m a,nth m t with
    | ⟨b,q,_,_,g,.rows 5 l⟩,⟨b2,q2,_,_,g2,.rows 5 l2⟩=>some (((onOf g,b,q,l,i,n,c),(onOf g2,b2,q2,l2,i2,n2,c2)),[a,t])
    | _,_=>none
  | _=>none
 ok:=fun ((o,b,q,l,i,n,c),(o2,b2,q2,l2,i2,n2,c2)) h=>pmul_ok o b q l i n c o2 b2 q2 l2 i2 n2 c2 h.1 h.2.1 _ _ rfl rfl h.2.2.1 h.2.2.2.1 h.2.2.2.2
def Pr4 (ms:List Nat):Inv' C0:=⟨4,Nat×Os,fun x=>[(13,.int .i64 (x.1:Int)),(6,.sl 1 0 (nb (prJ ms x.1)).length x.2.2.2.2),(10,.junk)],fun x m=>match m with
 | a0 :: _=>[a0,osB true x.2]
 | m=>m,fun x=>x.1≤ms.length∧Ow (nb (prJ ms x.1)) x.2,fun x=>ms.length - x.1⟩
set_option maxHeartbeats 4000000 in
theorem product_ok (o:Bool) (b q:Nat) (R:List (Rw Int)) (n c:Nat) (h:n≤R.length) (ho:o=false→n=0∧c=0) (ms:List Nat) (hk:ms.length=n) (hn:n≤40) (hR:rwP ms R) (h15:∀ m∈ms,bl m≤15∧m≠0) (hne:prJ ms ms.length≠0):
 Does (C:=C0) Tryz.prog (.fn 79) [⟨b,q,1,false,some o,.rows 83 R⟩] [.sl 0 0 n c,.fn (.func 80) [] []]
  [⟨Os,fun y=>Ow (nb (prJ ms ms.length)) y,fun y=>.tup [.sl 1 0 (nb (prJ ms ms.length)).length y.2.2.2,.nili],fun y=>[⟨b,q,1,false,some o,.rows 83 R⟩,osB true y]⟩]:=by
 refine loc_fn (P:=Tryz.prog) (E:=⟨[fcPmul],[],29,[],[rdP],[],none⟩) (L:=[Pr4 ms]) mix Tryz.func79 rfl (by kernel_rfl) (by kernel_rfl) rfl rfl ?_
 ((conv=>arg 1;reduce);with_reducible repeat' first | exact ty | refine ta ?_ ?_ | refine ti fun _ => ?_ | refine tf fun _ => ?_ | refine tl ?_)
 all_goals try exact vlf
 · rename_i g1
   refine Stands.one ((0,(true,g1,[1],1)):Nat×Os) ⟨⟨zg _,?_⟩,?_⟩
   · rw [prJ_zero,nb_one]
     exact ⟨rfl,zw _,zw _,(fun h=>nomatch h)⟩
   ((conv=>arg 1;reduce);with_reducible repeat' first | exact ty | refine ta ?_ ?_ | refine ti fun _ => ?_ | refine tf fun _ => ?_ | refine tl ?_)
   all_goals first | exact vlf | (show 1=(nb (prJ ms 0)).length;rw [prJ_zero,nb_one];rfl) | (show (nb (prJ ms 0)).length=1;rw [prJ_zero,nb_one];rfl)
 iterate 4 (focus
  rename_i g1 x hx d
  change Nat×Os at x
  obtain ⟨j,y⟩:=x
  obtain ⟨k1,k2⟩:j≤ms.length∧Ow (nb (prJ ms j)) y:=hx
  have b1:=prJ_bl (fun m hm=>(h15 m hm).1) j k1
  have n1:(nb (prJ ms j)).length≤1000:=by rw [nb_len];unfold nl;omega
  have d:(j:Int)<(n:Int):=ng d
  first
  | exact on_of ho (by omega)
  | exact d
  | (show (j:Int).toNat+0<R.length;omega))
 · rename_i g1 x hx d r hr
   change Nat×Os at x
   obtain ⟨j,y⟩:=x
   obtain ⟨k1,k2⟩:j≤ms.length∧Ow (nb (prJ ms j)) y:=hx
   have b1:=prJ_bl (fun m hm=>(h15 m hm).1) j k1
   have n1:(nb (prJ ms j)).length≤1000:=by rw [nb_len];unfold nl;omega
   have d:(j:Int)<(n:Int):=ng d
   change Rw Int at r
   have hr:R.getD ((j:Int).toNat+0) Rw.nil=r:=hr
   rw [zu,za j] at hr
   have hrp:=hR j (by omega)
   rw [hr] at hrp
   have hm:=h15 (ms.getD j 0) (getD_mem (by omega))
   have w1:byN ((y.2.2.1.drop 0).take (nb (prJ ms j)).length)=prJ ms j:=by rw [zm,k2.eq,byN_nb]
   have w2:byN ((r.l.drop 0).take r.l.length)=ms.getD j 0:=by rw [zm,xb,hrp.num]
   have hpj:=prJ_ne hne (ms.length - j) j (by omega)
   refine ⟨sb1 (N:=prJ ms j) k2 (by omega),⟨by show 0+r.l.length≤r.l.length;omega,hrp.cap,by show r.l.length<100000000;have:=hrp.len;omega,?_,?_⟩,?_,?_,?_⟩
   · intro h0
     have h0:r.on=false:=h0
     rw [hrp.on] at h0
     cases h0
   · show Byt8 ((r.l.drop 0).take r.l.length)
     rw [zm,xb];exact hrp.byt
   · show byN ((y.2.2.1.drop 0).take (nb (prJ ms j)).length)≠0;rw [w1];exact hpj
   · show byN ((r.l.drop 0).take r.l.length)≠0;rw [w2];exact hm.2
   · show bl (byN ((y.2.2.1.drop 0).take (nb (prJ ms j)).length))+bl (byN ((r.l.drop 0).take r.l.length))≤4098
     rw [w1,w2];omega
 iterate 2 (focus
  rename_i g1 x hx d r hr y3 hy3
  change Nat×Os at x
  obtain ⟨j,y⟩:=x
  obtain ⟨k1,k2⟩:j≤ms.length∧Ow (nb (prJ ms j)) y:=hx
  have b1:=prJ_bl (fun m hm=>(h15 m hm).1) j k1
  have n1:(nb (prJ ms j)).length≤1000:=by rw [nb_len];unfold nl;omega
  have d:(j:Int)<(n:Int):=ng d
  change Rw Int at r
  have hr:R.getD ((j:Int).toNat+0) Rw.nil=r:=hr
  rw [zu,za j] at hr
  have hrp:=hR j (by omega)
  rw [hr] at hrp
  have hm:=h15 (ms.getD j 0) (getD_mem (by omega))
  have w1:byN ((y.2.2.1.drop 0).take (nb (prJ ms j)).length)=prJ ms j:=by rw [zm,k2.eq,byN_nb]
  have w2:byN ((r.l.drop 0).take r.l.length)=ms.getD j 0:=by rw [zm,xb,hrp.num]
  have hpj:=prJ_ne hne (ms.length - j) j (by omega)
  have hy3:Ow (nb (clm (byN ((y.2.2.1.drop 0).take (nb (prJ ms j)).length)) (byN ((r.l.drop 0).take r.l.length)))) y3:=hy3
  rw [w1,w2,← prJ_succ (by omega)] at hy3
  first
  | exact inR64 (n:=(j:Int)+1) (by omega) (by omega)
  | (refine Stands.one ((j+1,y3):Nat×Os) ⟨⟨by show j+1≤ms.length;omega,hy3⟩,by show ms.length - (j+1)<ms.length - j;omega,?_⟩
     ((conv=>arg 1;reduce);with_reducible repeat' first | exact ty | refine ta ?_ ?_ | refine ti fun _ => ?_ | refine tf fun _ => ?_ | refine tl ?_)
     all_goals first
      | exact vlf
      | (show (nb (clm (byN ((y.2.2.1.drop 0).take (nb (prJ ms j)).length)) (byN ((r.l.drop 0).take r.l.length)))).length=(nb (prJ ms (j+1))).length;rw [w1,w2,← prJ_succ (by omega)])
      | (show (nb (prJ ms (j+1))).length=(nb (clm (byN ((y.2.2.1.drop 0).take (nb (prJ ms j)).length)) (byN ((r.l.drop 0).take r.l.length)))).length;rw [w1,w2,← prJ_succ (by omega)])))
 · rename_i g1 x hx d
   change Nat×Os at x
   obtain ⟨j,y⟩:=x
   obtain ⟨k1,k2⟩:j≤ms.length∧Ow (nb (prJ ms j)) y:=hx
   have b1:=prJ_bl (fun m hm=>(h15 m hm).1) j k1
   have n1:(nb (prJ ms j)).length≤1000:=by rw [nb_len];unfold nl;omega
   have d:¬ (j:Int)<(n:Int):=nf d
   obtain rfl:j=ms.length:=by omega
   refine Ends.one y k2 ?_
   exact vgo
def fcProduct (ms:List Nat) (hn:ms.length≤40) (h15:∀ m∈ms,bl m≤15∧m≠0) (hne:prJ ms ms.length≠0):Fc Tryz.prog C0 where
 tg:=.fn 79
 X:=Bool×Nat×Nat×List (Rw Int)×Nat×Nat
 args:=fun (o,b,q,R,n,c)=>[.sl 0 0 n c,.fn (.func 80) [] []]
 mem:=fun (o,b,q,R,n,c)=>[⟨b,q,1,false,some o,.rows 83 R⟩]
 pre:=fun (o,b,q,R,n,c)=>n≤R.length∧(o=false→n=0∧c=0)∧ms.length=n∧rwP ms R
 alts:=fun (o,b,q,R,n,c)=>[⟨Os,fun y=>Ow (nb (prJ ms ms.length)) y,fun y=>.tup [.sl 1 0 (nb (prJ ms ms.length)).length y.2.2.2,.nili],fun y=>[⟨b,q,1,false,some o,.rows 83 R⟩,osB true y]⟩]
 mat vs m:=match vs with
  | [.sl s _ n c,.fn _ _ _]=>match nth m s with
    | ⟨b,q,_,_,z,.rows 83 R⟩=>some ((onOf z,b,q,R,n,c),[s])
    | _=>none
  | _=>none
 ok:=fun (o,b,q,R,n,c) h=>product_ok o b q R n c h.1 h.2.1 ms h.2.2.1 (by rw [← h.2.2.1];exact hn) h.2.2.2 h15 hne
end
end Go.Vx
namespace Go.Vx
open Go Go.Proofs
noncomputable section
variable [Gl]
section
variable {F:Gf} (K:Kd F)
abbrev kdM:List Nat:=K.ld.map fun i=>mpN F (cosV F.m i.toNat)
theorem kdM_get {j:Nat} (h:j<K.ld.length):(kdM K).getD j 0=mpN F (cosV F.m (K.ld.getD j 0).toNat):=by
 simp only [zy,zf,zt h,Option.map_some,ym]
theorem kdM_15:∀ m∈kdM K,bl m≤15∧m≠0:=fun m hm=>by
 obtain ⟨i,hi,rfl⟩:=List.mem_map.1 hm
 have h1:=(K.ln i hi).1
 have h2:=mpN_bl (F:=F) (cosV F.m i.toNat)
 refine ⟨by omega,fun e => ?_⟩
 rw [e,bl_zero] at h2
 omega
theorem kdM_all:prJ (kdM K) (kdM K).length=K.G:=by
 unfold prJ
 rw [xb,List.foldl_map]
 exact K.gen
theorem kdM_ne:prJ (kdM K) (kdM K).length≠0:=by
 rw [kdM_all]
 intro e
 have:=K.tp
 rw [e,bl_zero] at this
 omega
theorem kd_len:K.ld.length≤40:=by
 have h:=ldR_bd (m:=F.m) (by have:=F.m3;omega) F.m14 K.t
 rw [K.hl] at h
 have:=K.t40
 have h1:K.ld.length≤K.t:=h.1
 omega
theorem kdM_len:(kdM K).length≤40:=by rw [zn];exact kd_len K
structure Gkw (ms:List Nat) (j:Nat) (y:Fks):Prop where
 rw:rwP (ms.take j) y.2.2.2.1
 cap:j≤y.2.2.2.2
 len:y.2.2.2.2≤y.2.2.2.1.length
 nil:y.1=false→j=0∧y.2.2.2.2=0
abbrev gkC (wr:Bool) (y:Fks):Ck C0:=⟨y.2.1,y.2.2.1,1,wr,some y.1,.rows 83 y.2.2.2.1⟩
def Gn6:Inv' C0:=⟨6,Nat×Fks,fun x=>[(25,.int .i64 (x.1:Int)),(9,.sl 4 0 x.1 x.2.2.2.2.2)],fun x m=>match m with
 | a0 :: a1 :: a2 :: a3 :: _=>[a0,a1,a2,a3,gkC true x.2]
 | m=>m,fun x=>x.1≤K.ld.length∧Gkw (kdM K) x.1 x.2,fun x=>K.ld.length - x.1⟩
set_option maxHeartbeats 4000000 in
theorem gen_ok (bF qF be qe bl' ql:Nat):
 Does (C:=C0) Tryz.prog (.fn 52) [fld F bF qF,xCk F be qe,lCk F bl' ql] [.ptr 0 0 0,.int .i64 (K.t:Int)]
  [⟨Os,fun y=>Ow (nb K.G) y,fun y=>.tup [.sl 3 0 (nb K.G).length y.2.2.2,.nili],fun y=>[fld F bF qF,xCk F be qe,lCk F bl' ql,osB true y]⟩]:=by
 have hkl:=kd_len K
 have lM:(kdM K).length=K.ld.length:=zn ..
 have byp:Tryz.prog.types[83].bytes=24:=by kernel_rfl
 refine loc_fn (P:=Tryz.prog) (E:=⟨[fcLeaders K,fcMOf F K,fcProduct (kdM K) (kdM_len K) (kdM_15 K) (kdM_ne K)],[pcM],40,[],[],[mkP],none⟩) (L:=[Gn6 K]) mix Tryz.func52 rfl (by kernel_rfl) (by kernel_rfl) rfl rfl ?_
 ((conv=>arg 1;reduce);with_reducible repeat' first | exact ty | refine ta ?_ ?_ | refine ti fun _ => ?_ | refine tf fun _ => ?_ | refine tl ?_)
 all_goals try exact vlf
 · rename_i c hc
   refine Stands.one ((0,(false,0,0,[],0)):Nat×Fks) ⟨⟨zg _,⟨fun j hj=>absurd hj (by simp),zw _,zw _,fun _=>⟨rfl,rfl⟩⟩⟩,?_⟩
   exact vgo
 iterate 5 (focus
  rename_i c hc x hx d
  have hc:Oqw K.ld c:=hc
  have v1:=hc.cap
  have v2:=hc.len
  change Nat×Fks at x
  obtain ⟨j,y⟩:=x
  obtain ⟨k1,k2⟩:j≤K.ld.length∧Gkw (kdM K) j y:=hx
  have c1:=k2.cap
  have c2:=k2.len
  have d:(j:Int)<(K.ld.length:Int):=ng d
  have eC:c.2.2.2.1.getD ((j:Int).toNat+0) 0=K.ld.getD j 0:=by rw [zu,za j];exact hc.at (by omega)
  have kj:=K.ln (K.ld.getD j 0) (getD_mem (by omega))
  first
  | exact on_of hc.nil (by omega)
  | exact d
  | (show (j:Int).toNat+0<c.2.2.2.1.length;omega)
  | (show c.2.2.2.1.getD ((j:Int).toNat+0) 0∈K.ld;rw [eC];exact getD_mem (by omega)))
 · rename_i c hc x hx d p hp
   show 0+_≤(byT _ _).length
   rw [byT_len]
   omega
 iterate 2 (focus
  rename_i c hc x hx d p hp g1
  have hc:Oqw K.ld c:=hc
  have v1:=hc.cap
  have v2:=hc.len
  change Nat×Fks at x
  obtain ⟨j,y⟩:=x
  obtain ⟨k1,k2⟩:j≤K.ld.length∧Gkw (kdM K) j y:=hx
  have c1:=k2.cap
  have c2:=k2.len
  have d:(j:Int)<(K.ld.length:Int):=ng d
  have eC:c.2.2.2.1.getD ((j:Int).toNat+0) 0=K.ld.getD j 0:=by rw [zu,za j];exact hc.at (by omega)
  have kj:=K.ln (K.ld.getD j 0) (getD_mem (by omega))
  first
  | exact k2.nil
  | (rw [byp];exact ⟨c1,by show 0+y.2.2.2.2≤y.2.2.2.1.length;omega,zw _,by show (j+1)*24≤_;omega⟩))
 iterate 2 (focus
  rename_i c hc x hx d p hp g1 g3 g4 sp k h1 h2
  change List (Rw Int) at sp
  change Nat at p
  have hc:Oqw K.ld c:=hc
  have v1:=hc.cap
  have v2:=hc.len
  change Nat×Fks at x
  obtain ⟨j,y⟩:=x
  obtain ⟨k1,k2⟩:j≤K.ld.length∧Gkw (kdM K) j y:=hx
  have c1:=k2.cap
  have c2:=k2.len
  have d:(j:Int)<(K.ld.length:Int):=ng d
  have eC:c.2.2.2.1.getD ((j:Int).toNat+0) 0=K.ld.getD j 0:=by rw [zu,za j];exact hc.at (by omega)
  have kj:=K.ln (K.ld.getD j 0) (getD_mem (by omega))
  have h1:j+1≤k:=h1
  have h2:k≤j+1+sp.length:=h2
  have tl':(y.2.2.2.1.take j).length=j:=by rw [ze];omega
  first
  | exact inR64 (n:=(j:Int)+1) (by omega) (by omega)
  | (refine Stands.one ((j+1,(true,g3,g4,y.2.2.2.1.take j ++ [⟨true,p,0,(cosV F.m (c.2.2.2.1.getD ((j:Int).toNat+0) 0).toNat).length / 8+1,((byT ((cosV F.m (c.2.2.2.1.getD ((j:Int).toNat+0) 0).toNat).length / 8+1) (mpN F (cosV F.m (c.2.2.2.1.getD ((j:Int).toNat+0) 0).toNat))).drop 0).take ((cosV F.m (c.2.2.2.1.getD ((j:Int).toNat+0) 0).toNat).length / 8+1)⟩] ++ sp,k)):Nat×Fks) ⟨⟨by show j+1≤K.ld.length;omega,⟨fun u hu => ?_,h1,?_,fun h=>nomatch h⟩⟩,by show K.ld.length - (j+1)<K.ld.length - j;omega,?_⟩
     · rw [ze,lM,xa (by omega)] at hu
       have e1:((kdM K).take (j+1)).getD u 0=(kdM K).getD u 0:=tk_get hu
       rw [e1]
       by_cases hj:u=j
       · subst hj
         have e2:∀ r:Rw Int,(y.2.2.2.1.take u ++ [r] ++ sp).getD u Rw.nil=r:=fun r=>by
          rw [vx,zy,xr (by omega),tl',qo]
          rfl
         show rwPj _ ((y.2.2.2.1.take u ++ [_] ++ sp).getD u Rw.nil)
         rw [e2,eC,kdM_get K (by omega)]
         have lb:=byT_len ((cosV F.m (K.ld.getD u 0).toNat).length / 8+1) (mpN F (cosV F.m (K.ld.getD u 0).toNat))
         have et:((byT ((cosV F.m (K.ld.getD u 0).toNat).length / 8+1) (mpN F (cosV F.m (K.ld.getD u 0).toNat))).drop 0).take ((cosV F.m (K.ld.getD u 0).toNat).length / 8+1)=byT ((cosV F.m (K.ld.getD u 0).toNat).length / 8+1) (mpN F (cosV F.m (K.ld.getD u 0).toNat)):=by
          rw [zm,zc (by rw [lb];exact zw _)]
         rw [et]
         refine ⟨rfl,byT_byt _ _,byT_N ?_,?_,?_⟩
         · exact bl_le.1 (by rw [mpN_bl];omega)
         · show (byT _ _).length≤_;rw [lb];exact zw _
         · show (byT _ _).length≤1000;rw [lb];have:=kj.1;omega
       · have e2:∀ r:Rw Int,(y.2.2.2.1.take j ++ [r] ++ sp).getD u Rw.nil=y.2.2.2.1.getD u Rw.nil:=fun r=>by
          rw [vx,zy,yx (by omega),yn (by omega),zy]
         show rwPj _ ((y.2.2.2.1.take j ++ [_] ++ sp).getD u Rw.nil)
         rw [e2]
         have e3:((kdM K).take j).getD u 0=(kdM K).getD u 0:=tk_get (by omega)
         rw [← e3]
         exact k2.rw u (by rw [ze,lM];omega)
     · show k≤(y.2.2.2.1.take j ++ [_] ++ sp).length
       simp only [zx,tl',xy,ur]
       omega
     exact vgo))
 · rename_i c hc x hx d
   have hc:Oqw K.ld c:=hc
   have v1:=hc.cap
   have v2:=hc.len
   change Nat×Fks at x
   obtain ⟨j,y⟩:=x
   obtain ⟨k1,k2⟩:j≤K.ld.length∧Gkw (kdM K) j y:=hx
   have c1:=k2.cap
   have c2:=k2.len
   have d:¬ (j:Int)<(K.ld.length:Int):=nf d
   obtain rfl:j=K.ld.length:=by omega
   refine ⟨by show K.ld.length≤y.2.2.2.1.length;omega,k2.nil,lM,?_⟩
   have:=k2.rw
   rwa [← lM,xb] at this
 · rename_i c hc x hx d y3 hy3
   have hc:Oqw K.ld c:=hc
   have v1:=hc.cap
   have v2:=hc.len
   change Nat×Fks at x
   obtain ⟨j,y⟩:=x
   obtain ⟨k1,k2⟩:j≤K.ld.length∧Gkw (kdM K) j y:=hx
   have c1:=k2.cap
   have c2:=k2.len
   have d:¬ (j:Int)<(K.ld.length:Int):=nf d
   obtain rfl:j=K.ld.length:=by omega
   have hy3:Ow (nb (prJ (kdM K) (kdM K).length)) y3:=hy3
   rw [kdM_all] at hy3
   refine Ends.one y3 hy3 ?_
   ((conv=>arg 1;reduce);with_reducible repeat' first | exact ty | refine ta ?_ ?_ | refine ti fun _ => ?_ | refine tf fun _ => ?_ | refine tl ?_)
   all_goals first
    | exact vlf
    | (rw [kdM_all])
def fcGen:Fc Tryz.prog C0 where
 tg:=.fn 52
 X:=Nat×Nat×Nat×Nat×Nat×Nat
 args _:=[.ptr 0 0 0,.int .i64 (K.t:Int)]
 mem:=fun (bF,qF,be,qe,bl,ql)=>[fld F bF qF,xCk F be qe,lCk F bl ql]
 pre _:=True
 alts:=fun (bF,qF,be,qe,bl,ql)=>[⟨Os,fun y=>Ow (nb K.G) y,fun y=>.tup [.sl 3 0 (nb K.G).length y.2.2.2,.nili],fun y=>[fld F bF qF,xCk F be qe,lCk F bl ql,osB true y]⟩]
 mat vs m:=match vs with
  | [.ptr c _ _,.int _ _]=>match nth m c with
    | ⟨b,q,_,_,_,.one (_ :: _ :: .sl e _ _ _ :: .sl l _ _ _ :: _)⟩=>match nth m e,nth m l with
      | ⟨be,qe,_,_,_,_⟩,⟨bl,ql,_,_,_,_⟩=>some ((b,q,be,qe,bl,ql),[c,e,l])
    | _=>none
  | _=>none
 ok:=fun (bF,qF,be,qe,bl,ql) _=>gen_ok K bF qF be qe bl ql
end
end
end Go.Vx
namespace Go.Vx
open Go Go.Proofs
noncomputable section
section
variable {F:Gf} (K:Kd F)
def nP:Nat:=(K.D+7) / 8
@[irreducible] def gK (k:Nat):Bool:=decide (k<K.D) && K.G.testBit k
theorem gK_lt {k:Nat} (h:k<K.D):gK K k=K.Q.g k:=by unfold gK;rw [decide_eq_true h,zd,K.Qg k h]
theorem gK_out {k:Nat} (h:K.D≤k):gK K k=false:=by unfold gK;rw [decide_eq_false (by omega),yf]
theorem nP_pos:1≤nP K:=by have:=K.D1;unfold nP;omega
theorem nP_lt:nP K<2100:=by
 have h:=K.hD
 have:=F.m14
 have:2 ^ F.m≤2 ^ 14:=zj (by omega) F.m14
 unfold nP;omega
@[irreducible] def rgK (r:Nat→Bool):List Int:=rgB K.D (gK K) (nP K) r
theorem rgK_eq (r:Nat→Bool):rgK K r=rgB K.D (gK K) (nP K) r:=by unfold rgK;rfl
theorem rgK_len (r:Nat→Bool):(rgK K r).length=nP K:=by rw [rgK_eq,rgB_len]
theorem rgK_byt (r:Nat→Bool):Byt8 (rgK K r):=by rw [rgK_eq];exact rgB_byt
theorem rgK_congr {r s:Nat→Bool} (h:∀ k,k<K.D→r k=s k):rgK K r=rgK K s:=by rw [rgK_eq,rgK_eq];exact rgB_congr h
theorem rgK_bt {r:Nat→Bool} {k:Nat} (h:k<K.D):bt (rgK K r) k=r k:=by
 rw [rgK_eq,rgB_bt (by unfold nP;omega),decide_eq_true h,zd]
@[irreducible] def shK (r:Nat→Bool) (i:Nat):List Int:=shB (nP K) r i
@[irreducible] def s0K (r:Nat→Bool):List Int:=sh0 (nP K) r
@[irreducible] def xoK (r:Nat→Bool) (i:Nat):List Int:=xoB (nP K) (fun k=>decide (k<K.D) && (decide (0<k) && r (k - 1))) (gK K) i
theorem shK_len (r:Nat→Bool) (i:Nat):(shK K r i).length=nP K:=by unfold shK;exact shB_len
theorem xoK_len (r:Nat→Bool) (i:Nat):(xoK K r i).length=nP K:=by unfold xoK;exact xoB_len
theorem shK_top (r:Nat→Bool):shK K r (nP K - 1)=by' (nP K) r:=by unfold shK;exact shB_top (nP_pos K)
theorem shK_step {r:Nat→Bool} {i:Nat} (h0:0<i) (h:i<nP K):(shK K r i).set i (ibit .or .u8 (ishl .u8 ((shK K r i).getD i 0) 1) (ishr .u8 ((shK K r i).getD (i - 1) 0) 7))=shK K r (i - 1):=by unfold shK;exact shB_step h0 h
theorem s0K_step {r:Nat→Bool}:(shK K r 0).set 0 (ishl .u8 ((shK K r 0).getD 0 0) 1)=s0K K r:=by unfold shK s0K;exact sh0_step (nP_pos K)
theorem s0K_mask {r:Nat→Bool} (h:0<K.D % 8):(s0K K r).set (nP K - 1) (ibit .and .u8 ((s0K K r).getD (nP K - 1) 0) ((2 ^ (K.D % 8) - 1:Nat):Int))=rgK K fun k=>decide (0<k) && r (k - 1):=by
 rw [rgK_eq];unfold s0K sh0;exact by_mask rfl h
theorem s0K_full {r:Nat→Bool} (h:K.D % 8=0):s0K K r=rgK K fun k=>decide (0<k) && r (k - 1):=by rw [rgK_eq];unfold s0K sh0;exact by_full rfl h
theorem xoK_zero {r:Nat→Bool}:xoK K r 0=rgK K fun k=>decide (0<k) && r (k - 1):=by unfold xoK;rw [rgK_eq,rgB_eq,xoB_zero]
theorem xoK_step {r:Nat→Bool} {i:Nat} {lo:List Int} (hi:i<nP K) (hl:lo.take (nP K)=by' (nP K) (gK K)):(xoK K r i).set i (ibit .xor .u8 ((xoK K r i).getD i 0) (lo.getD i 0))=xoK K r (i+1):=by
 obtain ⟨y,hy,y1,y2⟩:=by_at (b:=gK K) hi
 have e:lo.getD i 0=(y:Int):=by rw [← hy,← hl];simp only [zy,List.getElem?_take,if_pos hi]
 rw [e]
 unfold xoK
 exact xoB_step hi y1 y2
theorem shf_yes {r:Nat→Bool} {b:Bool} (h:(b ^^ r (K.D - 1))=true):xoK K r (nP K)=rgK K (shf K.D (gK K) r b):=by
 rw [rgK_eq,shf_rgB (g:=gK K) (n:=nP K) K.D1 rfl (fun k hk=>gK_out K hk),if_pos h]
 unfold xoK;rfl
theorem shf_no {r:Nat→Bool} {b:Bool} (h:(b ^^ r (K.D - 1))=false):(rgK K fun k=>decide (0<k) && r (k - 1))=rgK K (shf K.D (gK K) r b):=by
 rw [rgK_eq,rgK_eq,shf_rgB (g:=gK K) (n:=nP K) K.D1 rfl (fun k hk=>gK_out K hk),if_neg (by rw [h];exact Bool.false_ne_true)]
theorem rgK_self {r:Nat→Bool} (hr:∀ k,K.D≤k→r k=false):rgK K r=by' (nP K) r:=by
 rw [rgK_eq,rgB_eq]
 refine by_congr fun k _ => ?_
 by_cases h:k<K.D
 · rw [decide_eq_true h,zd]
 · rw [decide_eq_false h,yf,hr k (by omega)]
theorem mask8 {s:Nat} (h:s<8):IntKind.u8.wrap (ishl .u8 1 (s:Int) - 1)=((2 ^ s - 1:Nat):Int):=by
 have e:ishl .u8 1 (s:Int)=((2 ^ s:Nat):Int):=by
  have:=shl8 1 s (by omega)
  have hp:2 ^ s≤2 ^ 7:=zj (by omega) (by omega)
  rw [Nat.one_mul,tb (by omega)] at this
  exact this
 have hp:=yg s
 have hp:2 ^ s≤2 ^ 7:=zj (by omega) (by omega)
 rw [e,show ((2 ^ s:Nat):Int) - 1=((2 ^ s - 1:Nat):Int) by omega]
 exact wrap_nat (zk (show 2 ^ s - 1<2 ^ 8 by omega) (by decide))
end
variable [Gl]
section
variable {F:Gf} (K:Kd F)
def Sh3 (r:Nat→Bool):Inv' C0:=⟨3,Nat,fun i=>[(8,.int .i64 (i:Int))],fun i m=>match m with
 | [c,t,l]=>[c,⟨t.block,t.base,1,true,t.gl,.rows 5 (shK K r i)⟩,l]
 | m=>m,fun i=>i<nP K,fun i=>i⟩
def Sh10 (r:Nat→Bool):Inv' C0:=⟨1000010,Unit,fun _=>[],fun _ m=>match m with
 | [c,t,l]=>[c,⟨t.block,t.base,1,true,t.gl,.rows 5 (rgK K fun k=>decide (0<k) && r (k - 1))⟩,l]
 | m=>m,fun _=>True,fun _=>0⟩
def Sh12 (r:Nat→Bool):Inv' C0:=⟨12,Nat,fun i=>[(77,.int .i64 (i:Int))],fun i m=>match m with
 | [c,t,l]=>[c,⟨t.block,t.base,1,true,t.gl,.rows 5 (xoK K r i)⟩,l]
 | m=>m,fun i=>i≤nP K,fun i=>nP K - i⟩
set_option maxHeartbeats 8000000 in
theorem shift_ok (b q bR qR cR bL qL:Nat) (oL:Bool) (lo:List Int) (cL:Nat) (bit:Bool) (r:Nat→Bool) (hL:nP K≤lo.length) (hlo:lo.take (nP K)=by' (nP K) (gK K)) (ho:oL=true) (hr:∀ k,K.D≤k→r k=false):
 Does (C:=C0) Tryz.prog (.fn 53) [⟨b,q,263,false,none,.one [.junk,.junk,.junk,.int .i64 (K.D:Int),.junk,.junk,.sl 2 0 (nP K) cL]⟩,⟨bR,qR,1,true,none,.rows 5 (rgK K r)⟩,⟨bL,qL,1,false,some oL,.rows 5 lo⟩] [.ptr 0 0 0,.sl 1 0 (nP K) cR,.int .i64 ((bit.toNat:Nat):Int)]
  [⟨Unit,fun _=>True,fun _=>.tup [],fun _=>[⟨b,q,263,false,none,.one [.junk,.junk,.junk,.int .i64 (K.D:Int),.junk,.junk,.sl 2 0 (nP K) cL]⟩,⟨bR,qR,1,true,none,.rows 5 (rgK K (shf K.D (gK K) r bit))⟩,⟨bL,qL,1,false,some oL,.rows 5 lo⟩]⟩]:=by
 subst ho
 have D1:=K.D1
 have n1:=nP_pos K
 have n2:=nP_lt K
 have nD:nP K=(K.D+7) / 8:=rfl
 have lR:=rgK_len K
 have eD:(K.D:Int) - 1=((K.D - 1:Nat):Int):=by omega
 have q8:((K.D - 1:Nat):Int).tdiv 8=(((K.D - 1) / 8:Nat):Int):=(yj _ 8).symm
 have m8:((K.D - 1:Nat):Int).tmod 8=(((K.D - 1) % 8:Nat):Int):=(zb _ 8).symm
 have d8:(K.D:Int).tmod 8=((K.D % 8:Nat):Int):=(zb _ 8).symm
 have bR':=rgK_byt K r
 have ev:ibit .and .u8 (ishr .u8 ((rgK K r).getD ((((K.D:Int) - 1).tdiv 8).toNat+0) 0) (((K.D:Int) - 1).tmod 8)) 1=(((r (K.D - 1)).toNat:Nat):Int):=by
  have hx:0≤(rgK K r).getD ((K.D - 1) / 8) 0∧(rgK K r).getD ((K.D - 1) / 8) 0<256:=bR' _ (getD_mem (by rw [lR];omega))
  rw [eD,q8,m8,zu,za ((K.D - 1) / 8),bitI hx (yv _ (by omega)),← rgK_bt K (r:=r) (k:=K.D - 1) (by omega)]
  rfl
 have lS:=shK_len K r
 have lX:=xoK_len K r
 refine loc_fn (P:=Tryz.prog) (E:=⟨[],[],94,[(5,[],[.p 0,.p 1,.p 2,.p 3,.p 4,.p 7,.p 8,.p 9,.p 10,.q 5,.p 6,.q 11,.p 12,.p 13,.p 14,.e 15]),(9,[],[.p 0,.p 1,.p 2,.p 3,.p 4,.p 6,.p 7,.p 8,.q 5,.p 9,.p 10,.e 11]),(14,[],[.p 0,.p 1,.p 2,.p 4,.p 5,.p 6,.p 8,.q 3,.q 7,.p 9,.q 10,.p 11,.p 12,.e 13])],[],[],none⟩) (L:=[Sh3 K r,Sh10 K r,Sh12 K r]) mix Tryz.func53 rfl (by kernel_rfl) (by kernel_rfl) rfl rfl ?_
 ((conv=>arg 1;reduce);with_reducible repeat' first | exact ty | refine ta ?_ ?_ | refine ti fun _ => ?_ | refine tf fun _ => ?_ | refine tl ?_)
 all_goals try exact vlf
 · rw [eD,q8];exact inR64 (n:=(((K.D - 1) / 8:Nat):Int)) (by omega) (by omega)
 · rw [eD,q8];omega
 · rw [eD,q8];omega
 · rw [eD,q8,lR];omega
 · rw [eD,m8];omega
 · show inR .i64 (ibit .and .u8 (ishr .u8 ((rgK K r).getD ((((K.D:Int) - 1).tdiv 8).toNat+0) 0) (((K.D:Int) - 1).tmod 8)) 1)
   rw [ev]
   exact inR64 (n:=(((r (K.D - 1)).toNat:Nat):Int)) (by omega) (by have:=ul (r (K.D - 1));omega)
 · refine Stands.one (nP K - 1:Nat) ⟨by show nP K - 1<nP K;omega,?_⟩
   ((conv=>arg 1;reduce);with_reducible repeat' first | exact ty | refine ta ?_ ?_ | refine ti fun _ => ?_ | refine tf fun _ => ?_ | refine tl ?_)
   all_goals first
    | exact vlf
    | (show ((nP K:Int) - 1)=((nP K - 1:Nat):Int);omega)
    | (show shK K r (nP K - 1)=rgK K r;rw [shK_top,rgK_self K hr])
 iterate 10 (focus
  rename_i i hi d
  change Nat at i
  have hi:i<nP K:=hi
  have d:(0:Int)<(i:Int):=ng d
  have e1:((i:Int) - 1).toNat=i - 1:=by omega
  first
  | (refine Stands.one (i - 1:Nat) ⟨by show i - 1<nP K;omega,by show i - 1<i;omega,?_⟩
     ((conv=>arg 1;reduce);with_reducible repeat' first | exact ty | refine ta ?_ ?_ | refine ti fun _ => ?_ | refine tf fun _ => ?_ | refine tl ?_)
     all_goals first
      | exact vlf
      | (show (i:Int) - 1=((i - 1:Nat):Int);omega)
      | (show shK K r (i - 1)=(shK K r i).set ((i:Int).toNat+0) (ibit .or .u8 (ishl .u8 ((shK K r i).getD ((i:Int).toNat+0) 0) 1) (ishr .u8 ((shK K r i).getD (((i:Int) - 1).toNat+0) 0) 7))
         rw [e1,zu,za i,za (i - 1)]
         exact (shK_step K (by omega) hi).symm))
  | (show (i:Int)<(nP K:Int);omega)
  | exact inR64 (n:=(i:Int) - 1) (by omega) (by omega)
  | (show (0:Int)≤(i:Int) - 1;omega)
  | (show (i:Int) - 1<(nP K:Int);omega)
  | (rw [lS];show (i:Int).toNat+0<nP K;omega)
  | (rw [lS];show ((i:Int) - 1).toNat+0<nP K;omega))
 all_goals try (
  rename_i i hi d
  change Nat at i
  have hi:i<nP K:=hi
  rw [lS]
  show 0<nP K
  omega)
 all_goals try (
  rename_i i hi d e
  change Nat at i
  have d:¬ (0:Int)<(i:Int):=nf d
  obtain rfl:i=0:=by omega
  have e:decide ((0:Int)<(K.D:Int).tmod 8)=_:=e
  rw [d8] at e
  first
  | (rw [d8];omega)
  | (rw [zh,lS];show ((nP K:Int) - 1).toNat+0<nP K;omega)
  | (refine Stands.one () ⟨trivial,?_⟩
     ((conv=>arg 1;reduce);with_reducible repeat' first | exact ty | refine ta ?_ ?_ | refine ti fun _ => ?_ | refine tf fun _ => ?_ | refine tl ?_)
     all_goals first
      | exact vlf
      | (show (rgK K fun k=>decide (0<k) && r (k - 1))=((shK K r 0).set 0 (ishl .u8 ((shK K r 0).getD 0 0) 1)).set (((nP K:Int) - 1).toNat+0) (ibit .and .u8 (((shK K r 0).set 0 (ishl .u8 ((shK K r 0).getD 0 0) 1)).getD (((nP K:Int) - 1).toNat+0) 0) (IntKind.u8.wrap (ishl .u8 1 ((K.D:Int).tmod 8) - 1)))
         have e:=ng e
         rw [s0K_step,d8,mask8 (yv _ (by omega)),show ((nP K:Int) - 1).toNat+0=nP K - 1 by omega]
         exact (s0K_mask K (by omega)).symm)
      | (show (rgK K fun k=>decide (0<k) && r (k - 1))=(shK K r 0).set 0 (ishl .u8 ((shK K r 0).getD 0 0) 1)
         have e:=nf e
         rw [s0K_step]
         exact (s0K_full K (by omega)).symm)))
 · rename_i i hi d u hu e
   have e:(!decide (((bit.toNat:Nat):Int)≠ibit .and .u8 (ishr .u8 ((rgK K r).getD ((((K.D:Int) - 1).tdiv 8).toNat+0) 0) (((K.D:Int) - 1).tmod 8)) 1))=true:=e
   rw [ev] at e
   have hx:(bit ^^ r (K.D - 1))=false:=by
    revert e
    cases bit <;> cases r (K.D - 1) <;> simp
   refine Ends.one () trivial ?_
   ((conv=>arg 1;reduce);with_reducible repeat' first | exact ty | refine ta ?_ ?_ | refine ti fun _ => ?_ | refine tf fun _ => ?_ | refine tl ?_)
   all_goals first | exact vlf | (show rgK K (shf K.D (gK K) r bit)=_;rw [← shf_no K hx];rfl) | (show _=rgK K (shf K.D (gK K) r bit);rw [← shf_no K hx];rfl)
 · rename_i i hi d u hu e
   refine Stands.one (0:Nat) ⟨zg _,?_⟩
   ((conv=>arg 1;reduce);with_reducible repeat' first | exact ty | refine ta ?_ ?_ | refine ti fun _ => ?_ | refine tf fun _ => ?_ | refine tl ?_)
   all_goals first | exact vlf | exact xoK_zero K | exact (xoK_zero K).symm
 iterate 8 (focus
  rename_i i hi d u hu e j hj d2
  change Nat at j
  have hj:j≤nP K:=hj
  have d2:(j:Int)<(nP K:Int):=ng d2
  first
  | (refine Stands.one (j+1:Nat) ⟨by show j+1≤nP K;omega,by show nP K - (j+1)<nP K - j;omega,?_⟩
     ((conv=>arg 1;reduce);with_reducible repeat' first | exact ty | refine ta ?_ ?_ | refine ti fun _ => ?_ | refine tf fun _ => ?_ | refine tl ?_)
     all_goals first
      | exact vlf
      | (show xoK K r (j+1)=(xoK K r j).set ((j:Int).toNat+0) (ibit .xor .u8 ((xoK K r j).getD ((j:Int).toNat+0) 0) (lo.getD ((j:Int).toNat+0) 0))
         rw [zu,za j]
         exact (xoK_step K (by omega) hlo).symm))
  | exact d2
  | (rw [lX];show (j:Int).toNat+0<nP K;omega)
  | (show (j:Int).toNat+0<lo.length;omega)
  | exact inR64 (n:=(j:Int)+1) (by omega) (by omega))
 · rename_i i hi d u hu e j hj d2
   change Nat at j
   have hj:j≤nP K:=hj
   have d2:¬ (j:Int)<(nP K:Int):=nf d2
   obtain rfl:j=nP K:=by omega
   have e:(!decide (((bit.toNat:Nat):Int)≠ibit .and .u8 (ishr .u8 ((rgK K r).getD ((((K.D:Int) - 1).tdiv 8).toNat+0) 0) (((K.D:Int) - 1).tmod 8)) 1))=false:=e
   rw [ev] at e
   have hx:(bit ^^ r (K.D - 1))=true:=by
    revert e
    cases bit <;> cases r (K.D - 1) <;> simp
   refine Ends.one () trivial ?_
   ((conv=>arg 1;reduce);with_reducible repeat' first | exact ty | refine ta ?_ ?_ | refine ti fun _ => ?_ | refine tf fun _ => ?_ | refine tl ?_)
   all_goals first | exact vlf | (show rgK K (shf K.D (gK K) r bit)=_;rw [← shf_yes K hx];rfl) | (show _=rgK K (shf K.D (gK K) r bit);rw [← shf_yes K hx];rfl)
end
end
end Go.Vx
namespace Go.Vx
open Go Go.Proofs
noncomputable section
section
variable {F:Gf} (K:Kd F)
theorem rgK_out {r:Nat→Bool} {k:Nat} (h:K.D≤k):bt (rgK K r) k=false:=by
 by_cases hk:k<8*nP K
 · rw [rgK_eq,rgB_bt hk,decide_eq_false (by omega),yf]
 · rw [bt_out (by rw [rgK_len];omega)]
theorem rgK_bt' (r:Nat→Bool) (k:Nat):bt (rgK K r) k=(decide (k<K.D) && r k):=by
 by_cases h:k<K.D
 · rw [rgK_bt K h,decide_eq_true h,zd]
 · rw [rgK_out K (by omega),decide_eq_false h,yf]
@[irreducible] def btI (r:Nat→Bool) (x:Nat) (i:Nat):Nat→Bool:=rgs K.D (gK K) r x.testBit i
theorem btI_zero {r:Nat→Bool} {x:Nat}:rgK K (btI K r x 0)=rgK K r:=by unfold btI;rfl
theorem btI_succ {r:Nat→Bool} {x i:Nat}:rgK K (shf K.D (gK K) (bt (rgK K (btI K r x i))) (x.testBit (7 - i)))=rgK K (btI K r x (i+1)):=by
 refine rgK_congr K fun k hk => ?_
 have:btI K r x (i+1) k=shf K.D (gK K) (btI K r x i) (x.testBit (7 - i)) k:=by unfold btI;rfl
 rw [this]
 exact shf_congr K.D1 (fun k hk=>rgK_bt K hk) hk
@[irreducible] def byK (R:List Int) (x:Int):List Int:=rgK K (btI K (bt R) x.toNat 8)
end
variable [Gl]
section
variable {F:Gf} (K:Kd F)
abbrev cdR (b q cL:Nat):Ck C0:=⟨b,q,263,false,none,.one [.junk,.junk,.junk,.int .i64 (K.D:Int),.junk,.junk,.sl 2 0 (nP K) cL]⟩
abbrev Cr:=Nat×Nat×Nat×Nat×Nat×Nat×Nat×Bool×List Int×Nat×List Int
abbrev Cr.pre:Cr→Prop:=fun (b,q,bR,qR,cR,bL,qL,oL,lo,cL,R)=>nP K≤lo.length∧lo.take (nP K)=by' (nP K) (gK K)∧oL=true∧R=rgK K (bt R)
def fcCShift:Fc Tryz.prog C0 where
 tg:=.fn 53
 X:=Cr×Int
 args:=fun ((b,q,bR,qR,cR,bL,qL,oL,lo,cL,R),z)=>[.ptr 0 0 0,.sl 1 0 (nP K) cR,.int .i64 z]
 mem:=fun ((b,q,bR,qR,cR,bL,qL,oL,lo,cL,R),z)=>[cdR K b q cL,⟨bR,qR,1,true,none,.rows 5 R⟩,⟨bL,qL,1,false,some oL,.rows 5 lo⟩]
 pre:=fun (s,z)=>Cr.pre K s∧0≤z∧z≤1
 alts:=fun ((b,q,bR,qR,cR,bL,qL,oL,lo,cL,R),z)=>[⟨Unit,fun _=>True,fun _=>.tup [],fun _=>[cdR K b q cL,⟨bR,qR,1,true,none,.rows 5 (rgK K (shf K.D (gK K) (bt R) (decide (z=1))))⟩,⟨bL,qL,1,false,some oL,.rows 5 lo⟩]⟩]
 mat vs m:=match vs with
  | [.ptr k _ _,.sl s _ _ cR,.int _ z]=>match nth m k,nth m s with
    | ⟨b,q,_,_,_,.one (_ :: _ :: _ :: _ :: _ :: _ :: .sl w _ _ cL :: _)⟩,⟨bR,qR,_,_,_,.rows 5 R⟩=>match nth m w with
      | ⟨bL,qL,_,_,g,.rows 5 lo⟩=>some (((b,q,bR,qR,cR,bL,qL,onOf g,lo,cL,R),z),[k,s,w])
      | _=>none
    | _,_=>none
  | _=>none
 ok:=fun ((b,q,bR,qR,cR,bL,qL,oL,lo,cL,R),z) h=>by
  obtain ⟨⟨h1,h2,h3,h4⟩,z0,z1⟩:=h
  have hr:∀ k,K.D≤k→bt R k=false:=fun k hk=>by rw [h4];exact rgK_out K hk
  have hz:z=(((decide (z=1)).toNat:Nat):Int):=by
   by_cases e:z=1
   · rw [decide_eq_true e,e];rfl
   · rw [decide_eq_false e];show z=0;omega
  have:=shift_ok K b q bR qR cR bL qL oL lo cL (decide (z=1)) (bt R) h1 h2 h3 hr
  rw [← hz,← h4] at this
  exact this
def Bw1 (r:Nat→Bool) (x:Nat):Inv' C0:=⟨1,Nat,fun i=>[(6,.int .i64 (7 - (i:Int)))],fun i m=>match m with
 | [c,t,l]=>[c,⟨t.block,t.base,1,true,t.gl,.rows 5 (rgK K (btI K r x i))⟩,l]
 | m=>m,fun i=>i≤8,fun i=>8 - i⟩
set_option maxHeartbeats 8000000 in
theorem bitwise_ok (s:Cr) (x:Nat) (hx:x<256) (h:Cr.pre K s):match s with
 | (b,q,bR,qR,cR,bL,qL,oL,lo,cL,R)=>Does (C:=C0) Tryz.prog (.fn 54) [cdR K b q cL,⟨bR,qR,1,true,none,.rows 5 R⟩,⟨bL,qL,1,false,some oL,.rows 5 lo⟩] [.ptr 0 0 0,.sl 1 0 (nP K) cR,.int .u8 (x:Int)]
     [⟨Unit,fun _=>True,fun _=>.tup [],fun _=>[cdR K b q cL,⟨bR,qR,1,true,none,.rows 5 (byK K R (x:Int))⟩,⟨bL,qL,1,false,some oL,.rows 5 lo⟩]⟩]:=by
 obtain ⟨b,q,bR,qR,cR,bL,qL,oL,lo,cL,R⟩:=s
 obtain ⟨h1,h2,h3,h4⟩:=h
 show Does _ _ _ _ _
 have ev:∀ i:Nat,i<8→ibit .and .u8 (ishr .u8 (x:Int) (7 - (i:Int))) 1=(((x.testBit (7 - i)).toNat:Nat):Int):=fun i hi=>by
  rw [show (7:Int) - (i:Int)=((7 - i:Nat):Int) by omega,bitI ⟨by omega,by omega⟩ (by omega),zu]
 refine loc_fn (P:=Tryz.prog) (E:=⟨[fcCShift K],[],19,[],[],[],none⟩) (L:=[Bw1 K (bt R) x]) mix Tryz.func54 rfl (by kernel_rfl) (by kernel_rfl) rfl rfl ?_
 ((conv=>arg 1;reduce);with_reducible repeat' first | exact ty | refine ta ?_ ?_ | refine ti fun _ => ?_ | refine tf fun _ => ?_ | refine tl ?_)
 all_goals try exact vlf
 · refine Stands.one (0:Nat) ⟨zg _,?_⟩
   ((conv=>arg 1;reduce);with_reducible repeat' first | exact ty | refine ta ?_ ?_ | refine ti fun _ => ?_ | refine tf fun _ => ?_ | refine tl ?_)
   all_goals first
    | exact vlf
    | (show rgK K (btI K (bt R) x 0)=R;rw [btI_zero,← h4])
    | (show R=rgK K (btI K (bt R) x 0);rw [btI_zero,← h4])
 all_goals try (
  rename_i i hi d
  change Nat at i
  have hi:i≤8:=hi
  have d:(0:Int)≤7 - (i:Int):=ng d
  first
  | exact d
  | (rw [ev i (by omega)];have:=ul (x.testBit (7 - i));exact inR64 (n:=(((x.testBit (7 - i)).toNat:Nat):Int)) (by omega) (by omega))
  | (have hb:=ul (x.testBit (7 - i))
     refine ⟨⟨h1,h2,h3,?_⟩,?_,?_⟩
     · exact rgK_congr K fun k hk=>(rgK_bt K hk).symm
     · show 0≤ibit .and .u8 (ishr .u8 (x:Int) (7 - (i:Int))) 1
       rw [ev i (by omega)];omega
     · show ibit .and .u8 (ishr .u8 (x:Int) (7 - (i:Int))) 1≤1
       rw [ev i (by omega)];omega))
 all_goals try (
  rename_i i hi d u hu
  change Nat at i
  have hi:i≤8:=hi
  have d:(0:Int)≤7 - (i:Int):=ng d
  have hd:decide (ibit .and .u8 (ishr .u8 (x:Int) (7 - (i:Int))) 1=1)=x.testBit (7 - i):=by
   rw [ev i (by omega)]
   cases x.testBit (7 - i) <;> rfl
  first
  | exact inR64 (n:=7 - (i:Int) - 1) (by omega) (by omega)
  | (refine Stands.one (i+1:Nat) ⟨by show i+1≤8;omega,by show 8 - (i+1)<8 - i;omega,?_⟩
     ((conv=>arg 1;reduce);with_reducible repeat' first | exact ty | refine ta ?_ ?_ | refine ti fun _ => ?_ | refine tf fun _ => ?_ | refine tl ?_)
     all_goals first
      | exact vlf
      | (show 7 - (i:Int) - 1=7 - ((i+1:Nat):Int);omega)
      | (show rgK K (btI K (bt R) x (i+1))=rgK K (shf K.D (gK K) (bt (rgK K (btI K (bt R) x i))) (decide (ibit .and .u8 (ishr .u8 (x:Int) (7 - (i:Int))) 1=1)));rw [hd,btI_succ])))
 · rename_i i hi d
   change Nat at i
   have hi:i≤8:=hi
   have d:¬ (0:Int)≤7 - (i:Int):=nf d
   obtain rfl:i=8:=by omega
   have e:byK K R (x:Int)=rgK K (btI K (bt R) x 8):=by unfold byK;rw [zu]
   refine Ends.one () trivial ?_
   ((conv=>arg 1;reduce);with_reducible repeat' first | exact ty | refine ta ?_ ?_ | refine ti fun _ => ?_ | refine tf fun _ => ?_ | refine tl ?_)
   all_goals first | exact vlf | exact e | exact e.symm | (rw [e];rfl)
def fcBit:Fc Tryz.prog C0 where
 tg:=.fn 54
 X:=Cr×Int
 args:=fun ((b,q,bR,qR,cR,bL,qL,oL,lo,cL,R),z)=>[.ptr 0 0 0,.sl 1 0 (nP K) cR,.int .u8 z]
 mem:=fun ((b,q,bR,qR,cR,bL,qL,oL,lo,cL,R),z)=>[cdR K b q cL,⟨bR,qR,1,true,none,.rows 5 R⟩,⟨bL,qL,1,false,some oL,.rows 5 lo⟩]
 pre:=fun (s,z)=>Cr.pre K s∧0≤z∧z<256
 alts:=fun ((b,q,bR,qR,cR,bL,qL,oL,lo,cL,R),z)=>[⟨Unit,fun _=>True,fun _=>.tup [],fun _=>[cdR K b q cL,⟨bR,qR,1,true,none,.rows 5 (byK K R z)⟩,⟨bL,qL,1,false,some oL,.rows 5 lo⟩]⟩]
 mat vs m:=match vs with
  | [.ptr k _ _,.sl s _ _ cR,.int _ z]=>match nth m k,nth m s with
    | ⟨b,q,_,_,_,.one (_ :: _ :: _ :: _ :: _ :: _ :: .sl w _ _ cL :: _)⟩,⟨bR,qR,_,_,_,.rows 5 R⟩=>match nth m w with
      | ⟨bL,qL,_,_,g,.rows 5 lo⟩=>some (((b,q,bR,qR,cR,bL,qL,onOf g,lo,cL,R),z),[k,s,w])
      | _=>none
    | _,_=>none
  | _=>none
 ok:=fun (s,z) h=>by
  obtain ⟨z,rfl⟩:=yh h.2.1
  have h3:((z:Nat):Int)<256:=h.2.2
  exact bitwise_ok K s z (by omega) h.1
end
end
end Go.Vx
