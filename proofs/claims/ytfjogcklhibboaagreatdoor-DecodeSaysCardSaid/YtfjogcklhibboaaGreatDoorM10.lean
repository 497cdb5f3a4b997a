/-
  Round 10: Decode of lists of any lengths: too long, or az it is told.
  Round 10: errors az plain data; all nineteen laid.
  Round 10: DecodeSpare: the walk.
  Round 10: DecodeSays: the walk.
  Round 10: the errors that are laid; the inputs.
  Conditions: none.
-/
import Derived.Test.YtfjogcklhibboaaGreatDoorM4
import Derived.Test.YtfjogcklhibboaaGreatDoorM7
import Derived.Test.YtfjogcklhibboaaGreatDoorM9
import Derived.Test.YtfjogcklhibboaaGreatDoorRows
import Derived.LaidMore
import Derived.ChangeOld
import Derived.Below
import Derived.Stop.Joined
import Derived.Lib.SmallJoins
open Bool renaming and_eq_true → zq, and_false → tn, or_eq_true → yd
open List renaming drop_zero → zm, take_of_length_le → zc
open Nat renaming le_refl → zw, succ → nc
set_option linter.unusedVariables false
set_option linter.unusedSimpArgs false
set_option linter.unusedSectionVars false
set_option maxRecDepth 100000
namespace Go.Vx
open Go Go.Proofs
noncomputable section
variable [Gl]
theorem does_sub {P:Program} {tg:Tg} {mem:List (Ck C0)} {args:List SV} {alts alts':List (Alt C0)} (h:Does P tg mem args alts) (hs:∀ B∈alts,B∈alts'∨∀ y,¬ B.post y):Does P tg mem args alts':=by
 intro w hw
 obtain ⟨f,vals,hr,hc⟩:=h w hw
 refine ⟨f,vals,hr,hc.mono ?_⟩
 rintro e w' ⟨r,m',he,hm',hx,B,hB,y,hy,h1⟩
 rcases hs B hB with h2 | h2
 · exact ⟨r,m',he,hm',hx,B,h2,y,hy,h1⟩
 · exact absurd hy (h2 y)
section
variable {F:Gf} (K:Kd F) (d:Nat)
def fcDe1 (hT:Bool) (k:Nat):Fc Tryz.prog C0 where
 tg:=(fcDecode F).tg
 X:=(fcDecode F).X
 args:=(fcDecode F).args
 mem:=(fcDecode F).mem
 pre:=fun (u,(bC,qC,t',d',g',r),x,(o,b,q,l,i,n,c),(o',b',q',l',i',n',c'))=>((t'=K.t∧d'=d∧g'=K.D∧r=nP K)∧K.t≤40∧1≤d∧d<100000∧K.D<100000)∧(Sl3.pre (o,b,q,l,i,n,c)∧Sl3.pre (o',b',q',l',i',n',c'))∧(Byt8 ((l.drop i).take n)∧Byt8 ((l'.drop i').take n'))∧(n=d→n'=nP K→match hT with
  | true=>mdC K d ((l.drop i).take n) ((l'.drop i').take n')∨mdM K d ((l.drop i).take n) ((l'.drop i').take n')
  | false=>mdX K d ((l.drop i).take n) ((l'.drop i').take n'))
 alts:=fun ((bd,qd),(bC,qC,t,d',g,r),(bF,qF,be,qe,bl,ql),(o,b,q,l,i,n,c),(o',b',q',l',i',n',c'))=>
  [⟨Unit,fun _=>n≠d∨n'≠nP K,fun _=>.tup [.nils,.nils,.nils,eV 0],fun _=>dcC F bd qd bC qC t d' g r bF qF be qe bl ql ++ [⟨b,q,1,false,some o,.rows 5 l⟩,⟨b',q',1,false,some o',.rows 5 l'⟩]⟩,
   match hT with
   | true=>⟨Os×Os×Oq,fun y=>n=d∧n'=nP K,fun y=>.tup [.sl 7 0 d' y.1.2.2.2,.sl 8 0 r y.2.1.2.2.2,.sl 9 0 (ocZ K d ((l.drop i).take n) ((l'.drop i').take n')).length y.2.2.2.2.2.2,.nili],fun y=>dcC F bd qd bC qC t d' g r bF qF be qe bl ql ++ [⟨b,q,1,false,some o,.rows 5 l⟩,⟨b',q',1,false,some o',.rows 5 l'⟩,osB true y.1,osB true y.2.1,oqC true y.2.2]⟩
   | false=>⟨Unit,fun y=>n=d∧n'=nP K,fun _=>.tup [.nils,.nils,.nils,eV 1],fun _=>dcC F bd qd bC qC t d' g r bF qF be qe bl ql ++ [⟨b,q,1,false,some o,.rows 5 l⟩,⟨b',q',1,false,some o',.rows 5 l'⟩]⟩]
 mat vs m:=match Nat.beq m.length k with
  | true=>(fcDecode F).mat vs m
  | false=>none
 ok:=fun ((bd,qd),(bC,qC,t,d',g,r),(bF,qF,be,qe,bl,ql),(o,b,q,l,i,n,c),(o',b',q',l',i',n',c')) h=>by
  obtain ⟨⟨⟨rfl,rfl,rfl,rfl⟩,t40,d1,d2,g2⟩,⟨h1,h2⟩,⟨k1,k2⟩,hm⟩:=h
  by_cases hl:n=d'∧n'=nP K
  · obtain ⟨rfl,rfl⟩:=hl
    have H:DcOK K n ((l.drop i).take n) ((l'.drop i').take (nP K)):=⟨t40,d1,d2,g2,k1,k2,row_len h1.1,row_len h2.1⟩
    have hm:=hm rfl rfl
    cases hT with
    | true=>exact does_alt ((fcDeT K n).ok ((bd,qd),(bC,qC,K.t,n,K.D,nP K),(bF,qF,be,qe,bl,ql),(o,b,q,l,i,n,c),(o',b',q',l',i',nP K,c')) ⟨⟨⟨rfl,rfl,rfl,rfl⟩,⟨⟨rfl,h1⟩,rfl,h2⟩,rfl,rfl⟩,H,hm⟩) (fun _ _=>⟨rfl,rfl⟩) (.tail _ (.head _))
    | false=>exact does_alt ((fcDcX H hm).ok ((bd,qd),(bC,qC,K.t,n,K.D,nP K),(bF,qF,be,qe,bl,ql),(o,b,q,l,i,n,c),(o',b',q',l',i',nP K,c')) ⟨⟨rfl,rfl,rfl,rfl⟩,⟨⟨rfl,h1⟩,rfl,h2⟩,rfl,rfl⟩) (fun _ _=>⟨rfl,rfl⟩) (.tail _ (.head _))
  · refine does_sub ((fcDecode F).ok ((bd,qd),(bC,qC,K.t,d',K.D,nP K),(bF,qF,be,qe,bl,ql),(o,b,q,l,i,n,c),(o',b',q',l',i',n',c')) ⟨⟨t40,d2,g2,rfl,d1,K.D1⟩,⟨h1,h2⟩,k1,k2⟩) fun B hB => ?_
    rcases List.mem_cons.1 hB with rfl | hB
    · exact .inl (.head _)
    rcases List.mem_cons.1 hB with rfl | hB
    · exact .inr fun _ hp=>hl hp.1
    rcases List.mem_cons.1 hB with rfl | hB
    · exact .inr fun _ hp=>hl hp.1
    · rw [List.mem_singleton.1 hB]
      exact .inr fun _ hp=>hl hp.1
def fcRdecT:Fc Tryz.prog C0:=fcOnly (fcRdec K (d:=d)) 0 (fun ((o,b,q,l,L,c),(o1,b1,q1,l1,i1,c1),(o2,b2,q2,l2,i2,c2))=>mdC K d ((l1.drop i1).take d) ((l2.drop i2).take (nP K))∨mdM K d ((l1.drop i1).take d) ((l2.drop i2).take (nP K))) (fun ((o,b,q,l,L,c),(o1,b1,q1,l1,i1,c1),(o2,b2,q2,l2,i2,c2)) _ h B hB=>by
    rcases List.mem_cons.1 hB with rfl | hB
    · exact .inr rfl
    · rw [List.mem_singleton.1 hB]
      exact .inl fun _ hp=>mdX_no K hp h) none
def fcRdecX:Fc Tryz.prog C0:=fcOnly (fcRdec K (d:=d)) 1 (fun ((o,b,q,l,L,c),(o1,b1,q1,l1,i1,c1),(o2,b2,q2,l2,i2,c2))=>mdX K d ((l1.drop i1).take d) ((l2.drop i2).take (nP K))) (fun ((o,b,q,l,L,c),(o1,b1,q1,l1,i1,c1),(o2,b2,q2,l2,i2,c2)) _ h B hB=>by
    rcases List.mem_cons.1 hB with rfl | hB
    · exact .inl fun _ hp=>mdX_no K h hp.1
    · exact .inr (List.mem_singleton.1 hB)) none
end
end
end Go.Vx
namespace Go.Vx
open Go Go.Proofs
class Gl0 where
 A:Nat→Addr
 c:Nat→Array Value
 t:Nat→TypeId
@[reducible] instance glAll [Gl0]:Gl:=⟨Gl0.A,Gl0.c,Gl0.t,19⟩
variable [Gl0]
abbrev er (a:Addr):SV:=.ifc 193 (.val (.pointer (some a)))
abbrev flt (n:Int):SV:=.agg [.int .i64 n,.nils]
theorem bare_ok (n:Int):Tells (C:=C0) Tryz.prog (.fn 44) [] [.int .i64 n] (flt n):=by
 refine loc_pc (P:=Tryz.prog) (E:=⟨[],[],5,[],[],[],none⟩) (L:=[]) mix Tryz.func44 rfl (by kernel_rfl) (by kernel_rfl) rfl rfl ?_
 exact vgo
theorem none_ok:Tells (C:=C0) Tryz.prog (.fn 96) [] [] (flt 0):=by
 refine loc_pc (P:=Tryz.prog) (E:=⟨[],[],2,[],[],[],none⟩) (L:=[]) mix Tryz.func96 rfl (by kernel_rfl) (by kernel_rfl) rfl rfl ?_
 exact vgo
def Si0:Inv' C0:=⟨4,Unit,fun _=>[(5,.int .i64 0)],fun _ m=>m,fun _=>True,fun _=>0⟩
theorem sameInts0:Tells (C:=C0) Tryz.prog (.fn 17) [] [.nils,.nils] (.bool .t):=by
 refine loc_pc (P:=Tryz.prog) (E:=⟨[],[],29,[],[],[],none⟩) (L:=[Si0]) mix Tryz.func17 rfl (by kernel_rfl) (by kernel_rfl) rfl rfl ?_
 ((conv=>arg 1;reduce);with_reducible repeat' first | exact ty | refine ta ?_ ?_ | refine ti fun _ => ?_ | refine tf fun _ => ?_ | refine tl ?_)
 all_goals try first | (show Region.lexB _ _=true;kernel_rfl) | (show planned _ _=true;kernel_rfl) | exact rfl | exact True.intro
 all_goals try exact absurd (by with_reducible assumption:decide ((0:Int)<0)=true) (by decide)
 all_goals try exact absurd (by with_reducible assumption:decide ((0:Int)≠0)=true) (by decide)
 · refine Stands.one () ⟨trivial,?_⟩
   exact vgo
def pcBare:Pc Tryz.prog C0 where
 tg:=.fn 44
 X:=Int
 args n:=[.int .i64 n]
 mem _:=[]
 pre _:=True
 res n:=flt n
 mat vs _:=match vs with
  | [.int _ n]=>some (n,[])
  | _=>none
 ok n _:=bare_ok n
def pcNone:Pc Tryz.prog C0 where
 tg:=.fn 96
 X:=Unit
 args _:=[]
 mem _:=[]
 pre _:=True
 res _:=flt 0
 mat _ _:=some ((),[])
 ok _ _:=none_ok
def pcSameInts0:Pc Tryz.prog C0 where
 tg:=.fn 17
 X:=Unit
 args _:=[.nils,.nils]
 mem _:=[]
 pre _:=True
 res _:=.bool .t
 mat vs _:=match vs with
  | [.nils,.nils]=>some ((),[])
  | _=>none
 ok _ _:=sameInts0
theorem sameFault_ok (a b:Int):Tells (C:=C0) Tryz.prog (.fn 73) [] [flt a,flt b] (.bool (.tm (decide (a=b)))):=by
 refine loc_pc (P:=Tryz.prog) (E:=⟨[],[pcSameInts0],19,[],[],[],none⟩) (L:=[]) mix Tryz.func73 rfl (by kernel_rfl) (by kernel_rfl) rfl rfl ?_
 ((conv=>arg 1;reduce);with_reducible repeat' first | exact ty | refine ta ?_ ?_ | refine ti fun _ => ?_ | refine tf fun _ => ?_ | refine tl ?_)
 all_goals try first | (show Region.lexB _ _=true;kernel_rfl) | (show planned _ _=true;kernel_rfl) | exact rfl | exact True.intro
def pcSameFault:Pc Tryz.prog C0 where
 tg:=.fn 73
 X:=Int×Int
 args x:=[flt x.1,flt x.2]
 mem _:=[]
 pre _:=True
 res x:=.bool (.tm (decide (x.1=x.2)))
 mat vs _:=match vs with
  | [.agg [.int _ a,.nils],.agg [.int _ b,.nils]]=>some ((a,b),[])
  | _=>none
 ok x _:=sameFault_ok x.1 x.2
theorem fault_nil:Tells (C:=C0) Tryz.prog (.fn 72) [] [.nili] (flt 0):=by
 refine loc_pc (P:=Tryz.prog) (E:=⟨[],[pcNone],8,[],[],[],none⟩) (L:=[]) mix Tryz.func72 rfl (by kernel_rfl) (by kernel_rfl) rfl rfl ?_
 ((conv=>arg 1;reduce);with_reducible repeat' first | exact ty | refine ta ?_ ?_ | refine ti fun _ => ?_ | refine tf fun _ => ?_ | refine tl ?_)
 all_goals try first | (show Region.lexB _ _=true;kernel_rfl) | (show planned _ _=true;kernel_rfl) | exact rfl | exact True.intro
def pcFault0:Pc Tryz.prog C0 where
 tg:=.fn 72
 X:=Unit
 args _:=[.nili]
 mem _:=[]
 pre _:=True
 res _:=flt 0
 mat vs _:=match vs with
  | [.nili]=>some ((),[])
  | _=>none
 ok _ _:=fault_nil
theorem same_nil (c:Int):Tells (C:=C0) Tryz.prog (.fn 43) [] [.nili,flt c] (.bool (.tm (decide (0=c)))):=by
 refine loc_pc (P:=Tryz.prog) (E:=⟨[],[pcFault0,pcSameFault],11,[],[],[],none⟩) (L:=[]) mix Tryz.func43 rfl (by kernel_rfl) (by kernel_rfl) rfl rfl ?_
 ((conv=>arg 1;reduce);with_reducible repeat' first | exact ty | refine ta ?_ ?_ | refine ti fun _ => ?_ | refine tf fun _ => ?_ | refine tl ?_)
 all_goals try first | (show Region.lexB _ _=true;kernel_rfl) | (show planned _ _=true;kernel_rfl) | exact rfl | exact True.intro
def pcSameE0:Pc Tryz.prog C0 where
 tg:=.fn 43
 X:=Int
 args c:=[.nili,flt c]
 mem _:=[]
 pre _:=True
 res c:=.bool (.tm (decide (0=c)))
 mat vs _:=match vs with
  | [.nili,.agg [.int _ c,.nils]]=>some (c,[])
  | _=>none
 ok c _:=same_nil c
theorem is_nil (c:Int):Tells (C:=C0) Tryz.prog (.fn 19) [] [.nili,.int .i64 c] (.bool (.tm (decide (0=c)))):=by
 refine loc_pc (P:=Tryz.prog) (E:=⟨[],[pcBare,pcSameE0],9,[],[],[],none⟩) (L:=[]) mix Tryz.func19 rfl (by kernel_rfl) (by kernel_rfl) rfl rfl ?_
 ((conv=>arg 1;reduce);with_reducible repeat' first | exact ty | refine ta ?_ ?_ | refine ti fun _ => ?_ | refine tf fun _ => ?_ | refine tl ?_)
 all_goals try first | (show Region.lexB _ _=true;kernel_rfl) | (show planned _ _=true;kernel_rfl) | exact rfl | exact True.intro
def pcIs0:Pc Tryz.prog C0 where
 tg:=.fn 19
 X:=Int
 args c:=[.nili,.int .i64 c]
 mem _:=[]
 pre _:=True
 res c:=.bool (.tm (decide (0=c)))
 mat vs _:=match vs with
  | [.nili,.int _ c]=>some (c,[])
  | _=>none
 ok c _:=is_nil c
theorem LocG.args {C:Nat→Codec} {P:Program} {tg:Tg} {m:List (Ck C)} {args args':List SV} {post:SV→List (Ck C)→Prop} (h:LocG P tg m args post) (he:SV.vas (ads m) args=SV.vas (ads m) args'):LocG P tg m args' post:=by
 intro w hm
 rw [← he]
 exact h w hm
theorem Tells.res {C:Nat→Codec} {P:Program} {tg:Tg} {mem:List (Ck C)} {args:List SV} {res res':SV} (h:Tells P tg mem args res) (he:res.va (ads mem)=res'.va (ads mem)):Tells P tg mem args res':=by
 intro w hm
 obtain ⟨f,vals,h1,h2⟩:=h w hm
 refine ⟨f,vals,h1,h2.mono ?_⟩
 rintro e w' ⟨r,m',rfl,hm',hx,rfl,rfl⟩
 exact ⟨res',m',by rw [he],hm',hx,rfl,rfl⟩
theorem plainN:∀ g,g<19→Plain C0 (Gl.A g)
 | 0,_=>⟨0,_,_,List.Mem.head _⟩
 | 1,_=>⟨1,_,_,List.Mem.head _⟩
 | 2,_=>⟨2,_,_,List.Mem.head _⟩
 | 3,_=>⟨3,_,_,List.Mem.head _⟩
 | 4,_=>⟨4,_,_,List.Mem.head _⟩
 | 5,_=>⟨5,_,_,List.Mem.head _⟩
 | 6,_=>⟨6,_,_,List.Mem.head _⟩
 | 7,_=>⟨7,_,_,List.Mem.head _⟩
 | 8,_=>⟨8,_,_,List.Mem.head _⟩
 | 9,_=>⟨9,_,_,List.Mem.head _⟩
 | 10,_=>⟨10,_,_,List.Mem.head _⟩
 | 11,_=>⟨11,_,_,List.Mem.head _⟩
 | 12,_=>⟨12,_,_,List.Mem.head _⟩
 | 13,_=>⟨13,_,_,List.Mem.head _⟩
 | 14,_=>⟨14,_,_,List.Mem.head _⟩
 | 15,_=>⟨15,_,_,List.Mem.head _⟩
 | 16,_=>⟨16,_,_,List.Mem.head _⟩
 | 17,_=>⟨17,_,_,List.Mem.head _⟩
 | 18,_=>⟨18,_,_,List.Mem.head _⟩
 | g+19,h=>absurd h (by omega)
@[irreducible] def sentL:List (Option Addr):=[some (Gl.A 4),some (Gl.A 2),some (Gl.A 5),some (Gl.A 0),some (Gl.A 3),some (Gl.A 1),some (Gl.A 6),some (Gl.A 7),some (Gl.A 8),some (Gl.A 9),some (Gl.A 10),some (Gl.A 11),some (Gl.A 12),some (Gl.A 13),some (Gl.A 14),some (Gl.A 15),some (Gl.A 16),some (Gl.A 17),some (Gl.A 18)]
set_option maxHeartbeats 4000000 in
theorem sent_ok:Does (C:=C0) Tryz.prog (.fn 129) [] [] [⟨Nat,fun _=>True,fun _=>.sl 0 0 19 19,fun y=>[⟨y,0,1,true,none,.rows 35 sentL⟩]⟩]:=by
 refine loc_fn (P:=Tryz.prog) (E:=⟨[],[],21,[],[],[],none⟩) (L:=[]) mix Tryz.func129 rfl (by kernel_rfl) (by kernel_rfl) rfl rfl ?_
 ((conv=>arg 1;reduce);with_reducible repeat' first | exact ty | refine ta ?_ ?_ | refine ti fun _ => ?_ | refine tf fun _ => ?_ | refine tl ?_)
 all_goals try first | (show Region.lexB _ _=true;kernel_rfl) | (show planned _ _=true;kernel_rfl) | exact rfl | exact True.intro
 · rename_i b
   refine Ends.one b trivial ?_
   ((conv=>arg 1;reduce);with_reducible repeat' first | exact ty | refine ta ?_ ?_ | refine ti fun _ => ?_ | refine tf fun _ => ?_ | refine tl ?_)
   all_goals first | exact vlf | (unfold sentL;rfl)
noncomputable def fcSent:Fc Tryz.prog C0 where
 tg:=.fn 129
 X:=Unit
 args _:=[]
 mem _:=[]
 pre _:=True
 alts _:=[⟨Nat,fun _=>True,fun _=>.sl 0 0 19 19,fun y=>[⟨y,0,1,true,none,.rows 35 sentL⟩]⟩]
 mat _ _:=some ((),[])
 ok _ _:=sent_ok
theorem alike_nil (a:Addr):Tells (C:=C0) Tryz.prog (.fn 130) [] [er a,.nili] (.bool .f):=by
 refine loc_pc (P:=Tryz.prog) (E:=⟨[],[],20,[],[],[],none⟩) (L:=[]) mix Tryz.func130 rfl (by kernel_rfl) (by kernel_rfl) rfl rfl ?_
 exact vgo
theorem alike_er (a b:Addr) (ha:Plain C0 a) (hb:Plain C0 b):Tells (C:=C0) Tryz.prog (.fn 130) [] [er a,er b] (.bool (.tm (decide (a=b)))):=by
 refine loc_pc (P:=Tryz.prog) (E:=⟨[],[],20,[],[],[],none⟩) (L:=[]) mix Tryz.func130 rfl (by kernel_rfl) (by kernel_rfl) rfl rfl ?_
 ((conv=>arg 1;reduce);with_reducible repeat' first | exact ty | refine ta ?_ ?_ | refine ti fun _ => ?_ | refine tf fun _ => ?_ | refine tl ?_)
 all_goals first | first | (show Region.lexB _ _=true;kernel_rfl) | (show planned _ _=true;kernel_rfl) | exact rfl | exact True.intro | exact ha | exact hb
@[irreducible] def isErr (v:Value) (a:Addr):Bool:=match v with
  | .iface 193 (.pointer (some b))=>decide (a=b)
  | _=>false
theorem isErr_V (y:Option Addr) (a:Addr):isErr (errV y) a=decide (y=some a):=by
 unfold isErr errV
 cases y with
 | none=>simp
 | some b=>simp [eq_comm]
structure ErrIs (v:Value):Prop where
 ex:∃ y,v=errV y∧∀ b,y=some b→Plain C0 b
theorem alike_ok (a:Addr) (v:Value) (ha:Plain C0 a) (hv:ErrIs v):Tells (C:=C0) Tryz.prog (.fn 130) [] [er a,.val v] (.bool (.tm (isErr v a))):=by
 obtain ⟨y,rfl,hy⟩:=hv
 rw [isErr_V]
 cases y with
 | none=>
   refine Tells.res (res:=.bool .f) (LocG.args (args:=[er a,.nili]) (alike_nil a) ?_) ?_
   · simp [SV.vas,SV.va,errV]
   · simp [SV.va,SB.val]
 | some b=>
   refine Tells.res (res:=.bool (.tm (decide (a=b)))) (LocG.args (args:=[er a,er b]) (alike_er a b ha (hy b rfl)) ?_) ?_
   · simp [SV.vas,SV.va,errV]
   · simp [SV.va,SB.val,eq_comm]
noncomputable def pcAlikeE:Pc Tryz.prog C0 where
 tg:=.fn 130
 X:=Addr×Value
 args x:=[er x.1,.val x.2]
 mem _:=[]
 pre x:=Plain C0 x.1∧ErrIs x.2
 res x:=.bool (.tm (isErr x.2 x.1))
 mat vs _:=match vs with
  | [.ifc 193 (.val (.pointer (some a))),.val v]=>some ((a,v),[])
  | _=>none
 ok x h:=alike_ok x.1 x.2 h.1 h.2
def idxE:List (Option Addr)→Addr→Int→Int
 | [],_,_ => -1
 | x :: r,a,n=>if x=some a then n else idxE r a (n+1)
theorem idxE_at:∀ (l:List (Option Addr)) (a:Addr) (n:Int) (i:Nat),i<l.length→l.getD i none=some a→(∀ j,j<i→l.getD j none≠some a)→idxE l a n=n+i
 | [],_,_,_,h,_,_=>by simp at h
 | x :: r,a,n,0,_,h,_=>by
   have:x=some a:=by simpa using h
   simp [idxE,this]
 | x :: r,a,n,i+1,h,h1,h2=>by
   have hx:¬ x=some a:=by simpa using h2 0 (by omega)
   simp only [idxE,if_neg hx]
   rw [idxE_at r a (n+1) i (by simpa using h) (by simpa using h1) (fun j hj=>by simpa using h2 (j+1) (by omega))]
   omega
theorem idxE_no:∀ (l:List (Option Addr)) (a:Addr) (n:Int),(∀ j,j<l.length→l.getD j none≠some a)→idxE l a n = -1
 | [],_,_,_=>rfl
 | x :: r,a,n,h=>by
   have hx:¬ x=some a:=by simpa using h 0 (by simp)
   simp only [idxE,if_neg hx]
   exact idxE_no r a (n+1) fun j hj=>by simpa using h (j+1) (by simpa using hj)
@[irreducible] def codeOf (a:Addr):Int:=idxE sentL a 101
theorem sentL_len:sentL.length=19:=by unfold sentL;rfl
theorem sentL_in (j:Nat) (hj:j<19):∃ g,g<19∧sentL.getD j none=some (Gl.A g):=by
 unfold sentL
 rcases j with _ | _ | _ | _ | _ | _ | _ | _ | _ | _ | _ | _ | _ | _ | _ | _ | _ | _ | _ | j
 all_goals first | exact ⟨_,by omega,rfl⟩ | exact ⟨_,by decide,rfl⟩ | omega
theorem sent_is (j:Nat):ErrIs (errV (sentL.getD j none)):=by
 refine ⟨_,rfl,fun b hb => ?_⟩
 by_cases hj:j<19
 · obtain ⟨g,hg,he⟩:=sentL_in j hj
   rw [he] at hb
   simp only [Option.some.injEq] at hb;subst hb
   exact plainN g hg
 · rw [List.getD_eq_getElem?_getD,List.getElem?_eq_none (by rw [sentL_len];omega)] at hb
   cases hb
attribute [local irreducible] errV
def Se (a:Addr):Inv' C0:=⟨3,Nat,fun i=>[(4,.int .i64 i)],fun _ m=>m,fun i=>i≤19∧∀ j,j<i→sentL.getD j none≠some a,fun i=>19 - i⟩
theorem Se.at {a:Addr} {i:Nat} (hi:(Se a).inv i) (hc:i<19) (he:isErr (errV (sentL.getD i none)) a=true):codeOf a=101+i:=by
 rw [isErr_V] at he
 unfold codeOf
 exact idxE_at _ _ _ i (by rw [sentL_len];exact hc) (ng he) hi.2
theorem Se.more {a:Addr} {i:Nat} (hi:(Se a).inv i) (hc:i<19) (he:isErr (errV (sentL.getD i none)) a=false):(Se a).inv (nc i)∧(Se a).meas (nc i)<(Se a).meas i:=by
 rw [isErr_V] at he
 refine ⟨⟨hc,fun j hj => ?_⟩,by show 19 - (i+1)<19 - i;omega⟩
 rcases Nat.lt_succ_iff_lt_or_eq.1 hj with h1 | h1
 · exact hi.2 j h1
 · rw [h1];exact nf he
theorem Se.no {a:Addr} {i:Nat} (hi:(Se a).inv i) (hc:¬ (i:Int)<19):codeOf a = -1:=by
 unfold codeOf
 exact idxE_no _ _ _ fun j hj=>hi.2 j (by rw [sentL_len] at hj;omega)
theorem sentinel_ok (a:Addr) (ha:Plain C0 a):Tells (C:=C0) Tryz.prog (.fn 121) [] [er a] (.int .i64 (codeOf a)):=by
 refine loc_pc (P:=Tryz.prog) (E:=⟨[fcSent],[pcAlikeE],20,[],[],[],none⟩) (L:=[Se a]) mix Tryz.func121 rfl (by kernel_rfl) (by kernel_rfl) rfl rfl ?_
 ((conv=>arg 1;reduce);with_reducible repeat' first | exact ty | refine ta ?_ ?_ | refine ti fun _ => ?_ | refine tf fun _ => ?_ | refine tl ?_)
 all_goals try first | (show Region.lexB _ _=true;kernel_rfl) | (show planned _ _=true;kernel_rfl) | exact rfl | exact True.intro
 · refine Stands.one (0:Nat) ⟨⟨Nat.zero_le _,fun j hj=>absurd hj (Nat.not_lt_zero _)⟩,?_⟩
   exact vgo
 · rename_i i hi hc
   change Nat at i
   omega
 · rename_i i hi hc
   exact ng hc
 · rename_i i hi hc
   change Nat at i
   have hc:=ng hc
   rw [sentL_len];omega
 · exact ⟨ha,sent_is _⟩
 · rename_i i hi hc he
   change Nat at i
   have hc:=ng hc
   exact inR64 (by omega) (by omega)
 · rename_i i hi hc he
   change Nat at i
   have hc:=ng hc
   exact (Se.at hi (by omega) he).symm
 · rename_i i hi hc he
   change Nat at i
   have hc:=ng hc
   exact inR64 (by omega) (by omega)
 · rename_i i hi hc he
   change Nat at i
   have hc:=ng hc
   obtain ⟨k1,k2⟩:=Se.more hi (by omega) he
   refine Stands.one (nc i) ⟨k1,k2,?_⟩
   exact vgo
 · rename_i i hi hc
   exact (Se.no hi (nf hc)).symm
def pcSentinel:Pc Tryz.prog C0 where
 tg:=.fn 121
 X:=Addr
 args a:=[er a]
 mem _:=[]
 pre a:=Plain C0 a
 res a:=.int .i64 (codeOf a)
 mat vs _:=match vs with
  | [.ifc 193 (.val (.pointer (some a)))]=>some (a,[])
  | _=>none
 ok a h:=sentinel_ok a h
theorem faultE_ok (a:Addr) (ha:Plain C0 a):Tells (C:=C0) Tryz.prog (.fn 97) [] [er a,.int .i64 9] (flt (codeOf a)):=by
 refine loc_pc (P:=Tryz.prog) (E:=⟨[],[pcSentinel,pcBare],37,[],[],[],none⟩) (L:=[]) mix Tryz.func97 rfl (by kernel_rfl) (by kernel_rfl) rfl rfl ?_
 ((conv=>arg 1;reduce);with_reducible repeat' first | exact ty | refine ta ?_ ?_ | refine ti fun _ => ?_ | refine tf fun _ => ?_ | refine tl ?_)
 all_goals try first | (show Region.lexB _ _=true;kernel_rfl) | (show planned _ _=true;kernel_rfl) | exact rfl | exact True.intro
 all_goals first | exact ha | exact absurd (by with_reducible assumption:decide ((9:Int)=0)=true) (by decide)
def pcFaultE9:Pc Tryz.prog C0 where
 tg:=.fn 97
 X:=Addr
 args a:=[er a,.int .i64 9]
 mem _:=[]
 pre a:=Plain C0 a
 res a:=flt (codeOf a)
 mat vs _:=match vs with
  | [.ifc 193 (.val (.pointer (some a))),_]=>some (a,[])
  | _=>none
 ok a h:=faultE_ok a h
theorem faultT_ok (a:Addr) (ha:Plain C0 a):Tells (C:=C0) Tryz.prog (.fn 72) [] [er a] (flt (codeOf a)):=by
 refine loc_pc (P:=Tryz.prog) (E:=⟨[],[pcFaultE9],8,[],[],[],none⟩) (L:=[]) mix Tryz.func72 rfl (by kernel_rfl) (by kernel_rfl) rfl rfl ?_
 ((conv=>arg 1;reduce);with_reducible repeat' first | exact ty | refine ta ?_ ?_ | refine ti fun _ => ?_ | refine tf fun _ => ?_ | refine tl ?_)
 all_goals try first | (show Region.lexB _ _=true;kernel_rfl) | (show planned _ _=true;kernel_rfl) | exact rfl | exact True.intro
 all_goals exact ha
def pcFaultT:Pc Tryz.prog C0 where
 tg:=.fn 72
 X:=Addr
 args a:=[er a]
 mem _:=[]
 pre a:=Plain C0 a
 res a:=flt (codeOf a)
 mat vs _:=match vs with
  | [.ifc 193 (.val (.pointer (some a)))]=>some (a,[])
  | _=>none
 ok a h:=faultT_ok a h
theorem sameE_ok (a:Addr) (c:Int) (ha:Plain C0 a):Tells (C:=C0) Tryz.prog (.fn 43) [] [er a,flt c] (.bool (.tm (decide (codeOf a=c)))):=by
 refine loc_pc (P:=Tryz.prog) (E:=⟨[],[pcFaultT,pcSameFault],11,[],[],[],none⟩) (L:=[]) mix Tryz.func43 rfl (by kernel_rfl) (by kernel_rfl) rfl rfl ?_
 ((conv=>arg 1;reduce);with_reducible repeat' first | exact ty | refine ta ?_ ?_ | refine ti fun _ => ?_ | refine tf fun _ => ?_ | refine tl ?_)
 all_goals try first | (show Region.lexB _ _=true;kernel_rfl) | (show planned _ _=true;kernel_rfl) | exact rfl | exact True.intro
 all_goals exact ha
def pcSameE:Pc Tryz.prog C0 where
 tg:=.fn 43
 X:=Addr×Int
 args x:=[er x.1,flt x.2]
 mem _:=[]
 pre x:=Plain C0 x.1
 res x:=.bool (.tm (decide (codeOf x.1=x.2)))
 mat vs _:=match vs with
  | [.ifc 193 (.val (.pointer (some a))),.agg [.int _ c,.nils]]=>some ((a,c),[])
  | _=>none
 ok x h:=sameE_ok x.1 x.2 h
theorem isE_ok (a:Addr) (c:Int) (ha:Plain C0 a):Tells (C:=C0) Tryz.prog (.fn 19) [] [er a,.int .i64 c] (.bool (.tm (decide (codeOf a=c)))):=by
 refine loc_pc (P:=Tryz.prog) (E:=⟨[],[pcBare,pcSameE],9,[],[],[],none⟩) (L:=[]) mix Tryz.func19 rfl (by kernel_rfl) (by kernel_rfl) rfl rfl ?_
 ((conv=>arg 1;reduce);with_reducible repeat' first | exact ty | refine ta ?_ ?_ | refine ti fun _ => ?_ | refine tf fun _ => ?_ | refine tl ?_)
 all_goals try first | (show Region.lexB _ _=true;kernel_rfl) | (show planned _ _=true;kernel_rfl) | exact rfl | exact True.intro
 all_goals exact ha
def pcIsE:Pc Tryz.prog C0 where
 tg:=.fn 19
 X:=Addr×Int
 args x:=[er x.1,.int .i64 x.2]
 mem _:=[]
 pre x:=Plain C0 x.1
 res x:=.bool (.tm (decide (codeOf x.1=x.2)))
 mat vs _:=match vs with
  | [.ifc 193 (.val (.pointer (some a))),.int _ c]=>some ((a,c),[])
  | _=>none
 ok x h:=isE_ok x.1 x.2 h
end Go.Vx
namespace Go.Vx
open Go Go.Proofs
noncomputable section
variable [Gl]
def pcFirst:Pc Tryz.prog C0 where
 tg:=.fn 9
 X:=Unit
 args _:=[]
 mem _:=[]
 pre _:=True
 res _:=.bool .t
 mat vs m:=match vs with
  | []=>some ((),[])
  | _=>none
 ok _ _:=first_ok
def fcMade (c:Cd) (n':Nat) (m t n:Int) (h:Does (C:=C0) Tryz.prog (.fn 10) [] [.int .i64 m,.int .i64 t,.int .i64 n] [⟨MdY,MdOK c.K,mdR c.K n',mdL c.K n'⟩]):Fc Tryz.prog C0 where
 tg:=.fn 10
 X:=Unit
 args _:=[.int .i64 m,.int .i64 t,.int .i64 n]
 mem _:=[]
 pre _:=True
 alts _:=[⟨MdY,MdOK c.K,mdR c.K n',mdL c.K n'⟩]
 mat vs m:=match vs with
  | [_,_,_]=>some ((),[])
  | _=>none
 ok _ _:=h
section
variable (c:Cd) (n':Nat) (hn:1≤n'∧n'≤12∧8*n'+c.K.D≤nF c.F) (m t n:Int) (hM:Does (C:=C0) Tryz.prog (.fn 10) [] [.int .i64 m,.int .i64 t,.int .i64 n] [⟨MdY,MdOK c.K,mdR c.K n',mdL c.K n'⟩])
 (o:Bool) (b q:Nat) (l:List Int) (nn cc:Nat) (h:nn≤l.length) (ho:o=false→nn=0∧cc=0) (o2:Bool) (b2 q2:Nat) (l2:List Int) (nn2 cc2:Nat) (h2:nn2≤l2.length) (ho2:o2=false→nn2=0∧cc2=0) (bl:Byt8 (l.take nn)) (bl2:Byt8 (l2.take nn2)) (M:Nat) (hM8:M<256)
include hn hM h ho h2 ho2 bl bl2 hM8
end
end
end Go.Vx
namespace Go.Vx
open Go Go.Proofs
noncomputable section
variable [Gl0]
theorem fitL_id {P:List Int} {k:Nat} (h:P.length=k):fitL k P=P:=by
 unfold fitL
 rw [zc (by omega),h,Nat.sub_self]
 exact List.append_nil _
theorem g200 {a b:Nat} (g:(decide (200<(a:Int)) || (SB.tm (decide (200<(b:Int)))).val)=false):a≤200∧b≤200:=by
 simp only [Bool.or_eq_false_iff,decide_eq_false_iff_not,SB.val] at g
 omega
section
variable (c:Cd) (n':Nat) (hn:1≤n'∧n'≤12∧8*n'+c.K.D≤nF c.F) (m t n:Int) (hM:Does (C:=C0) Tryz.prog (.fn 10) [] [.int .i64 m,.int .i64 t,.int .i64 n] [⟨MdY,MdOK c.K,mdR c.K n',mdL c.K n'⟩])
 (o:Bool) (b q:Nat) (l:List Int) (nn cc:Nat) (h:nn≤l.length) (ho:o=false→nn=0∧cc=0) (o2:Bool) (b2 q2:Nat) (l2:List Int) (nn2 cc2:Nat) (h2:nn2≤l2.length) (ho2:o2=false→nn2=0∧cc2=0) (bl:Byt8 (l.take nn)) (bl2:Byt8 (l2.take nn2)) (hcode:codeOf (Gl.A 1)=106)
include hn hM h ho h2 ho2 bl bl2 hcode
set_option maxHeartbeats 16000000 in
theorem saysT_ok (H:DcOK c.K n' (fitL n' (l.take nn)) (fitL (nP c.K) (l2.take nn2))) (hT:mdC c.K n' (fitL n' (l.take nn)) (fitL (nP c.K) (l2.take nn2))∨mdM c.K n' (fitL n' (l.take nn)) (fitL (nP c.K) (l2.take nn2))):
 Tells (C:=C0) Tryz.prog (.fn 4) [⟨b,q,1,false,some o,.rows 5 l⟩,⟨b2,q2,1,false,some o2,.rows 5 l2⟩] [.int .i64 m,.int .i64 t,.int .i64 n,.sl 0 0 nn cc,.sl 1 0 nn2 cc2] (.bool .t):=by
 obtain ⟨g1,g2,g3,g4⟩:=cd_facts c
 obtain ⟨ns,n7,nh⟩:=nF_sz c.F
 have D1:=c.K.D1
 have hP:nP c.K=(c.K.D+7) / 8:=rfl
 have eA:(fitL n' (l.take nn)).length=n':=fitL_len
 have eB:(fitL (nP c.K) (l2.take nn2)).length=nP c.K:=fitL_len
 have tA:((fitL n' (l.take nn)).drop 0).take n'=(fitL n' (l.take nn)):=by rw [zm,zc (by rw [fitL_len];exact zw _)]
 have tB:((fitL (nP c.K) (l2.take nn2)).drop 0).take (nP c.K)=(fitL (nP c.K) (l2.take nn2)):=by rw [zm,zc (by rw [fitL_len];exact zw _)]
 have hnN:8*n'+c.K.D≤c.F.N:=by rw [← nF_eq];exact hn.2.2
 refine loc_pc (P:=Tryz.prog) (E:=⟨[fcMade c n' m t n hM,fcFit,fcDe1 c.K n' true 11,fcDeT c.K n',fcRdecT c.K n'],[pcFirst,pcXpar,pcSb,pcSameInts,pcDist,pcRdist,pcIs0],147,[],[],[],none⟩) (L:=[]) mix Tryz.func4 rfl (by kernel_rfl) (by kernel_rfl) rfl rfl ?_
 ((conv=>arg 1;reduce);with_reducible repeat' first | exact ty | refine ta ?_ ?_ | refine ti fun _ => ?_ | refine tf fun _ => ?_ | refine tl ?_)
 all_goals try exact vlf
 all_goals try (show c.K.D<1000000;omega)
 all_goals try exact plainE 0 (by decide)
 all_goals try exact plainE 1 (by decide)
 all_goals try exact ⟨⟨by show 0+nn≤l.length;omega,ho⟩,by show n'<100000;omega⟩
 all_goals try exact ⟨⟨by show 0+nn2≤l2.length;omega,ho2⟩,by show (c.K.D+7) / 8<100000;omega⟩
 all_goals have gg:nn≤200∧nn2≤200:=g200 (by with_reducible assumption)
 all_goals have dl:Sl3.pre (o,b,q,l,0,nn,cc):=⟨by show 0+nn≤l.length;omega,by show nn<1000000000;omega,ho⟩
 all_goals have dr:Sl3.pre (o2,b2,q2,l2,0,nn2,cc2):=⟨by show 0+nn2≤l2.length;omega,by show nn2<1000000000;omega,ho2⟩
 all_goals try exact ⟨⟨dl,bl⟩,dr,bl2⟩
 · refine ⟨⟨⟨rfl,rfl,rfl,rfl⟩,by omega,hn.1,by omega,by omega⟩,⟨dl,dr⟩,⟨bl,bl2⟩,fun e e' => ?_⟩
   have hm:=hT
   rw [fitL_id (P:=l.take nn) (by rw [tk_len h];exact e),fitL_id (P:=l2.take nn2) (by rw [tk_len h2];exact e')] at hm
   exact hm
 all_goals try exact ⟨⟨⟨rfl,rfl,rfl,rfl⟩,⟨⟨rfl,⟨by show 0+n'≤(fitL n' (l.take nn)).length;omega,by show n'<1000000000;omega,nofun⟩⟩,rfl,⟨by show 0+nP c.K≤(fitL (nP c.K) (l2.take nn2)).length;omega,by show nP c.K<1000000000;omega,nofun⟩⟩,rfl,rfl⟩,by show DcOK c.K n' (((fitL n' (l.take nn)).drop 0).take n') (((fitL (nP c.K) (l2.take nn2)).drop 0).take (nP c.K));rw [tA,tB];exact H,by show mdC c.K n' (((fitL n' (l.take nn)).drop 0).take n') (((fitL (nP c.K) (l2.take nn2)).drop 0).take (nP c.K))∨mdM c.K n' (((fitL n' (l.take nn)).drop 0).take n') (((fitL (nP c.K) (l2.take nn2)).drop 0).take (nP c.K));rw [tA,tB];exact hT⟩
 all_goals try exact ⟨⟨hn.2.2,⟨⟨by show 0+n'≤(fitL n' (l.take nn)).length;omega,by show n'<1000000000;omega,nofun⟩,⟨by show 0+nP c.K≤(fitL (nP c.K) (l2.take nn2)).length;omega,by show nP c.K<1000000000;omega,nofun⟩⟩,by show DcOK c.K n' (((fitL n' (l.take nn)).drop 0).take n') (((fitL (nP c.K) (l2.take nn2)).drop 0).take (nP c.K));rw [tA,tB];exact H⟩,by show mdC c.K n' (((fitL n' (l.take nn)).drop 0).take n') (((fitL (nP c.K) (l2.take nn2)).drop 0).take (nP c.K))∨mdM c.K n' (((fitL n' (l.take nn)).drop 0).take n') (((fitL (nP c.K) (l2.take nn2)).drop 0).take (nP c.K));rw [tA,tB];exact hT⟩
 all_goals try exact ⟨by show 0+n'≤(fitL n' (l.take nn)).length;omega,by show 0+n'≤(fitL n' (l.take nn)).length;omega,nofun,nofun,tA.symm ▸ H.a,tA.symm ▸ H.a⟩
 all_goals try exact ieq_yes rfl
 all_goals try (
  rename_i y hy bx g2 f1 hf1 e
  exfalso
  have e:((decide ((nn:Int)≠(n':Int)) || decide ((nn2:Int)≠(((c.K.D+7) / 8:Nat):Int))) && !decide (Gl.A 0=Gl.A 0))=true:=e
  rw [decide_eq_true (rfl:Gl.A 0=Gl.A 0),Bool.not_true,tn] at e
  cases e)
 all_goals try (
  rename_i y hy bx g2 f1 hf1 e
  exfalso
  have hf1:nn=n'∧nn2=nP c.K:=hf1
  have e:(decide ((nn:Int)≠(n':Int)) || decide ((nn2:Int)≠(((c.K.D+7) / 8:Nat):Int)))=true:=e
  simp only [yd,zq,decide_eq_true_eq] at e
  omega)
 all_goals try (
  first
  | (rename_i y hy bx g2 f1 hf1 e fa hfa fb hfb w hw z hz e9;change Os×Os×Oq at w)
  | (rename_i y hy bx g2 f1 hf1 e fa hfa fb hfb w hw z hz;change Os×Os×Oq at w)
  change Os×Os×Oq at w
  have w1:Ow (tnD c.K.D (((fitL n' (l.take nn)).drop 0).take n') (ocZ c.K n' (((fitL n' (l.take nn)).drop 0).take n') (((fitL (nP c.K) (l2.take nn2)).drop 0).take (nP c.K)))) w.1:=hw.1.1
  have w2:Ow (tnP c.K.D (mkR c.K.D (((fitL (nP c.K) (l2.take nn2)).drop 0).take (nP c.K))) (ocZ c.K n' (((fitL n' (l.take nn)).drop 0).take n') (((fitL (nP c.K) (l2.take nn2)).drop 0).take (nP c.K)))) w.2.1:=hw.1.2
  have w3:Oqw (ocZ c.K n' (((fitL n' (l.take nn)).drop 0).take n') (((fitL (nP c.K) (l2.take nn2)).drop 0).take (nP c.K))) w.2.2:=hw.2
  change Oq×Oq×Oq at z
  have z1:Oqw (tnD c.K.D (((fitL n' (l.take nn)).drop 0).take n') (ocZ c.K n' (((fitL n' (l.take nn)).drop 0).take n') (((fitL (nP c.K) (l2.take nn2)).drop 0).take (nP c.K)))) z.1:=hz.2.1.1
  have z2:Oqw (tnP c.K.D (mkR c.K.D (((fitL (nP c.K) (l2.take nn2)).drop 0).take (nP c.K))) (ocZ c.K n' (((fitL n' (l.take nn)).drop 0).take n') (((fitL (nP c.K) (l2.take nn2)).drop 0).take (nP c.K)))) z.2.1:=hz.2.1.2
  have z3:Oqw (ocZ c.K n' (((fitL n' (l.take nn)).drop 0).take n') (((fitL (nP c.K) (l2.take nn2)).drop 0).take (nP c.K))) z.2.2:=hz.2.2
  rw [tA,tB] at w1 w2 w3 z1 z2 z3
  obtain ⟨f1',f2,f3⟩:=far_few c.K H hnN hT
  have lD:=f3.ok.la
  have lP:=f3.ok.lb
  obtain ⟨a1,b1'⟩:=w1.sl lD (by omega)
  obtain ⟨a2,b2'⟩:=w2.sl lP (by omega)
  have a3:=w3.cap
  have b3':=w3.len
  have a4:(z.1.2.2.2.1.drop 0).take n'=tnD c.K.D (fitL n' (l.take nn)) (ocZ c.K n' (fitL n' (l.take nn)) (fitL (nP c.K) (l2.take nn2))):=by have:=z1.eq;rw [lD] at this;rw [zm];exact this
  have a5:(z.2.1.2.2.2.1.drop 0).take (nP c.K)=tnP c.K.D (mkR c.K.D (fitL (nP c.K) (l2.take nn2))) (ocZ c.K n' (fitL n' (l.take nn)) (fitL (nP c.K) (l2.take nn2))):=by have:=z2.eq;rw [lP] at this;rw [zm];exact this
  have c1':=z1.cap
  have c2':=z1.len
  have c3':=z2.cap
  have c4':=z2.len
  have c5':=z3.cap
  have c6':=z3.len
  first
  | exact ⟨a1.1,by show 0+n'≤z.1.2.2.2.1.length;omega,a1.2.2,fun h0=>⟨by have:=(z1.nil h0).1;omega,(z1.nil h0).2⟩,b1'.symm ▸ f3.ok.a,a4.symm ▸ f3.ok.a⟩
  | exact ⟨a2.1,by show 0+nP c.K≤z.2.1.2.2.2.1.length;omega,a2.2.2,fun h0=>⟨by have:=(z2.nil h0).1;omega,(z2.nil h0).2⟩,b2'.symm ▸ f3.ok.b,a5.symm ▸ f3.ok.b⟩
  | (refine ⟨by show (ocZ c.K n' (((fitL n' (l.take nn)).drop 0).take n') (((fitL (nP c.K) (l2.take nn2)).drop 0).take (nP c.K))).length≤w.2.2.2.2.2.1.length;rw [tA,tB];omega,by show (ocZ c.K n' (((fitL n' (l.take nn)).drop 0).take n') (((fitL (nP c.K) (l2.take nn2)).drop 0).take (nP c.K))).length≤z.2.2.2.2.2.1.length;rw [tA,tB];omega,by show (ocZ c.K n' (((fitL n' (l.take nn)).drop 0).take n') (((fitL (nP c.K) (l2.take nn2)).drop 0).take (nP c.K))).length<140737488355000;rw [tA,tB];omega,?_,?_⟩
     · show w.2.2.1=false→(ocZ c.K n' (((fitL n' (l.take nn)).drop 0).take n') (((fitL (nP c.K) (l2.take nn2)).drop 0).take (nP c.K))).length=0∧_;rw [tA,tB];exact w3.nil
     · show z.2.2.1=false→(ocZ c.K n' (((fitL n' (l.take nn)).drop 0).take n') (((fitL (nP c.K) (l2.take nn2)).drop 0).take (nP c.K))).length=0∧_;rw [tA,tB];exact z3.nil))
 all_goals (
  rename_i y hy bx g2 f1 hf1 e fa hfa fb hfb w hw z hz e9
  change Os×Os×Oq at w
  have w1:Ow (tnD c.K.D (((fitL n' (l.take nn)).drop 0).take n') (ocZ c.K n' (((fitL n' (l.take nn)).drop 0).take n') (((fitL (nP c.K) (l2.take nn2)).drop 0).take (nP c.K)))) w.1:=hw.1.1
  have w2:Ow (tnP c.K.D (mkR c.K.D (((fitL (nP c.K) (l2.take nn2)).drop 0).take (nP c.K))) (ocZ c.K n' (((fitL n' (l.take nn)).drop 0).take n') (((fitL (nP c.K) (l2.take nn2)).drop 0).take (nP c.K)))) w.2.1:=hw.1.2
  have w3:Oqw (ocZ c.K n' (((fitL n' (l.take nn)).drop 0).take n') (((fitL (nP c.K) (l2.take nn2)).drop 0).take (nP c.K))) w.2.2:=hw.2
  change Oq×Oq×Oq at z
  have z1:Oqw (tnD c.K.D (((fitL n' (l.take nn)).drop 0).take n') (ocZ c.K n' (((fitL n' (l.take nn)).drop 0).take n') (((fitL (nP c.K) (l2.take nn2)).drop 0).take (nP c.K)))) z.1:=hz.2.1.1
  have z2:Oqw (tnP c.K.D (mkR c.K.D (((fitL (nP c.K) (l2.take nn2)).drop 0).take (nP c.K))) (ocZ c.K n' (((fitL n' (l.take nn)).drop 0).take n') (((fitL (nP c.K) (l2.take nn2)).drop 0).take (nP c.K)))) z.2.1:=hz.2.1.2
  have z3:Oqw (ocZ c.K n' (((fitL n' (l.take nn)).drop 0).take n') (((fitL (nP c.K) (l2.take nn2)).drop 0).take (nP c.K))) z.2.2:=hz.2.2
  rw [tA,tB] at w1 w2 w3 z1 z2 z3
  obtain ⟨f1',f2,f3⟩:=far_few c.K H hnN hT
  have lD:=f3.ok.la
  have lP:=f3.ok.lb
  obtain ⟨a1,b1'⟩:=w1.sl lD (by omega)
  obtain ⟨a2,b2'⟩:=w2.sl lP (by omega)
  have a3:=w3.cap
  have b3':=w3.len
  have a4:(z.1.2.2.2.1.drop 0).take n'=tnD c.K.D (fitL n' (l.take nn)) (ocZ c.K n' (fitL n' (l.take nn)) (fitL (nP c.K) (l2.take nn2))):=by have:=z1.eq;rw [lD] at this;rw [zm];exact this
  have a5:(z.2.1.2.2.2.1.drop 0).take (nP c.K)=tnP c.K.D (mkR c.K.D (fitL (nP c.K) (l2.take nn2))) (ocZ c.K n' (fitL n' (l.take nn)) (fitL (nP c.K) (l2.take nn2))):=by have:=z2.eq;rw [lP] at this;rw [zm];exact this
  have c1':=z1.cap
  have c2':=z1.len
  have c3':=z2.cap
  have c4':=z2.len
  have c5':=z3.cap
  have c6':=z3.len
  exfalso
  have e9:(ieq ((w.1.2.2.1.drop 0).take n') ((z.1.2.2.2.1.drop 0).take n') && ieq ((w.2.1.2.2.1.drop 0).take (nP c.K)) ((z.2.1.2.2.2.1.drop 0).take (nP c.K)) && ieq (w.2.2.2.2.2.1.take (ocZ c.K n' (((fitL n' (l.take nn)).drop 0).take n') (((fitL (nP c.K) (l2.take nn2)).drop 0).take (nP c.K))).length) (z.2.2.2.2.2.1.take (ocZ c.K n' (((fitL n' (l.take nn)).drop 0).take n') (((fitL (nP c.K) (l2.take nn2)).drop 0).take (nP c.K))).length) && decide ((0:Int)=0) && decide ((dsR (l.take nn) (l2.take nn2):Int)=(dsR (l.take nn) (l2.take nn2):Int)))=false:=e9
  rw [b1',a4,b2',a5,tA,tB,w3.eq,z3.eq,ieq_yes rfl,ieq_yes rfl,ieq_yes rfl,decide_eq_true rfl,decide_eq_true rfl] at e9
  cases e9)
set_option maxHeartbeats 16000000 in
theorem saysX_ok (H:DcOK c.K n' (fitL n' (l.take nn)) (fitL (nP c.K) (l2.take nn2))) (hX:mdX c.K n' (fitL n' (l.take nn)) (fitL (nP c.K) (l2.take nn2))):
 Tells (C:=C0) Tryz.prog (.fn 4) [⟨b,q,1,false,some o,.rows 5 l⟩,⟨b2,q2,1,false,some o2,.rows 5 l2⟩] [.int .i64 m,.int .i64 t,.int .i64 n,.sl 0 0 nn cc,.sl 1 0 nn2 cc2] (.bool .t):=by
 obtain ⟨g1,g2,g3,g4⟩:=cd_facts c
 obtain ⟨ns,n7,nh⟩:=nF_sz c.F
 have D1:=c.K.D1
 have hP:nP c.K=(c.K.D+7) / 8:=rfl
 have eA:(fitL n' (l.take nn)).length=n':=fitL_len
 have eB:(fitL (nP c.K) (l2.take nn2)).length=nP c.K:=fitL_len
 have tA:((fitL n' (l.take nn)).drop 0).take n'=(fitL n' (l.take nn)):=by rw [zm,zc (by rw [fitL_len];exact zw _)]
 have tB:((fitL (nP c.K) (l2.take nn2)).drop 0).take (nP c.K)=(fitL (nP c.K) (l2.take nn2)):=by rw [zm,zc (by rw [fitL_len];exact zw _)]
 have hnN:8*n'+c.K.D≤c.F.N:=by rw [← nF_eq];exact hn.2.2
 refine loc_pc (P:=Tryz.prog) (E:=⟨[fcMade c n' m t n hM,fcFit,fcDe1 c.K n' false 11,fcDcX H hX,fcRdecX c.K n'],[pcFirst,pcXpar,pcSb,pcSb2,pcSi2,pcDist,pcRdist,pcIsE],147,[],[],[],none⟩) (L:=[]) mix Tryz.func4 rfl (by kernel_rfl) (by kernel_rfl) rfl rfl ?_
 ((conv=>arg 1;reduce);with_reducible repeat' first | exact ty | refine ta ?_ ?_ | refine ti fun _ => ?_ | refine tf fun _ => ?_ | refine tl ?_)
 all_goals try exact vlf
 all_goals try (show c.K.D<1000000;omega)
 all_goals try exact plainE 0 (by decide)
 all_goals try exact plainE 1 (by decide)
 all_goals try exact ⟨⟨by show 0+nn≤l.length;omega,ho⟩,by show n'<100000;omega⟩
 all_goals try exact ⟨⟨by show 0+nn2≤l2.length;omega,ho2⟩,by show (c.K.D+7) / 8<100000;omega⟩
 all_goals have gg:nn≤200∧nn2≤200:=g200 (by with_reducible assumption)
 all_goals have dl:Sl3.pre (o,b,q,l,0,nn,cc):=⟨by show 0+nn≤l.length;omega,by show nn<1000000000;omega,ho⟩
 all_goals have dr:Sl3.pre (o2,b2,q2,l2,0,nn2,cc2):=⟨by show 0+nn2≤l2.length;omega,by show nn2<1000000000;omega,ho2⟩
 all_goals try exact ⟨⟨dl,bl⟩,dr,bl2⟩
 · refine ⟨⟨⟨rfl,rfl,rfl,rfl⟩,by omega,hn.1,by omega,by omega⟩,⟨dl,dr⟩,⟨bl,bl2⟩,fun e e' => ?_⟩
   have hm:=hX
   rw [fitL_id (P:=l.take nn) (by rw [tk_len h];exact e),fitL_id (P:=l2.take nn2) (by rw [tk_len h2];exact e')] at hm
   exact hm
 all_goals try exact ⟨⟨rfl,rfl,rfl,rfl⟩,⟨⟨rfl,⟨by show 0+n'≤(fitL n' (l.take nn)).length;omega,by show n'<1000000000;omega,nofun⟩⟩,rfl,⟨by show 0+nP c.K≤(fitL (nP c.K) (l2.take nn2)).length;omega,by show nP c.K<1000000000;omega,nofun⟩⟩,tA,tB⟩
 all_goals try exact ⟨⟨hn.2.2,⟨⟨by show 0+n'≤(fitL n' (l.take nn)).length;omega,by show n'<1000000000;omega,nofun⟩,⟨by show 0+nP c.K≤(fitL (nP c.K) (l2.take nn2)).length;omega,by show nP c.K<1000000000;omega,nofun⟩⟩,by show DcOK c.K n' (((fitL n' (l.take nn)).drop 0).take n') (((fitL (nP c.K) (l2.take nn2)).drop 0).take (nP c.K));rw [tA,tB];exact H⟩,by show mdX c.K n' (((fitL n' (l.take nn)).drop 0).take n') (((fitL (nP c.K) (l2.take nn2)).drop 0).take (nP c.K));rw [tA,tB];exact hX⟩
 all_goals try exact ⟨by show 0+n'≤(fitL n' (l.take nn)).length;omega,by show 0+n'≤(fitL n' (l.take nn)).length;omega,nofun,nofun,tA.symm ▸ H.a,tA.symm ▸ H.a⟩
 all_goals try exact ieq_yes rfl
 all_goals try (
  rename_i y hy bx g2 f1 hf1 e
  exfalso
  have e:((decide ((nn:Int)≠(n':Int)) || decide ((nn2:Int)≠(((c.K.D+7) / 8:Nat):Int))) && !decide (Gl.A 0=Gl.A 0))=true:=e
  rw [decide_eq_true (rfl:Gl.A 0=Gl.A 0),Bool.not_true,tn] at e
  cases e)
 all_goals try (
  rename_i y hy bx g2 f1 hf1 e
  exfalso
  have hf1:nn=n'∧nn2=nP c.K:=hf1
  have e:((decide ((nn:Int)≠(n':Int)) || decide ((nn2:Int)≠(((c.K.D+7) / 8:Nat):Int))) && !decide (Gl.A 1=Gl.A 0))=true:=e
  simp only [yd,zq,decide_eq_true_eq] at e
  omega)
 all_goals try exact ⟨zw _,zw _,fun _=>⟨rfl,rfl⟩,fun _=>⟨rfl,rfl⟩,(fun x hx=>nomatch hx),fun x hx=>nomatch hx⟩
 all_goals try exact ⟨zw _,zw _,by decide,fun _=>⟨rfl,rfl⟩,fun _=>⟨rfl,rfl⟩⟩
 all_goals (
  rename_i e9
  exfalso
  have e9:(ieq [] [] && ieq [] [] && ieq [] [] && decide (codeOf (Gl.A 1)=106) && decide ((dsR (l.take nn) (l2.take nn2):Int)=(dsR (l.take nn) (l2.take nn2):Int)))=false:=e9
  rw [ieq_yes rfl,decide_eq_true hcode,decide_eq_true rfl] at e9
  cases e9)
end
end
end Go.Vx
namespace Go.Vx
open Go Go.Proofs Go.ChangeShapes Go.WideShapes Go.Deep Go.RowKit Go.Proofs.YtfjogcklhibboaaGreatDoor
theorem c9:Tryz.prog.cellsOf 9=1:=by kernel_rfl
theorem c210:Tryz.prog.cellsOf 210=1:=by kernel_rfl
theorem star : "*" ++ "errors.errorString" = "*errors.errorString" := by decide
theorem rowE (u : TypeId) (h : Tryz.prog.typeName? 3 u = some "*errors.errorString") : u = 193 :=
 typeName_ptr_named (nm := "errors.errorString") (by rw [star]; kernel_rfl) (by kernel_rfl) (by decide) u (by rw [star]; exact h)
theorem gl_of {W : World} {L : List (String × DataW Unit)} {G0 : List Nat} {N : Nat} (pos : Nat → Nat) (hp : ∀ g, g < N → pos g < G0.length ∧ G0.getD (pos g) 0 = g) (hL : SentL Tryz.prog "*errors.errorString" 35 L G0) (h : laidMet Tryz.prog L W) :
 ∃ G:Gl,@Gl.lv G=N∧(∀ i j,i<N→j<N → @Gl.A G i = @Gl.A G j→i=j)∧∀ g,g<N→
 W.cell? ⟨g,0,none⟩=some (.iface 193 (.pointer (some (@Gl.A G g))))∧W.heap[(@Gl.A G g).block]? = some (.cells (@Gl.c G g) (@Gl.t G g) (0,0)):=by
 obtain ⟨ps,hv,hnd,hrows⟩:=h
 obtain ⟨az,hs,_⟩:=laid_all Tryz.underlying35 rowE Tryz.underlying193 Tryz.underlying210 rfl rfl Tryz.underlying9 c210 c9 _ _ _ hL hv hnd hrows
 have hex:∀ g,∃ p:Array Value×TypeId,g<N→W.heap[(az.getD (pos g) default).block]? = some (.cells p.1 p.2 (0,0)):=by
  intro g
  by_cases hg:g<N
  · obtain ⟨_,c,t,h2⟩:=hs.get (pos g) (hp g hg).1
    exact ⟨(c,t),fun _=>h2⟩
  · exact ⟨(#[],0),fun h=>absurd h hg⟩
 refine ⟨⟨fun g=>az.getD (pos g) default,fun g=>(Classical.choose (hex g)).1,fun g=>(Classical.choose (hex g)).2,N⟩,rfl,?_,?_⟩
 · intro i j hi hj he
   have:=hs.one (hp i hi).1 (hp j hj).1 he
   rw [← (hp i hi).2,← (hp j hj).2,this]
 · intro g hg
   obtain ⟨h1,_⟩:=hs.get (pos g) (hp g hg).1
   rw [(hp g hg).2] at h1
   exact ⟨h1,Classical.choose_spec (hex g) hg⟩
theorem gv_is [Gl] (g:Nat):(C0 g).gv=glV g:=by unfold C0;split <;> rfl
theorem gp_is [Gl] (g:Nat):(C0 g).gpins=glP g:=by unfold C0;split <;> rfl
theorem glB_lt [Gl] {g:Nat} {n:Nat} (h3:6≤n) (hn:Gl.lv≤n) (h:glB g=true):g<n:=by
 unfold glB at h
 split at h
 · rename_i hb;have:g<6:=by simpa using hb
   omega
 · have:g<Gl.lv:=by simpa using h
   omega
theorem more_of [Gl] {W:World} {n:Nat} (h3:6≤n) (hn:Gl.lv≤n) (h:∀ g,g<n→W.cell? ⟨g,0,none⟩=some (.iface 193 (.pointer (some (Gl.A g))))∧W.heap[(Gl.A g).block]? = some (.cells (Gl.c g) (Gl.t g) (0,0)))
 {mem:List (Ck C0)} (hnw:noWr mem=true) (hd:∀ c∈mem,∀ t x,c.cells.Has t x→(C0 t).good W x∧∀ b∈(C0 t).blks x,b<W.heap.size):More (wrS mem) W W mem where
 gv g v hv:=by
  rw [gv_is] at hv
  unfold glV at hv
  split at hv
  · rename_i hb
    have hg:=glB_lt h3 hn hb
    simp only [Option.some.injEq] at hv
    subst hv
    obtain ⟨h1,_⟩:=h g hg
    refine ⟨h1,?_,?_⟩
    · rcases Nat.lt_or_ge g W.heap.size with h' | h'
      · exact h'
      · simp [World.cell?,Array.getElem?_eq_none h'] at h1
    · rintro ⟨c,hc,hw,_⟩
      rw [noWr_ok hnw c hc] at hw;cases hw
  · cases hv
 gp g p hp:=by
  rw [gp_is] at hp
  unfold glP at hp
  split at hp
  · rename_i hb
    have hg:=glB_lt h3 hn hb
    rw [List.mem_singleton] at hp
    subst hp
    obtain ⟨_,h2⟩:=h g hg
    refine ⟨h2,heap_size_of h2,?_⟩
    rintro ⟨c,hc,hw,_⟩
    rw [noWr_ok hnw c hc] at hw;cases hw
  · cases hp
 pin p hp:=by cases hp
 nod:=List.nodup_nil
 deep:=deep_ro hnw hd
theorem bytes_open {H:Type} {enc:TypeId×Value→H} {W:World} {base b0:Nat} {r:Reach} {v:Value} {d:DataW H} {p:List MemPlace} (hv:Value.okWide Tryz.prog W r b0 22 v)
 (h:DataW.Trod enc Tryz.prog W base (fun _=>true) true 22 v d p):∃ (a:Option Addr) (n c:Nat) (l:List Int),v=.slice a n c∧IsRows (cInt .u8) W a n c l∧Byt8 l:=by
 obtain ⟨a,n,c,rfl⟩:=okWide_slice Tryz.underlying22 hv
 obtain ⟨fuel,hf⟩:=h
 have hf:DataW.trod enc Tryz.prog W base (fun _=>true) true fuel 22 [.slice a n c]=some (d,p):=by simpa [Value.cells] using hf
 rcases open_ints Tryz.underlying22 Tryz.underlying5 (by kernel_rfl) hf with ⟨hcs,_⟩ | ⟨x,len',cap',zs,hcs,_,hl,_,hz,_,hcell,hw⟩
 · simp at hcs
   obtain ⟨rfl,rfl,rfl⟩:=hcs
   exact ⟨none,0,0,[],rfl,.inl ⟨rfl,rfl,rfl,rfl⟩,fun x hx=>by cases hx⟩
 · simp at hcs
   obtain ⟨rfl,rfl,rfl⟩:=hcs
   simp only [if_true] at hz
   obtain ⟨hs,hb⟩:=okWide_at Tryz.underlying22 hv
   refine ⟨some x,n,c,zs,rfl,.inr ⟨x,rfl,hs,hb,hl,hz,fun i hi f hf => ?_⟩,fun n hn => ?_⟩
   · obtain rfl:f=0:=by
      have:f<1:=hf
      omega
     rw [show i*1+0=i by omega,hcell i (by omega)]
     rfl
   · have:=hw n hn
     simp [Lit.wf,IntKind.min,IntKind.max,IntKind.signed,IntKind.bits] at this
     omega
end Go.Vx
