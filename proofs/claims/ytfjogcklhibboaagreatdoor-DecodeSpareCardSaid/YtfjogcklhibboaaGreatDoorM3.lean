/-
  The symbolic evaluator, fourteenth part: calls under a contract, and one operation.
  The symbolic evaluator: slices of slices: rows whose own slices are named where they are read, and laid down where a slice of them is made.
  The symbolic evaluator: bytes az strings, and whether two strings are one.
  The symbolic evaluator: slices of slices that grow: a row's own slice is appended to, where there is room in its own place; it is laid back into the row, or under the key.
  The symbolic evaluator: an array of slices within a struct: its slices are laid into it one by one, each is written no more then; it is read az a chunk of its own.
  The symbolic evaluator, fifteenth part: one operation under its guard; a list of operations.
  Conditions: none.
-/
import Derived.Test.YtfjogcklhibboaaGreatDoorM2
import Derived.Laws.BytesString
import Derived.LaidEql
open Array renaming ext' → xm, getElem?_toList → vp, range → ni
open Bool renaming and_eq_true → zn, not_eq_true' → yp
open List renaming append_assoc → wt, append_nil → vj, getD_cons_zero → uy, getD_eq_getElem?_getD → zy, getElem?_append_left → zf, getElem?_append_right → yi, getElem?_drop → wd, getElem?_eq_getElem → zt, getElem?_map → zh, getElem?_set_self → ux, getElem?_take_of_lt → yf, getElem_mem → xi, length_append → zu, length_cons → xq, length_drop → vr, length_map → zm, length_singleton → wb, length_take → zd, map_cons → wx, mem_cons_of_mem → yv
open Nat renaming add_assoc → ss, add_mul → yj, add_zero → yx, beq → zj, ble → vz, eq_of_beq_eq_true → zp, le_of_ble_eq_true → xf, le_refl → zx, mul_comm → xn, mul_le_mul_right → xr, ne_of_beq_eq_false → xl, not_lt_zero → wy, zero_add → wo, zero_mul → sc
open Option renaming map_some → yk
set_option linter.unusedVariables false
set_option linter.unusedSimpArgs false
set_option linter.unusedSectionVars false
namespace Go.Vx
open Go
variable {C:Nat→Codec}
inductive Tg where
 | fn (f:Nat)
 | inv (t:Nat) (name:String)
def tgSem (tg:Tg) (vals:Array Value):Sem Next:=
 match tg with
 | .fn f=>callFunc f vals
 | .inv t name=>callMethod (.iface t (vals.getD 0 Go.undef)) name (vals.extract 1 vals.size)
def tgEq:Tg→Tg→Bool
 | .fn a,.fn b=>zj a b
 | .inv t n,.inv u k=>zj t u && decide (n=k)
 | _,_=>false
theorem tgEq_ok {a b:Tg} (h:tgEq a b=true):a=b:=by
 cases a <;> cases b <;> simp_all [tgEq]
def LocG (P:Program) (tg:Tg) (m:List (Ck C)) (args:List SV) (post:SV→List (Ck C)→Prop):Prop:=
 ∀ w,MemOK (wrS m) w w m→∃ f vals,(tgSem tg (SV.vas (ads m) args).toArray).run P w=.ok (.enter f vals) w∧
   Calls P f vals w fun e w'=>∃ r m',e=.returned (r.va (ads m'))∧MemOK (wrS m) w w' m'∧Ext m m'∧post r m'
structure Alt (C:Nat→Codec) where
 Y:Type
 post:Y→Prop
 res:Y→SV
 out:Y→List (Ck C)
def Ends (l:List (Alt C)) (f:(A:Alt C)→A.Y→Prop):Prop:=∃ A∈l,∃ y:A.Y,A.post y∧f A y
theorem Ends.one {Y:Type} {post:Y→Prop} {res:Y→SV} {out:Y→List (Ck C)} {f:(A:Alt C)→A.Y→Prop} {r:List (Alt C)} (y:Y) (h:post y) (hf:f ⟨Y,post,res,out⟩ y):Ends (⟨Y,post,res,out⟩ :: r) f:=
 ⟨_,List.mem_cons_self ..,y,h,hf⟩
theorem Ends.next {A:Alt C} {r:List (Alt C)} {f:(A:Alt C)→A.Y→Prop} (h:Ends r f):Ends (A :: r) f:=by
 obtain ⟨B,hB,y,h⟩:=h
 exact ⟨B,yv _ hB,y,h⟩
abbrev Does (P:Program) (tg:Tg) (mem:List (Ck C)) (args:List SV) (alts:List (Alt C)):Prop:=
 LocG P tg mem args fun r m'=>Ends alts fun A y=>r=A.res y∧m'=A.out y
abbrev Tells (P:Program) (tg:Tg) (mem:List (Ck C)) (args:List SV) (res:SV):Prop:=
 LocG P tg mem args fun r m'=>r=res∧m'=mem
structure Fc (P:Program) (C:Nat→Codec) where
 tg:Tg
 X:Type
 args:X→List SV
 mem:X→List (Ck C)
 pre:X→Prop
 alts:X→List (Alt C)
 mat:List SV→List (Ck C)→Option (X×List Nat)
 ok:∀ x,pre x→LocG P tg (mem x) (args x) fun r m'=>Ends (alts x) fun A y=>r=A.res y∧m'=A.out y
structure Pc (P:Program) (C:Nat→Codec) where
 tg:Tg
 X:Type
 args:X→List SV
 mem:X→List (Ck C)
 pre:X→Prop
 res:X→SV
 mat:List SV→List (Ck C)→Option (X×List Nat)
 ok:∀ x,pre x→LocG P tg (mem x) (args x) fun r m'=>r=res x∧m'=mem x
def findFc {P:Program} (tg:Tg) (az:List SV) (m:List (Ck C)):List (Fc P C)→Option (Sigma fun b:Fc P C=>b.X×List Nat)
 | []=>none
 | b :: r=>if tgEq b.tg tg then match b.mat az m with
     | some q=>some ⟨b,q⟩
     | none=>findFc tg az m r
   else findFc tg az m r
def findPc {P:Program} (tg:Tg) (az:List SV) (m:List (Ck C)):List (Pc P C)→Option (Sigma fun b:Pc P C=>b.X×List Nat)
 | []=>none
 | b :: r=>if tgEq b.tg tg then match b.mat az m with
     | some q=>some ⟨b,q⟩
     | none=>findPc tg az m r
   else findPc tg az m r
theorem findFc_tg {P:Program} {tg:Tg} {az:List SV} {m:List (Ck C)}:∀ {l:List (Fc P C)} {b:Fc P C} {q:b.X×List Nat},findFc tg az m l=some ⟨b,q⟩→b.tg=tg
 | [],_,_,h=>by simp [findFc] at h
 | x :: r,b,q,h=>by
   simp only [findFc] at h
   split at h
   · rename_i he
     split at h
     · simp only [Option.some.injEq,Sigma.mk.injEq] at h
       obtain ⟨rfl,_⟩:=h
       exact tgEq_ok he
     · exact findFc_tg h
   · exact findFc_tg h
theorem findPc_tg {P:Program} {tg:Tg} {az:List SV} {m:List (Ck C)}:∀ {l:List (Pc P C)} {b:Pc P C} {q:b.X×List Nat},findPc tg az m l=some ⟨b,q⟩→b.tg=tg
 | [],_,_,h=>by simp [findPc] at h
 | x :: r,b,q,h=>by
   simp only [findPc] at h
   split at h
   · rename_i he
     split at h
     · simp only [Option.some.injEq,Sigma.mk.injEq] at h
       obtain ⟨rfl,_⟩:=h
       exact tgEq_ok he
     · exact findPc_tg h
   · exact findPc_tg h
def callTg (tm:Tm) (m:List (Ck C)) (al:List (Nat×Bool)) (c:Call):Option (Tg×List SV):=
 match c.callee with
 | .value f=>match ev tm m al f,optAll (ev tm m al) c.args.toList with
   | some (.fn (.func g) first cap),some az=>some (.fn g,first ++ az ++ cap)
   | _,_=>none
 | .invoke r name=>match ev tm m al r,optAll (ev tm m al) c.args.toList with
   | some (.ifc t v),some az=>some (.inv t name,v :: az)
   | _,_=>none
 | .builtin _=>none
theorem callTg_ok {P:Program} {n:Nat} {tm:Tm} {m:List (Ck C)} {a:Act} (h:ActOK (ads m) n tm a) (hg:GlOK m) {al:List (Nat×Bool)} (ha:AlOK tm al) {c:Call} {tg:Tg} {az:List SV}
 (hc:callTg tm m al c=some (tg,az)) {dst:Option Tmp} {ty:TypeId} {pos:String} {after:Array Edge} {g:Option (Nat×Bool)} (w:World):
 (execOp a.eval ⟨dst,.call c,ty,pos,after,g⟩).run P w=(tgSem tg (SV.vas (ads m) az).toArray).run P w:=by
 have hev:=ev_ok h hg ha
 obtain ⟨callee,args,argTypes⟩:=c
 simp only [callTg] at hc
 split at hc
 · split at hc <;> try (first | contradiction | exact False.elim hc)
   rename_i f first cap az' hf has
   simp only [Option.some.injEq,Prod.mk.injEq] at hc
   obtain ⟨rfl,rfl⟩:=hc
   have e1:=hev _ _ hf
   have e2:=optAll_ok (g:=SV.va (ads m)) hev has
   have e3:args.map a.eval=(SV.vas (ads m) az').toArray:=by apply xm;simp [SV.vas_eq,e2]
   simp [execOp,resolve,e1,e3,SV.va,Deferred.ofValue,invoke,tgSem,SV.vas_eq]
 · split at hc <;> try (first | contradiction | exact False.elim hc)
   rename_i t v az' hf has
   simp only [Option.some.injEq,Prod.mk.injEq] at hc
   obtain ⟨rfl,rfl⟩:=hc
   have e1:=hev _ _ hf
   have e2:=optAll_ok (g:=SV.va (ads m)) hev has
   have e3:args.map a.eval=(SV.vas (ads m) az').toArray:=by apply xm;simp [SV.vas_eq,e2]
   simp [execOp,resolve,e1,e3,SV.va,invoke,tgSem,SV.vas]
 · cases hc
def wrLive:List (Ck C)→Bool
 | []=>true
 | c :: r=>(!c.wr || c.alive) && (c.noOwn && wrLive r)
theorem wrLive_ok {m:List (Ck C)} (h:wrLive m=true):∀ c∈m,c.wr=true→c.alive=true:=by
 induction m with
 | nil=>intro c hc;cases hc
 | cons x r ih=>
   simp only [wrLive,zn,Bool.or_eq_true,yp] at h
   intro c hc hw
   rcases List.mem_cons.1 hc with rfl | hc
   · rcases h.1 with h | h
     · rw [hw] at h;cases h
     · exact h
   · exact ih h.2.2 c hc hw
theorem wrLive_own {m:List (Ck C)} (h:wrLive m=true):∀ c∈m,c.noOwn=true:=by
 induction m with
 | nil=>intro c hc;cases hc
 | cons x r ih=>
   simp only [wrLive,zn] at h
   intro c hc
   rcases List.mem_cons.1 hc with rfl | hc
   · exact h.2.1
   · exact ih h.2.2 c hc
def altsP (K:SV→List (Ck C)→Tr) (ρ:List Nat) (mem M:List (Ck C)):List (Alt C)→Tr
 | []=>.yes
 | A :: r=>.and (.all fun y=>.imp (A.post y)
     (match memLt (A.out y).length (A.out y) && SV.lt (A.out y).length (A.res y) with
     | true=>K ((A.res y).ren (ρ ++ upFrom M.length ((A.out y).length - mem.length)))
        (backU (ρ ++ upFrom M.length ((A.out y).length - mem.length)) ρ mem (A.out y) M ++ backN (ρ ++ upFrom M.length ((A.out y).length - mem.length)) mem (A.out y))
     | false=>.no)) (altsP K ρ mem M r)
theorem altsP_ok {K:SV→List (Ck C)→Tr} {ρ:List Nat} {mem M:List (Ck C)}:∀ {l:List (Alt C)},(altsP K ρ mem M l).holds→∀ A∈l,∀ y:A.Y,A.post y→
 memLt (A.out y).length (A.out y)=true∧SV.lt (A.out y).length (A.res y)=true∧(K ((A.res y).ren (ρ ++ upFrom M.length ((A.out y).length - mem.length)))
       (backU (ρ ++ upFrom M.length ((A.out y).length - mem.length)) ρ mem (A.out y) M ++ backN (ρ ++ upFrom M.length ((A.out y).length - mem.length)) mem (A.out y))).holds
 | [],_,A,hA,_,_=>by cases hA
 | B :: r,h,A,hA,y,hy=>by
   rcases List.mem_cons.1 hA with rfl | hA
   · have h1:=h.1 y hy
     split at h1 <;> try (first | contradiction | exact False.elim h1)
     rename_i hc
     simp only [zn] at hc
     exact ⟨hc.1,hc.2,h1⟩
   · exact altsP_ok h.2 A hA y hy
def callP {P:Program} (fcs:List (Fc P C)) (tm:Tm) (m:List (Ck C)) (al:List (Nat×Bool)) (c:Call) (K:SV→List (Ck C)→Tr):Tr:=
 match callTg tm m al c with
 | none=>.no
 | some (tg,az)=>match findFc tg az m fcs with
   | none=>.no
   | some ⟨b,x,ρ⟩=>match memLt m.length m && tmLt m.length tm && memLt (b.mem x).length (b.mem x) && SV.lts (b.mem x).length (b.args x) && wrLive (b.mem x) && SV.lts m.length az with
      | false=>.no
      | true=>withOffs m ρ (b.mem x) fun ρ M=>match apartB ρ (b.mem x) with
        | false=>.no
        | true=>match eqvs m.length (SV.rens ρ (b.args x)) az,cksEq m.length ρ M ρ (b.mem x) with
          | some ps,some qs=>conj ps (conj qs (.and (.lf (b.pre x)) (altsP K ρ (b.mem x) M (b.alts x))))
          | _,_=>.no
def noWr:List (Ck C)→Bool
 | []=>true
 | c :: r=>!c.wr && noWr r
def callQ1 {P:Program} (N:Nat) (b:Pc P C) (x:b.X) (az:List SV) (ρ:List Nat) (M:List (Ck C)):Ans:=
 match SV.lt N ((b.res x).ren ρ) with
 | false=>none
 | true=>match eqvs N (SV.rens ρ (b.args x)) az,cksEq N ρ M ρ (b.mem x) with
   | some ps,some qs=>some (ps ++ qs ++ [b.pre x],(b.res x).ren ρ)
   | _,_=>none
def callQ {P:Program} (pcs:List (Pc P C)) (tm:Tm) (m:List (Ck C)) (al:List (Nat×Bool)) (o:Op):Ans:=
 match o with
 | .call c=>match callTg tm m al c with
   | none=>none
   | some (tg,az)=>match findPc tg az m pcs with
     | none=>none
     | some ⟨b,x,ρ⟩=>match memLt m.length m && memLt (b.mem x).length (b.mem x) && SV.lts (b.mem x).length (b.args x) && SV.lt (b.mem x).length (b.res x) && noWr (b.mem x) && SV.lts m.length az with
        | false=>none
        | true=>match allLt m.length ρ with
          | true=>callQ1 m.length b x az ρ m
          | false=>callQ1 m.length b x az (fixR m.length m.length ρ) (m ++ offs m.length ρ (b.mem x))
 | _=>none
theorem noWr_ok {m:List (Ck C)} (h:noWr m=true):∀ c∈m,c.wr=false:=by
 induction m with
 | nil=>intro c hc;cases hc
 | cons x r ih=>
   simp only [noWr,zn,yp] at h
   intro c hc
   rcases List.mem_cons.1 hc with rfl | hc
   · exact h.1
   · exact ih h.2 c hc
theorem vas_rens {n:Nat} {ρ:List Nat} {ad ad':Nat→Ad} (h:∀ c,c<n→ad c=ad' (rn ρ c)) {N:Nat} (hN:∀ c,N≤c→(ad' c).on=false) {vs az:List SV} (hl:SV.lts n vs=true) {ps:List Prop} (he:eqvs N (SV.rens ρ vs) az=some ps) (hp:allOf ps):
 SV.vas ad vs=SV.vas ad' az:=by
 rw [SV.vas_ren h vs hl,eqvs_ok hN _ _ ps he hp]
def OpTo (P:Program) (S:Sx) (w0:World) (n:Nat) (tm:Tm) (m:List (Ck C)) (o:Oper) (a:Act) (w:World) (K:SV→List (Ck C)→Tr):Prop:=
 ∀ (next:Act→World→Prop) (Q:Exit→Act→World→Prop),
   (∀ r m' w' v,K r m'→MemOK S w0 w' m'→ActOK (ads m') n tm a→v=r.va (ads m')→(m.length≤m'.length∧∀ k,k<m.length→ads m k=ads m' k)→next (a.put o.dst v) w')→o.wp P a w next Q
theorem callP_ok {P:Program} {S:Sx} {w0 w:World} {n:Nat} {tm:Tm} {m:List (Ck C)} {a:Act} (h:ActOK (ads m) n tm a) (hm:MemOK S w0 w m) {al:List (Nat×Bool)} (ha:AlOK tm al)
 {fcs:List (Fc P C)} {c:Call} {dst:Option Tmp} {ty:TypeId} {pos:String} {after:Array Edge} {g:Option (Nat×Bool)} {K:SV→List (Ck C)→Tr} (hK:callP fcs tm m al c K):
 OpTo P S w0 n tm m ⟨dst,.call c,ty,pos,after,g⟩ a w K:=by
 unfold callP at hK
 split at hK <;> try (first | contradiction | exact False.elim hK)
 rename_i tg az htg
 split at hK <;> try (first | contradiction | exact False.elim hK)
 rename_i b x ρ hb
 split at hK <;> try (first | contradiction | exact False.elim hK)
 rename_i hc
 simp only [zn] at hc
 obtain ⟨⟨⟨⟨⟨c1,c2⟩,c3⟩,c4⟩,c6⟩,c7⟩:=hc
 obtain ⟨ρ,o,hK,ho,hlM,_⟩:=withOffs_ok hK c1
 obtain ⟨M,hMe⟩:∃ M,M=m ++ o:=⟨_,rfl⟩
 have hmM:=hm.withO c1 ho
 obtain ⟨hadsP,hN⟩:=ads_offs (m:=m) (o:=o) (fun x hx=>(ho x hx).1)
 rw [← hMe] at hK hlM hmM hadsP hN
 split at hK <;> try (first | contradiction | exact False.elim hK)
 rename_i c5
 split at hK <;> try (first | contradiction | exact False.elim hK)
 rename_i ps qs hps hqs
 obtain ⟨hps',hK⟩:=(conj_iff _ _).1 hK
 obtain ⟨hqs',hK⟩:=(conj_iff _ _).1 hK
 obtain ⟨hpre,hK⟩:=hK
 obtain ⟨hlen,hk⟩:=cksEq_ok hqs hqs'
 have hk':∀ k,k<(b.mem x).length→rn ρ k<M.length∧CkEq m.length ρ (nth (b.mem x) k) (nth M (rn ρ k)):=fun k hkl=>by
  obtain ⟨h1,qs,h2,h3⟩:=hk k hkl
  exact ⟨h1,ckEq_ok h2 h3⟩
 have hap:=apartB_ok c5 hlen
 obtain ⟨hent,hads⟩:=hmM.enter hN c3 hk' hap (wrLive_own c6)
 have hvals:=vas_rens hads hN c4 hps hps'
 have hasl:SV.vas (ads M) az=SV.vas (ads m) az:=SV.vas_congr (fun c hc=>(hadsP c hc).symm) az c7
 rw [hasl] at hvals
 have hex:=callTg_ok (P:=P) h hm.glob ha htg (dst:=dst) (ty:=ty) (pos:=pos) (after:=after) (g:=g) w
 obtain ⟨f,vals,hrun,hcalls⟩:=b.ok x hpre w hent
 rw [findFc_tg hb,hvals] at hrun
 intro next Q hnext
 unfold Oper.wp
 rw [hex,hrun]
 simp only [Oper.upon]
 refine hcalls.mono ?_
 rintro e w' ⟨r,m',he,hm',hext,A,hA,y,hy,rfl,rfl⟩
 subst he
 simp only
 obtain ⟨hol1,hol2,hKy⟩:=altsP_ok hK A hA y hy
 have hol:=And.intro hol1 hol2
 obtain ⟨hback,hadsO,hadsM,hlenM⟩:=hmM.back hlM hlen hk' hap (wrLive_ok c6) hm' hext hol.1
 have hmM':m.length≤M.length:=by rw [hMe];simp
 have hall:∀ k,k<m.length→ads m k=ads (backU (ρ ++ upFrom M.length ((A.out y).length - (b.mem x).length)) ρ (b.mem x) (A.out y) M ++ backN (ρ ++ upFrom M.length ((A.out y).length - (b.mem x).length)) (b.mem x) (A.out y)) k:=
  fun k hkl=>(hadsP k hkl).trans (hadsM k (by omega))
 exact hnext _ _ w' _ hKy hback (h.ads hall c2) (SV.va_ren hadsO _ hol.2) ⟨by omega,hall⟩
theorem callQ_ok {P:Program} {S:Sx} {w0 w:World} {n:Nat} {tm:Tm} {m:List (Ck C)} {a:Act} (h:ActOK (ads m) n tm a) (hm:MemOK S w0 w m) {al:List (Nat×Bool)} (ha:AlOK tm al)
 {pcs:List (Pc P C)} {o:Oper} {ps:List Prop} {r:SV} (hK:callQ pcs tm m al o.op=some (ps,r)) (hp:allOf ps):
 ∃ f vals,(execOp a.eval o).run P w=.ok (.enter f vals) w∧Calls P f vals w fun e w'=>e=.returned (r.va (ads m))∧MemOK S w0 w' m:=by
 obtain ⟨dst,op,ty,pos,after,g⟩:=o
 simp only at hK
 cases op <;> simp only [callQ] at hK <;> try contradiction
 rename_i c
 split at hK <;> try (first | contradiction | exact False.elim hK)
 rename_i tg az htg
 split at hK <;> try (first | contradiction | exact False.elim hK)
 rename_i b x ρ hb
 split at hK <;> try (first | contradiction | exact False.elim hK)
 rename_i hc
 simp only [zn] at hc
 obtain ⟨⟨⟨⟨⟨c1,c2⟩,c3⟩,c4⟩,c5⟩,c7⟩:=hc
 have key:∃ ρ o,callQ1 m.length b x az ρ (m ++ o)=some (ps,r)∧(∀ x∈o,x.on=false∧(∀ t y,¬ x.cells.Has t y)∧∀ n,x.lt n=true):=by
  split at hK
  · exact ⟨ρ,[],by rw [vj];exact hK,fun x hx=>by simp at hx⟩
  · exact ⟨_,_,hK,offs_off _ _ _⟩
 clear hK
 obtain ⟨ρ,o,hK,ho⟩:=key
 obtain ⟨hmM,hlM⟩:=hm.offs c1 ho
 obtain ⟨hadsP,hN⟩:=ads_offs (m:=m) (o:=o) (fun x hx=>(ho x hx).1)
 obtain ⟨M,hMe⟩:∃ M,M=m ++ o:=⟨_,rfl⟩
 rw [← hMe] at hK hlM hmM hadsP hN
 unfold callQ1 at hK
 split at hK <;> try (first | contradiction | exact False.elim hK)
 rename_i hresl
 split at hK <;> try (first | contradiction | exact False.elim hK)
 rename_i ps' qs hps hqs
 simp only [Option.some.injEq,Prod.mk.injEq] at hK
 obtain ⟨rfl,rfl⟩:=hK
 obtain ⟨hpq,hpre⟩:=(allOf_append _ _).1 hp
 obtain ⟨hps',hqs'⟩:=(allOf_append _ _).1 hpq
 simp only [allOf,and_true] at hpre
 obtain ⟨hlen,hk⟩:=cksEq_ok hqs hqs'
 have hk':∀ k,k<(b.mem x).length→rn ρ k<M.length∧CkEq m.length ρ (nth (b.mem x) k) (nth M (rn ρ k)):=fun k hkl=>by
  obtain ⟨h1,qs,h2,h3⟩:=hk k hkl
  exact ⟨h1,ckEq_ok h2 h3⟩
 have hnw:=noWr_ok c5
 have hap:∀ i j,i<(b.mem x).length→j<(b.mem x).length→i≠j→(nth (b.mem x) i).wr=true→rn ρ i≠rn ρ j:=by
  intro i j hi _ _ hw
  rw [hnw _ (nth_mem hi)] at hw;cases hw
 obtain ⟨hent,hads⟩:=hmM.enter hN c2 hk' hap fun c hc=>Ck.noOwn_ro (hnw c hc)
 have hvals:=vas_rens hads hN c3 hps hps'
 have hasl:SV.vas (ads M) az=SV.vas (ads m) az:=SV.vas_congr (fun c hc=>(hadsP c hc).symm) az c7
 rw [hasl] at hvals
 have hex:=callTg_ok (P:=P) h hm.glob ha htg (dst:=dst) (ty:=ty) (pos:=pos) (after:=after) (g:=g) w
 obtain ⟨f,vals,hrun,hcalls⟩:=b.ok x hpre w hent
 rw [findPc_tg hb,hvals] at hrun
 refine ⟨f,vals,by rw [hex,hrun],hcalls.mono ?_⟩
 rintro e w' ⟨r,m',he,hm',hext,rfl,rfl⟩
 subst he
 obtain ⟨hback,_,_,_⟩:=hmM.back hlM hlen hk' hap (fun c hc hw=>by rw [hnw c hc] at hw;cases hw) hm' hext c2
 have hU:∀ (ρ':List Nat) (r:List Nat) (s out M:List (Ck C)),(∀ c∈s,c.wr=false)→backU ρ' r s out M=M:=by
  intro ρ' r
  induction r with
  | nil=>intro s out M _;cases s <;> cases out <;> rfl
  | cons p r ih=>
    intro s out M hs
    cases s with
    | nil=>cases out <;> rfl
    | cons a s=>
      cases out with
      | nil=>rfl
      | cons o out=>
        simp only [backU,hs a (by simp)]
        exact ih s out M (fun c hc=>hs c (by simp [hc]))
 have hN':∀ (ρ':List Nat) (s:List (Ck C)),backN ρ' s s=[]:=by
  intro ρ' s
  induction s with
  | nil=>rfl
  | cons a s ih=>exact ih
 rw [hU _ _ _ _ _ hnw,hN',vj] at hback
 refine ⟨?_,?_⟩
 · rw [SV.va_ren hads _ c4,SV.va_congr (fun c hc=>(hadsP c hc).symm) _ hresl]
 · rw [hMe] at hback
   exact MemOK.dropO c1 hback
end Go.Vx
namespace Go.Vx
open Go
structure Rw (α:Type) where
 on:Bool
 b:Nat
 base:Nat
 m:Nat
 l:List α
def Rw.nil {α:Type}:Rw α:=⟨false,0,0,0,[]⟩
def Rw.val {α:Type} (r:Rw α):Value:=match r.on with
 | false=>.slice none 0 0
 | true=>.slice (some ⟨r.b,r.base,none⟩) r.l.length r.m
def Rw.blks {α:Type} (r:Rw α):List Nat:=match r.on with
 | false=>[]
 | true=>[r.b]
def Rw.ok (c:Codec) (w:World) (r:Rw c.α):Prop:=match r.on with
 | false=>r.l=[]∧r.m=0
 | true=>∀ i,i<r.l.length→∀ f,f<c.sz→w.cell? ⟨r.b,r.base+(i*c.sz+f),none⟩=some (((c.enc (r.l.getD i c.dflt)).getD f .junk).va noAd)
theorem Rw.ok_keep (c:Codec) (w w':World) (r:Rw c.α) (hb:∀ b∈r.blks,w'.heap[b]? = w.heap[b]?) (h:Rw.ok c w r):Rw.ok c w' r:=by
 unfold Rw.ok at *
 split
 · rename_i he;simp only [he] at h;exact h
 · rename_i he
   simp only [he] at h
   intro i hi f hf
   rw [World.cell?_of_block (w:=w) (a:=⟨r.b,r.base+(i*c.sz+f),none⟩) (hb r.b (by simp [Rw.blks,he]))]
   exact h i hi f hf
def Rw.sv {α:Type} (r:Rw α):SV:=match r.on with
 | false=>.nils
 | true=>.val (.slice (some ⟨r.b,r.base,none⟩) r.l.length r.m)
theorem Rw.sv_va {α:Type} (r:Rw α) (ad:Nat→Ad):r.sv.va ad=r.val:=by
 unfold Rw.sv Rw.val
 split <;> simp [SV.va]
abbrev rwCodec (c:Codec):Codec where
 α:=Rw c.α
 dflt:=Rw.nil
 sz:=1
 enc x:=[x.sv]
 upd _ _ _:=none
 len _:=rfl
 cell x v hv:=by
  rw [List.mem_singleton.1 hv]
  unfold Rw.sv
  split <;> rfl
 flat x ad ad':=by simp [Rw.sv_va]
 upd_ok _ _ _ _ _ h:=by cases h
 deep:=true
 blks:=Rw.blks
 good:=Rw.ok c
 good_keep w w' x:=Rw.ok_keep c w w' x
 flat_deep h:=by cases h
 upd_deep _ _ _ _:=rfl
 whole_deep _ _:=rfl
 dflt_deep:=⟨rfl,fun _=>⟨rfl,rfl⟩⟩
def Gw.ok (c:Codec) (w:World) (r:Rw c.α):Prop:=Rw.ok c w r∧(r.on=true→r.l.length≤r.m∧(∀ j,j<r.m*c.sz→(w.cell? ⟨r.b,r.base+j,none⟩).isSome=true)∧∀ a:Addr,a.block=r.b→w.frozen? a=false)
structure GroOK (C:Nat→Codec) (te t:Nat) (get:(C te).α→Rw (C t).α) (put:Rw (C t).α→(C te).α):Prop where
 gp:∀ r,get (put r)=r
 sz:(C te).sz=1
 enc:∀ r,(C te).enc (put r)=[.val r.val]
 agg:(C te).agg=false
 own:(C te).own=true
 blks:∀ r,(C te).blks (put r)=r.blks
 good:∀ w r,Gw.ok (C t) w r→(C te).good w (put r)
 ungood:∀ w r,(C te).good w (put r)→Gw.ok (C t) w r
structure Fam (C:Nat→Codec) where
 te:Nat
 off:Nat
 t:Nat
 get:(C te).α→Rw (C t).α
 enc:∀ x,(((C te).enc x).getD off .junk).va noAd=(get x).val
 good:∀ w x,(C te).good w x→Rw.ok (C t) w (get x)
 blk:∀ x,∀ b∈(get x).blks,b∈(C te).blks x
 flat:(C t).deep=false
 hoff:off<(C te).sz
 put:Option (Rw (C t).α→(C te).α):=none
 gro:∀ p,put=some p→GroOK C te t get p:=by intro p h;cases h
structure FamW (C:Nat→Codec) where
 te:Nat
 t:Nat
 put:Rw (C t).α→(C te).α
 sz:(C te).sz=1
 enc:∀ r,(((C te).enc (put r)).getD 0 .junk).va noAd=r.val
 blks:∀ r,(C te).blks (put r)=r.blks
 good:∀ w r,Rw.ok (C t) w r→(C te).good w (put r)
variable {C:Nat→Codec}
def findFam (te f:Nat):List (Fam C)→Option { F:Fam C // F.te=te∧F.off=f }
 | []=>none
 | F :: r=>if h:F.te=te∧F.off=f then some ⟨F,h⟩ else findFam te f r
def findFamW (te:Nat):List (FamW C)→Option { F:FamW C // F.te=te }
 | []=>none
 | F :: r=>if h:F.te=te then some ⟨F,h⟩ else findFamW te r
structure FamHit (C:Nat→Codec) where
 F:Fam C
 c:Nat
 asks:List Prop
 x:(C F.te).α
def famOf (P:Program) (fams:List (Fam C)) (tm:Tm) (m:List (Ck C)) (al:List (Nat×Bool)) (o:Op):Option (FamHit C):=
 match fams with
 | []=>none
 | _ :: _=>match o with
   | .load t a=>match ev tm m al a with
     | some (.ptr c i f)=>match (nth m c).cells with
       | .rows te l=>match findFam te f fams with
         | some ⟨F,h⟩=>match aggTy P t with
           | some false=>some ⟨F,c,(nth m c).there ++ [i<(castL h.1.symm l).length],(castL h.1.symm l).getD i (C F.te).dflt⟩
           | _=>none
         | none=>none
       | _=>none
     | _=>none
   | .lookup t x k false=>match P.underlying t,ev tm m al x,ev tm m al k with
     | some (.map kt vt),some (.mp c),some kv=>match (nth m c).sure with
       | .mp tk tv l _=>match zj kt tk && zj vt tv,decV (C tk) kv,findFam tv 0 fams with
         | true,some q,some ⟨F,h⟩=>match (C F.te).agg,zj (C F.te).sz 1 with
           | false,true=>some ⟨F,c,[KeyOK P tk (C tk),ZeroIs P tv (C tv)],h.1 ▸ mget (C tk) (C tv) l q⟩
           | _,_=>none
         | _,_,_=>none
       | _=>none
     | _,_,_=>none
   | _=>none
def famT (h:FamHit C) (tm:Tm) (m:List (Ck C)) (K:SV→List (Ck C)→Tr):Tr:=
 match memLt m.length m && tmLt m.length tm with
 | false=>.no
 | true=>match h with
   | ⟨F,_,asks,x⟩=>conj asks (.all fun r:Rw (C F.t).α=>.imp (F.get x=r)
     (K (.sl m.length 0 r.l.length r.m) (m ++ [⟨r.b,r.base,(C F.t).sz,false,some r.on,.rows F.t r.l⟩])))
theorem MemOK.ghostB {S:Sx} {w0 w:World} {m:List (Ck C)} (h:MemOK S w0 w m) (hl:memLt m.length m=true) {t:Nat} (ht:(C t).deep=false) {r:Rw (C t).α} (hr:Rw.ok (C t) w r) (hon:r.on=true) {o:Bool} (hB:Blk S w0 w m o r.b) (g:Option Bool):
 MemOK S w0 w (m ++ [⟨r.b,r.base,(C t).sz,false,g,.rows t r.l⟩]):=by
 unfold Rw.ok at hr
 simp only [hon] at hr
 have hin:∀ y,y∈m ++ [(⟨r.b,r.base,(C t).sz,false,g,.rows t r.l⟩:Ck C)]→y∈m∨y=⟨r.b,r.base,(C t).sz,false,g,.rows t r.l⟩:=by intro y hy;simpa using hy
 refine ⟨h.os,h.tape,h.output,h.size,h.keep,?_,?_,?_,?_,?_,?_⟩
 · intro y hy hw ho hb
   rcases hin y hy with hy | rfl
   · exact h.inS y hy hw ho hb
   · cases hw
 · intro y hy ho
   rcases hin y hy with hy | rfl
   · exact Ck.ok_ads (ads_append m _) (memLt_mem hl hy) (h.ok y hy ho)
   · refine ⟨rfl,fun i hi f hf => ?_⟩
     rw [enc_flat (C t) _ noAd _ f hf]
     exact hr i hi f hf
 · intro y hy hw hlv a hab
   rcases hin y hy with hy | rfl
   · exact h.wrok y hy hw hlv a hab
   · cases hw
 · intro p q hp hq hpq hw hlp hlq
   simp only [zu,wb] at hp hq
   rw [nth_append] at hw hlp ⊢
   rw [nth_append] at hlq ⊢
   by_cases h1:p<m.length
   · rw [if_pos h1] at hw hlp ⊢
     by_cases h2:q<m.length
     · rw [if_pos h2] at hlq ⊢
       exact h.apart p q h1 h2 hpq hw hlp hlq
     · rw [if_neg h2,if_pos (by omega)]
       exact hB.no _ (nth_mem h1) hw hlp
   · rw [if_neg h1,if_pos (by omega)] at hw
     cases hw
 · intro y hy ho
   rcases hin y hy with hy | rfl
   · exact h.lt y hy ho
   · exact hB.lt
 · refine ⟨h.more.gv,h.more.gp,fun p hp => ?_,h.more.nod,fun y hy t' z hz => ?_⟩
   · obtain ⟨h1,h2,h3⟩:=h.more.pin p hp
     refine ⟨h1,h2,fun y hy hlv => ?_⟩
     rcases hin y hy with hy | rfl
     · exact h3 y hy hlv
     · exact (hB.pin p hp).symm
   · rcases hin y hy with hy | rfl
     · obtain ⟨k1,k2⟩:=h.more.deep y hy t' z hz
       refine ⟨k1,fun b' hb'=>⟨(k2 b' hb').lt,(k2 b' hb').old,fun c' hc' hw' hl' => ?_,(k2 b' hb').pin⟩⟩
       rcases hin c' hc' with hc' | rfl
       · exact (k2 b' hb').no c' hc' hw' hl'
       · cases hw'
     · obtain ⟨rfl,_⟩:=Cells.Has.inv hz
       obtain ⟨f1,f2⟩:=(C t).flat_deep ht z
       exact ⟨f2 w,fun b' hb'=>by rw [f1] at hb';cases hb'⟩
theorem MemOK.ghost {S:Sx} {w0 w:World} {m:List (Ck C)} (h:MemOK S w0 w m) (hl:memLt m.length m=true) (F:Fam C) {x:(C F.te).α} (hx:(∃ c∈m,c.cells.Has F.te x)∨x=(C F.te).dflt) {r:Rw (C F.t).α}
 (hr:F.get x=r):MemOK S w0 w (m ++ [⟨r.b,r.base,(C F.t).sz,false,some r.on,.rows F.t r.l⟩])∧(r.on=false→r.l=[]∧r.m=0):=by
 have hg:(C F.te).good w x∧∀ b∈(C F.te).blks x,Blk S w0 w m false b:=by
  rcases hx with ⟨c,hc,hx⟩ | rfl
  · obtain ⟨g1,g2⟩:=h.more.deep c hc F.te x hx
    exact ⟨g1,fun b hb=>(g2 b hb).weak (fun e=>by cases e)⟩
  · obtain ⟨g1,g2⟩:=(C F.te).dflt_deep
    exact ⟨g2 w,fun b hb=>by rw [g1] at hb;cases hb⟩
 obtain ⟨g1,g2⟩:=hg
 have hok:=F.good w x g1
 rw [hr] at hok
 have hbk0:=F.blk x
 rw [hr] at hbk0
 cases hon:r.on with
 | false=>
   have hok':=hok
   unfold Rw.ok at hok'
   simp only [hon] at hok'
   exact ⟨h.off hl rfl (CsIn.rows (RowsOf.flat F.flat r.l)),fun _=>hok'⟩
 | true=>
   refine ⟨?_,fun h=>by cases h⟩
   exact h.ghostB hl F.flat hok hon (g2 r.b (hbk0 r.b (by simp [Rw.blks,hon]))) _
theorem ghost_val {t:Nat} (r:Rw (C t).α) (m:List (Ck C)) (hr:r.on=false→r.l=[]∧r.m=0):
 r.val=(SV.sl m.length 0 r.l.length r.m).va (ads (m ++ [(⟨r.b,r.base,(C t).sz,false,some r.on,.rows t r.l⟩:Ck C)])):=by
 have had:ads (m ++ [(⟨r.b,r.base,(C t).sz,false,some r.on,.rows t r.l⟩:Ck C)]) m.length=⟨r.b,r.base,(C t).sz,r.on⟩:=ads_append_new _ _
 simp only [SV.va,had,Rw.val,Ad.at,sc,yx]
 cases hon':r.on with
 | false=>obtain ⟨e1,e2⟩:=hr hon';simp [e1,e2]
 | true=>rfl
theorem packV_get (F:Fam C) (h0:F.off=0) (ha:(C F.te).agg=false) (hs:(C F.te).sz=1) (x:(C F.te).α):packV (C F.te) x=(F.get x).val:=by
 have:=F.enc x
 rw [h0] at this
 rw [← this]
 unfold packV
 rw [ha]
 have hl:=(C F.te).len x
 rw [hs] at hl
 simp only [zy]
 rw [zt (by omega)];rfl
theorem famOf_run {P:Program} {n:Nat} {fams:List (Fam C)} {tm:Tm} {m:List (Ck C)} {a:Act} (h:ActOK (ads m) n tm a) (hg:GlOK m) {al:List (Nat×Bool)} (ha:AlOK tm al) {o:Oper} {ht:FamHit C}
 (hf:famOf P fams tm m al o.op=some ht) (hp:allOf ht.asks):ht.c<m.length∧(nth m ht.c).on=true∧((nth m ht.c).cells.Has ht.F.te ht.x∨ht.x=(C ht.F.te).dflt)∧
   ∀ w,Ck.ok (ads m) w (nth m ht.c)→(execOp a.eval o).run P w=.ok (.value (ht.F.get ht.x).val) w:=by
 obtain ⟨dst,op,ty,pos,after,g⟩:=o
 unfold famOf at hf
 simp only at hf
 split at hf <;> try contradiction
 split at hf <;> try contradiction
 · rename_i t x
   split at hf <;> try contradiction
   rename_i c i f he
   split at hf <;> try contradiction
   rename_i te l hcl
   split at hf <;> try contradiction
   rename_i F hF _
   split at hf <;> try contradiction
   rename_i hag
   simp only [Option.some.injEq] at hf
   subst hf
   obtain ⟨rfl,rfl⟩:=hF
   have hcast:castL rfl l=l:=rfl
   simp only [hcast] at hp ⊢
   obtain ⟨hth,hp⟩:=(allOf_append _ _).1 hp
   have hon:=Ck.there_ok hth
   have hi:i<l.length:=hp.1
   have h1:=ev_ok h hg ha _ _ he
   refine ⟨lt_of_alive (show (nth m c).alive=true by simp [Ck.alive,hcl]),hon,.inl (.of_rows hcl ?_),fun w hok => ?_⟩
   · rw [zy,zt hi];exact xi hi
   simp only [Ck.ok,hcl] at hok
   have hcell:=hok.2 i hi F.off F.hoff
   rw [enc_flat (C F.te) _ noAd _ F.off F.hoff,F.enc] at hcell
   generalize (F.get (l.getD i (C F.te).dflt)).val=rv at hcell ⊢
   have h2:=run_loadVar (P:=P) (w:=w) (a:=(ads m c).at i F.off) hag (vs:=[rv]) 0 (fun h=>by cases h) (fun _=>by simp) (fun j u hj _ h2=>by
    have:j=0:=by simp at h2;omega
    subst this
    simp only [List.getElem?_cons_zero,Option.some.injEq] at hj
    subst hj
    simpa [Addr.add,ads] using hcell)
   simp only [uy] at h2
   simp [execOp,Instr.loadAt,h1,SV.va,Instr.sureAddr,h2]
 · rename_i t x k
   split at hf <;> try contradiction
   rename_i kt vt c kv hu hx hk
   split at hf <;> try contradiction
   rename_i tk tv l clk hc
   split at hf <;> try contradiction
   rename_i q F hF hb hq _
   split at hf <;> try contradiction
   rename_i hagg hsz
   simp only [Option.some.injEq] at hf
   subst hf
   obtain ⟨rfl,h0⟩:=hF
   simp only [zn] at hb
   have e1:=zp hb.1
   have e2:=zp hb.2
   subst e1;subst e2
   obtain ⟨hK,hZ,_⟩:=hp
   obtain ⟨hcc,hon⟩:=Ck.sure_ok hc (by simp)
   have ex:=ev_ok h hg ha _ _ hx
   have ek:=ev_ok h hg ha _ _ hk
   rw [← decV_ok hq (ads m)] at ek
   refine ⟨lt_of_alive (show (nth m c).alive=true by simp [Ck.alive,hcc]),hon,?_,fun w hok => ?_⟩
   · rcases mget_val (C kt) (C F.te) l q with ⟨e,he,h1⟩ | h1
     · refine .inl ?_
       rw [show (_:(C F.te).α)=e.2.1 from h1.symm]
       exact .of_mp hcc he
     · exact .inr h1
   simp only [Ck.ok,hcc] at hok
   have hr:=run_lookup hu hK hZ hok q false
   rw [if_neg (by simp)] at hr
   rw [packV_get F h0 hagg (zp hsz)] at hr
   rw [show (nth m c).block=(ads m c).block from rfl] at hr
   simp [execOp,ex,ek,SV.va,hr]
theorem famT_ok {P:Program} {S:Sx} {w0:World} {n:Nat} {fams:List (Fam C)} {tm:Tm} {m:List (Ck C)} {a:Act} (h:ActOK (ads m) n tm a) (hg:GlOK m) {al:List (Nat×Bool)} (ha:AlOK tm al) {o:Oper} {ht:FamHit C}
 (hf:famOf P fams tm m al o.op=some ht) {K:SV→List (Ck C)→Tr} (hK:(famT ht tm m K).holds):
 ∃ v m',(∀ w,MemOK S w0 w m→(execOp a.eval o).run P w=.ok (.value (v.va (ads m'))) w)∧(K v m').holds∧(∀ w,MemOK S w0 w m↔MemOK S w0 w m')∧ActOK (ads m') n tm a∧GlOK m'∧
   (m.length≤m'.length∧∀ k,k<m.length→ads m k=ads m' k∧nth m' k=nth m k):=by
 obtain ⟨F0,c0,as0,x0⟩:=ht
 unfold famT at hK
 split at hK <;> try exact hK.elim
 rename_i hlt
 simp only [zn] at hlt
 obtain ⟨hp,hK⟩:=(conj_iff _ _).1 hK
 have hK:=hK _ rfl
 obtain ⟨hc,hon,hx,hrun⟩:=famOf_run h hg ha hf hp
 have hx':(∃ c∈m,c.cells.Has F0.te x0)∨x0=(C F0.te).dflt:=hx.imp (fun hx=>⟨_,nth_mem hc,hx⟩) id
 refine ⟨_,_,fun w hm => ?_,hK,fun w=>⟨fun hm=>(hm.ghost hlt.1 F0 hx' rfl).1,MemOK.dropO hlt.1⟩,h.ads (ads_append m _) hlt.2,trivial,by simp,fun k hk=>⟨ads_append m _ k hk,by rw [nth_append,if_pos hk]⟩⟩
 rw [hrun w (hm.ok _ (nth_mem hc) hon),ghost_val _ m (hm.ghost hlt.1 F0 hx' rfl).2]
def frz:List (Ck C)→Nat→List (Ck C)
 | [],_=>[]
 | ⟨b,ba,sz,_,g,cs⟩ :: r,0=>⟨b,ba,sz,false,g,cs⟩ :: r
 | x :: r,c+1=>x :: frz r c
theorem length_frz:∀ (m:List (Ck C)) (c:Nat),(frz m c).length=m.length
 | [],_=>rfl
 | _ :: _,0=>rfl
 | x :: r,c+1=>by simp [frz,length_frz r c]
theorem nth_frz:∀ (m:List (Ck C)) (c k:Nat),nth (frz m c) k=if k=c∧c<m.length then { nth m c with wr:=false } else nth m k
 | [],c,k=>by simp [frz]
 | x :: r,0,k=>by
   cases k with
   | zero=>simp [frz,nth]
   | succ k=>simp [frz,nth]
 | x :: r,c+1,k=>by
   cases k with
   | zero=>simp [frz,nth]
   | succ k=>simp [frz,nth,nth_frz r c k]
theorem ads_frz (m:List (Ck C)) (c:Nat):ads (frz m c)=ads m:=by
 funext k
 simp only [ads,nth_frz]
 split
 · rename_i h;rw [h.1];rfl
 · rfl
theorem memLt_frz (n:Nat):∀ (m:List (Ck C)) (c:Nat),memLt n m=true→memLt n (frz m c)=true
 | [],_,h=>h
 | ⟨b,ba,sz,w,g,cs⟩ :: r,0,h=>h
 | x :: r,c+1,h=>by
   simp only [memLt,zn,frz] at h ⊢
   exact ⟨h.1,memLt_frz n r c h.2⟩
theorem MemOK.frz {S:Sx} {w0 w:World} {m:List (Ck C)} (h:MemOK S w0 w m) (c:Nat):MemOK S w0 w (frz m c):=by
 have hn:∀ k,(nth (Vx.frz m c) k).block=(nth m k).block∧(nth (Vx.frz m c) k).base=(nth m k).base∧(nth (Vx.frz m c) k).on=(nth m k).on∧(nth (Vx.frz m c) k).cells=(nth m k).cells∧((nth (Vx.frz m c) k).wr=true→(nth m k).wr=true)∧
  (nth (Vx.frz m c) k).live=(nth m k).live∧∀ w,Ck.ok (ads m) w (nth m k)→Ck.ok (ads m) w (nth (Vx.frz m c) k):=by
  intro k
  rw [nth_frz]
  split
  · rename_i e;rw [e.1];exact ⟨rfl,rfl,rfl,rfl,fun h=>by simp at h,rfl,fun _ h=>h⟩
  · exact ⟨rfl,rfl,rfl,rfl,id,rfl,fun _ h=>h⟩
 have hin:∀ x,x∈Vx.frz m c→∃ k,k<m.length∧nth (Vx.frz m c) k=x:=by
  intro x hx
  obtain ⟨k,hk,rfl⟩:=mem_nth hx
  rw [length_frz] at hk
  exact ⟨k,hk,rfl⟩
 refine ⟨h.os,h.tape,h.output,h.size,h.keep,?_,?_,?_,?_,?_,?_⟩
 · intro x hx hw ho hb
   obtain ⟨k,hk,rfl⟩:=hin x hx
   obtain ⟨e1,_,e3,_,e5,_⟩:=hn k
   rw [e1] at hb ⊢
   rw [e3] at ho
   exact h.inS _ (nth_mem hk) (e5 hw) ho hb
 · intro x hx ho
   obtain ⟨k,hk,rfl⟩:=hin x hx
   rw [(hn k).2.2.1] at ho
   rw [ads_frz]
   exact (hn k).2.2.2.2.2.2 w (h.ok _ (nth_mem hk) ho)
 · intro x hx hw hl a ha
   obtain ⟨k,hk,rfl⟩:=hin x hx
   obtain ⟨e1,_,_,_,e5,e6,_⟩:=hn k
   rw [e1] at ha
   rw [e6] at hl
   exact h.wrok _ (nth_mem hk) (e5 hw) hl a ha
 · intro i j hi hj hij hw hil hjl
   rw [length_frz] at hi hj
   rw [(hn i).1,(hn j).1]
   rw [(hn i).2.2.2.2.2.1] at hil
   rw [(hn j).2.2.2.2.2.1] at hjl
   exact h.apart i j hi hj hij ((hn i).2.2.2.2.1 hw) hil hjl
 · intro x hx ho
   obtain ⟨k,hk,rfl⟩:=hin x hx
   rw [(hn k).2.2.1] at ho
   rw [(hn k).1];exact h.lt _ (nth_mem hk) ho
 · refine h.more.mono h.inS (fun _ _ _=>rfl) (fun x hx hxl => ?_) h.size (zx _) (fun x hx => ?_)
   · obtain ⟨k,hk,rfl⟩:=hin x hx
     rw [(hn k).2.2.2.2.2.1] at hxl
     exact .inl ⟨_,nth_mem hk,hxl,(hn k).1.symm,(hn k).2.2.2.2.1⟩
   · obtain ⟨k,hk,rfl⟩:=hin x hx
     rw [(hn k).2.2.2.1]
     exact CsIn.self (nth_mem hk) (hn k).2.2.2.2.1
inductive FamSrc (C:Nat→Codec) (t:Nat) where
 | nils
 | sl (k i n mm:Nat) (l:List (C t).α)
structure FamWHit (C:Nat→Codec) where
 F:FamW C
 s:FamSrc C F.t
def famWOf (P:Program) (famw:List (FamW C)) (tm:Tm) (m:List (Ck C)) (al:List (Nat×Bool)) (o:Op):Option (FamWHit C):=
 match famw with
 | []=>none
 | _ :: _=>match o with
   | .buildSlice t len ps=>match zj len 1,P.underlying t,ps.toList with
     | true,some (.slice e),[(0,x)]=>match findFamW e famw with
       | some ⟨F,_⟩=>match ev tm m al x with
         | some .nils=>some ⟨F,.nils⟩
         | some (.sl k i n mm)=>match (nth m k).cells with
           | .rows t' l=>if h':t'=F.t then some ⟨F,.sl k i n mm (castL h' l)⟩ else none
           | _=>none
         | _=>none
       | none=>none
     | _,_,_=>none
   | _=>none
def famWT (P:Program) (h:FamWHit C) (tm:Tm) (m:List (Ck C)) (K:SV→List (Ck C)→Tr):Tr:=
 match memLt m.length m && tmLt m.length tm && zeroOK P (C h.F.te) h.F.te with
 | false=>.no
 | true=>match h.s with
   | .nils=>.all fun b=>K (.sl m.length 0 1 1) (m ++ [⟨b,0,(C h.F.te).sz,true,none,.rows h.F.te [h.F.put Rw.nil]⟩])
   | .sl k i n mm l=>match (nth m k).wr with
     | true=>.and (.lf (i+n≤l.length)) (conj ((nth m k).orNil n mm) (.all fun b=>K (.sl m.length 0 1 1) (Vx.frz m k ++ [⟨b,0,(C h.F.te).sz,true,none,.rows h.F.te [h.F.put ⟨(nth m k).on,(nth m k).block,(nth m k).base+i*(nth m k).sz,mm,(l.drop i).take n⟩]⟩])))
     | false=>.no
theorem famWT_ok {P:Program} {S:Sx} {w0 w:World} {n:Nat} {famw:List (FamW C)} {tm:Tm} {m:List (Ck C)} {a:Act} (h:ActOK (ads m) n tm a) (hm:MemOK S w0 w m) {al:List (Nat×Bool)} (ha:AlOK tm al) {o:Oper} {ht:FamWHit C}
 (hf:famWOf P famw tm m al o.op=some ht) {K:SV→List (Ck C)→Tr} (hK:(famWT P ht tm m K).holds):Left P S w0 tm m w (execOp a.eval o) K:=by
 obtain ⟨dst,op,ty,pos,after,g⟩:=o
 unfold famWOf at hf
 simp only at hf
 split at hf <;> try contradiction
 split at hf <;> try contradiction
 rename_i t len ps
 split at hf <;> try contradiction
 rename_i e x hlen hu hps
 have hlen:=zp hlen
 subst hlen
 split at hf <;> try contradiction
 rename_i F hF _
 subst hF
 have hps':ps = #[(0,x)]:=by apply xm;simpa using hps
 subst hps'
 -- the making itself, whatever is laid
 have hbuild:∀ (r:Rw (C F.t).α),zeroOK P (C F.te) F.te=true→a.eval x=r.val→
  (execOp a.eval ⟨dst,.buildSlice t 1 #[(0,x)],ty,pos,after,g⟩).run P w=.ok (.value (.slice (some ⟨w.heap.size,0,none⟩) 1 1)) (w.alloc (.cells #[r.val] F.te)):=by
  intro r hz hx
  obtain ⟨i,z,hi,hz,hzz,hsz,hn0,hzs⟩:=zeroOK_ok hz
  have hso:(sizeOf F.te).run P w=.ok 1 w:=by simp [sizeOf,typeInfo,hi,hsz,F.sz]
  have hvc:r.val.cells = #[r.val]:=by unfold Rw.val;split <;> rfl
  have hzs1:z.cells.size=1:=by rw [hzs,F.sz]
  have hrange:(ni 1).map (z.cells[· % z.cells.size]!) = #[z.cells[0 % z.cells.size]!]:=by
   apply xm
   simp [List.range_succ]
  have hfill:Instr.fill (fun i=>some (i,1)) #[z.cells[0 % z.cells.size]!] [(0,r.val)]=some #[r.val]:=by
   simp [Instr.fill,hvc]
  simp [execOp,Instr.buildSlice,run_underlying' hu,hso,zeroValue,typeInfo,hi,hz,newRow,hx]
  rw [hrange,hfill]
  simp
 have hblk0:w.heap.size=w.heap.size:=rfl
 split at hf <;> try contradiction
 · rename_i hx
   simp only [Option.some.injEq] at hf
   subst hf
   unfold famWT at hK
   split at hK <;> try exact hK.elim
   rename_i hc
   simp only [zn] at hc
   obtain ⟨⟨c1,c2⟩,c3⟩:=hc
   have hxv:=ev_ok h hm.glob ha _ _ hx
   have hb:=hbuild Rw.nil c3 (by rw [hxv];rfl)
   have hgood:∀ w',(C F.te).good w' (F.put Rw.nil):=fun w'=>F.good w' _ ⟨rfl,rfl⟩
   have hbl:(C F.te).blks (F.put Rw.nil)=[]:=F.blks _
   refine ⟨_,_,_,.inl ?_,hm.newO' c1 (.cells #[Rw.nil.val (α:=(C F.t).α)] F.te) (fun w a hw=>by simp [World.frozen?,hw]) (C F.te).sz (.rows F.te [F.put Rw.nil]) none rfl ?_ ?_,hK w.heap.size,ads_append _ _,by simp,.inr c2⟩
   · have:ads (m ++ [(⟨w.heap.size,0,(C F.te).sz,true,none,.rows F.te [F.put Rw.nil]⟩:Ck C)]) m.length=⟨w.heap.size,0,(C F.te).sz,true⟩:=ads_append_new _ _
     rw [hb];simp [SV.va,this,Ad.at]
   · refine ⟨rfl,fun i hi f hf => ?_⟩
     simp only [wb] at hi
     have hi0:i=0:=by omega
     have hf0:f=0:=by have:=F.sz;omega
     subst hi0 hf0
     rw [enc_flat (C F.te) _ noAd _ 0 (by have:=F.sz;omega)]
     simp only [uy,F.enc]
     show (w.alloc _).cell? ⟨w.heap.size,0+(0*_+0),none⟩=_
     rw [cell?_alloc]
     simp
   · intro t' y hy
     obtain ⟨rfl,hy⟩:=hy.inv
     rw [List.mem_singleton.1 hy]
     exact .inr ⟨hgood _,fun b hb=>by rw [hbl] at hb;cases hb⟩
 · rename_i k i nn mm hx
   split at hf <;> try contradiction
   rename_i t' l hcl
   split at hf <;> try contradiction
   rename_i htt
   subst htt
   simp only [Option.some.injEq] at hf
   subst hf
   unfold famWT at hK
   split at hK <;> try exact hK.elim
   rename_i hc
   simp only [zn] at hc
   obtain ⟨⟨c1,c2⟩,c3⟩:=hc
   have hcast:castL rfl l=l:=rfl
   simp only [hcast] at hK
   split at hK <;> try exact hK.elim
   rename_i hwr
   obtain ⟨hlen,hK⟩:=hK
   have hlen:i+nn≤l.length:=hlen
   obtain ⟨hnil,hK⟩:=(conj_iff _ _).1 hK
   have hnil:=Ck.orNil_ok hnil
   have hxv:=ev_ok h hm.glob ha _ _ hx
   have hk:k<m.length:=lt_of_alive (show (nth m k).alive=true by simp [Ck.alive,hcl])
   generalize hr:(⟨(nth m k).on,(nth m k).block,(nth m k).base+i*(nth m k).sz,mm,(l.drop i).take nn⟩:Rw (C F.t).α)=r at hK
   have hrl:r.l.length=nn:=by rw [← hr];simp;omega
   have hro0:r.on=(nth m k).on:=by rw [← hr]
   have hrv:a.eval x=r.val:=by
    rw [hxv]
    rcases hnil with hon | ⟨hon,rfl,rfl⟩
    · have e:((l.drop i).take nn).length=nn:=by simp;omega
      have hao:(ads m k).on=true:=hon
      rw [← hr]
      simp only [SV.va,hao,cond_true,Rw.val,hon,e]
      simp [ads,Ck.ad,Ad.at]
    · have hao:(ads m k).on=false:=hon
      rw [← hr]
      simp only [SV.va,hao,cond_false,Rw.val,hon]
   have hb:=hbuild r c3 hrv
   have hrb:r.blks=bif (nth m k).on then [(nth m k).block] else []:=by
    rw [← hr];unfold Rw.blks
    cases (nth m k).on <;> rfl
   have hro:∀ w',((nth m k).on=true→w'.heap[(nth m k).block]? = w.heap[(nth m k).block]?)→Rw.ok (C F.t) w' r:=by
    intro w' hw'
    rcases hnil with hon | ⟨hon,rfl,rfl⟩
    · refine Rw.ok_keep _ w w' r (fun b hb=>by rw [hrb,hon] at hb;rw [List.mem_singleton.1 hb];exact hw' hon) ?_
      have hok:=hm.ok _ (nth_mem hk) hon
      simp only [Ck.ok,hcl] at hok
      obtain ⟨hsz,hok⟩:=hok
      rw [← hr]
      unfold Rw.ok
      simp only [hon]
      intro j hj f hf
      simp only [zd,vr] at hj
      have:=hok (i+j) (by omega) f hf
      have e1:((l.drop i).take nn).getD j (C F.t).dflt=l.getD (i+j) (C F.t).dflt:=by
       simp only [zy]
       rw [yf (by omega),wd]
      rw [e1]
      have e2:(nth m k).ad.at (i+j) f=⟨(nth m k).block,(nth m k).base+i*(nth m k).sz+(j*(C F.t).sz+f),none⟩:=by
       simp only [Ck.ad,Ad.at,hsz,yj];congr 1;omega
      rw [← e2,this]
      rw [enc_flat (C F.t) (ads m) noAd _ f hf]
    · rw [← hr]
      unfold Rw.ok
      simp [hon]
   have hlt:=hm.lt _ (nth_mem hk)
   have hmf:=hm.frz k
   have hadsn:∀ (x:Ck C),ads (Vx.frz m k ++ [x]) m.length=x.ad:=by
    intro x
    have:=ads_append_new (Vx.frz m k) x
    rwa [length_frz] at this
   refine ⟨_,_,_,.inl ?_,hmf.newO' (by rw [length_frz];exact memLt_frz _ _ _ c1) (.cells #[r.val] F.te) (fun w a hw=>by simp [World.frozen?,hw]) (C F.te).sz (.rows F.te [F.put r]) none rfl ?_ ?_,hK w.heap.size,fun j hj => ?_,by simp [length_frz],.inr c2⟩
   · rw [hb];simp [SV.va,hadsn,Ck.ad,Ck.on,Ad.at]
   · refine ⟨rfl,fun j hj f hf => ?_⟩
     simp only [wb] at hj
     have hi0:j=0:=by omega
     have hf0:f=0:=by have:=F.sz;omega
     subst hi0 hf0
     rw [enc_flat (C F.te) _ noAd _ 0 (by have:=F.sz;omega)]
     simp only [uy,F.enc]
     show (w.alloc _).cell? ⟨w.heap.size,0+(0*_+0),none⟩=_
     rw [cell?_alloc]
     simp
   · intro t' y hy
     obtain ⟨rfl,hy⟩:=hy.inv
     rw [List.mem_singleton.1 hy]
     refine .inr ⟨F.good _ _ (hro _ fun hon=>heap_alloc_lt w _ (hlt hon)),fun b hb => ?_⟩
     rw [F.blks,hrb] at hb
     cases hon:(nth m k).on with
     | false=>rw [hon] at hb;cases hb
     | true=>
     rw [hon] at hb
     rw [List.mem_singleton.1 hb]
     have hlt:=hlt hon
     have hlive:(nth m k).live=true:=by simp [Ck.live,Ck.alive,hcl,hon]
     refine ⟨by simp;omega,fun hb0=>.inl (hm.inS _ (nth_mem hk) hwr hon hb0),fun c' hc' hw' hl' => ?_,fun p hp => ?_⟩
     · rcases List.mem_append.1 hc' with hc' | hc'
       · obtain ⟨j,hj,rfl⟩:=mem_nth hc'
         rw [length_frz] at hj
         rw [nth_frz] at hw' hl' ⊢
         split at hw'
         · simp at hw'
         · rename_i hne
           rw [if_neg hne] at hl' ⊢
           exact hm.apart j k hj hk (fun e=>hne ⟨e,hk⟩) hw' hl' hlive
       · rw [List.mem_singleton.1 hc']
         exact fun e=>absurd hlt (by simp only at e;omega)
     · exact ((hm.more.pin p hp).2.2 _ (nth_mem hk) hlive).symm
   · rw [← ads_append _ _ j (by rw [length_frz];exact hj),ads_frz]
end Go.Vx
namespace Go.Vx
open Go
variable {C:Nat→Codec}
@[irreducible] def bytesOf (c:Codec) (l:List c.α):List Int:=l.map fun x=>match c.enc x with
  | [.int _ n]=>n
  | _=>0
@[irreducible] def strOf (ns:List Int):ByteArray:=ns.foldl (fun r n=>r.push (UInt8.ofNat n.toNat)) ByteArray.empty
@[irreducible] def strEq (a b:ByteArray):Bool:=a.toList == b.toList
def strQ (P:Program) (tm:Tm) (m:List (Ck C)) (al:List (Nat×Bool)) (o:Op):Ans:=
 match o with
 | .convert s d x=>match P.underlying s,P.underlying d,ev tm m al x with
   | some (.slice e),some .string,some .nils=>match P.underlying e with
     | some (.int .u8)=>some ([],.val (.string (strOf [])))
     | _=>none
   | some (.slice e),some .string,some (.sl c i n _)=>match P.underlying e,(nth m c).cells with
     | some (.int .u8),.rows t l=>match zj (C t).sz 1 with
       | true=>some ((nth m c).orNil n n ++ [i+n≤l.length∧∀ x,∃ k,(C t).enc x=[.int .u8 k]],.val (.string (strOf (bytesOf (C t) ((l.drop i).take n)))))
       | false=>none
     | _,_=>none
   | _,_,_=>none
 | .binOp .eql t x y _=>match P.underlying t,ev tm m al x,ev tm m al y with
   | some .string,some (.val (.string a)),some (.val (.string b))=>some ([],.bool (.tm (strEq a b)))
   | _,_,_=>none
 | _=>none
theorem strQ_ok {P:Program} {S:Sx} {w0 w:World} {n:Nat} {tm:Tm} {m:List (Ck C)} {a:Act} (h:ActOK (ads m) n tm a) (hm:MemOK S w0 w m) {al:List (Nat×Bool)} (ha:AlOK tm al) {o:Oper} {ps:List Prop} {r:SV}
 (hl:strQ P tm m al o.op=some (ps,r)) (hp:allOf ps):(execOp a.eval o).run P w=.ok (.value (r.va (ads m))) w:=by
 obtain ⟨dst,op,type,pos,after,guard⟩:=o
 simp only at hl
 cases op <;> simp only [strQ] at hl <;> try contradiction
 case convert s d x=>
  split at hl <;> try contradiction
  · rename_i e hs hd hx
    split at hl <;> try contradiction
    rename_i he
    simp only [Option.some.injEq,Prod.mk.injEq] at hl
    obtain ⟨rfl,rfl⟩:=hl
    have ex:=ev_ok h hm.glob ha _ _ hx
    have:=run_convert_bytes_string (P:=P) w s d e none 0 0 hs he hd
    simp only [execOp,ex,SV.va,Sem.run_bind,this,Conv.bytesToString,Sem.run_pure,Result.andThen_ok]
    simp [strOf]
  · rename_i e c i n' m' hs hd hx
    split at hl <;> try contradiction
    rename_i t l he hcl
    split at hl <;> try contradiction
    rename_i hsz
    have hsz:=zp hsz
    simp only [Option.some.injEq,Prod.mk.injEq] at hl
    obtain ⟨rfl,rfl⟩:=hl
    obtain ⟨hp0,⟨hlen,henc⟩,_⟩:=(allOf_append _ _).1 hp
    have ex:=ev_ok h hm.glob ha _ _ hx
    rcases Ck.orNil_ok hp0 with hon | ⟨hon,rfl,_⟩
    · have hao:(ads m c).on=true:=hon
      have hb:=run_convert_bytes_string (P:=P) w s d e (some ((ads m c).at i 0)) n' m' hs he hd
      have hc:=lt_of_alive (show (nth m c).alive=true by simp [Ck.alive,hcl])
      have hok:=hm.ok _ (nth_mem hc) hon
      simp only [Ck.ok,hcl] at hok
      obtain ⟨hcs,hok⟩:=hok
      have hrd:=read_rows hm hcl hon hlen (by omega)
      have hvals:∀ l':List (C t).α,(flatSV (C t) l').map (SV.va (ads m))=(bytesOf (C t) l').map (Value.int .u8):=by
       intro l'
       induction l' with
       | nil=>unfold bytesOf;rfl
       | cons y l' ih=>
         obtain ⟨k,hk⟩:=henc y
         have:bytesOf (C t) (y :: l')=k :: bytesOf (C t) l':=by unfold bytesOf;simp [hk]
         rw [this]
         simp only [flatSV,hk,List.map_append,wx,List.map_nil,ih,SV.va,List.cons_append,List.nil_append]
      rw [hvals] at hrd
      have hlb:(bytesOf (C t) ((l.drop i).take n')).length=n':=by unfold bytesOf;simp;omega
      have hld:(loadCells ((ads m c).at i 0) n').run P w=.ok ((bytesOf (C t) ((l.drop i).take n')).map (Value.int .u8)).toArray w:=by
       have:=run_loadCells_list (P:=P) w ((ads m c).at i 0) ((bytesOf (C t) ((l.drop i).take n')).map (Value.int .u8)) (fun j v hj=>hrd j v hj)
       rw [zm,hlb] at this
       exact this
      have hs2:=run_bytesToString (P:=P) w _ n' m' _ hld
      simp only [execOp,ex,SV.va,hao,cond_true,Sem.run_bind,hb,hs2,Result.andThen_ok]
      simp [strOf]
    · have hao:(ads m c).on=false:=hon
      have hb:=run_convert_bytes_string (P:=P) w s d e none 0 m' hs he hd
      simp only [execOp,ex,SV.va,hao,cond_false,Sem.run_bind,hb,Conv.bytesToString,Sem.run_pure,Result.andThen_ok]
      simp [strOf,bytesOf]
 case binOp bo t x y yt=>
  cases bo <;> simp only [strQ] at hl <;> try contradiction
  split at hl <;> try contradiction
  rename_i ht hx hy
  simp only [Option.some.injEq,Prod.mk.injEq] at hl
  obtain ⟨rfl,rfl⟩:=hl
  have ex:=ev_ok h hm.glob ha _ _ hx
  have ey:=ev_ok h hm.glob ha _ _ hy
  simp [execOp,ex,ey,SV.va,binOp,Op.stringOp,SB.val,eqGuard,strEq]
end Go.Vx
namespace Go.Vx
open Go
variable {C:Nat→Codec}
theorem MemOK.turn {S:Sx} {w0 w w':World} {m:List (Ck C)} (h:MemOK S w0 w m) {B:Nat} (hB:Blk S w0 w m true B) (heap:∀ k,k≠B→w'.heap[k]? = w.heap[k]?) (hsz:w'.heap.size=w.heap.size)
 (hos:w'.os=w.os) (htp:w'.tape=w.tape∧w.drawn≤w'.drawn) (hout:w'.output=w.output) (hfz:∀ a,w'.frozen? a=w.frozen? a) (hb:∀ c∈m,c.live=true→c.block≠B)
 (hd:∀ c∈m,∀ t x,c.cells.Has t x→B∉(C t).blks x∨(C t).good w' x):MemOK S w0 w' m:=by
 have hold:∀ k,k<w0.heap.size→¬ S.set k→k≠B:=by
  rintro k hk hn rfl
  rcases hB.old hk with h1 | ⟨h1,_⟩
  · exact hn h1
  · cases h1
 refine ⟨hos.trans h.os,⟨htp.1.trans h.tape.1,Nat.le_trans h.tape.2 htp.2⟩,hout.trans h.output,by rw [hsz];exact h.size,fun k hk hn => ?_,h.inS,fun c hc ho => ?_,fun c hc hw hl a ha => ?_,h.apart,fun c hc ho=>by rw [hsz];exact h.lt c hc ho,?_⟩
 · rw [heap k (hold k hk hn)];exact h.keep k hk hn
 · cases hl:c.alive with
   | false=>unfold Ck.alive at hl;unfold Ck.ok;split at hl <;> simp_all
   | true=>exact Ck.ok_same (h.ok c hc ho) (heap _ (hb c hc (Ck.live_iff.2 ⟨hl,ho⟩)))
 · rw [hfz];exact h.wrok c hc hw hl a ha
 · refine ⟨fun g v hv => ?_,fun g p hp => ?_,fun p hp => ?_,h.more.nod,fun c hc t x hx => ?_⟩
   · obtain ⟨h1,h2,h3⟩:=h.more.gv g v hv
     exact ⟨(World.cell?_of_block (w:=w) (a:=⟨g,0,none⟩) (heap g (hold g h2 h3))).trans h1,h2,h3⟩
   · obtain ⟨h1,h2,h3⟩:=h.more.gp g p hp
     exact ⟨(heap _ (hold _ h2 h3)).trans h1,h2,h3⟩
   · obtain ⟨h1,h2,h3⟩:=h.more.pin p hp
     exact ⟨(heap _ (hB.pin p hp)).trans h1,h2,h3⟩
   · obtain ⟨g1,g2⟩:=h.more.deep c hc t x hx
     refine ⟨?_,fun b hb' => ?_⟩
     · rcases hd c hc t x hx with h1 | h1
       · exact (C t).good_keep w w' x (fun b hb'=>heap b (fun e=>h1 (e ▸ hb'))) g1
       · exact h1
     · obtain ⟨k1,k2,k3,k4⟩:=g2 b hb'
       exact ⟨by rw [hsz];exact k1,k2,k3,k4⟩
def ckOff (b:Nat) (x:Ck C):List Prop:=
 (match x.cells with
 | .dead=>[]
 | _=>match x.gl with
   | none=>[x.block≠b]
   | some o=>[o=true→x.block≠b])
def ckOffD (b:Nat) (x:Ck C):List Prop:=
 (match x.cells with
 | .rows t l=>match (C t).deep with
   | true=>[∀ y∈l,b∉(C t).blks y]
   | false=>[]
 | .mp _ t l _=>match (C t).deep with
   | true=>[∀ e∈l,b∉(C t).blks e.2.1]
   | false=>[]
 | _=>[])
def freshL (b:Nat):List (Ck C)→List Prop
 | []=>[]
 | x :: r=>ckOff b x ++ (ckOffD b x ++ freshL b r)
def exclL (k c b:Nat):Nat→List (Ck C)→List Prop
 | _,[]=>[]
 | j,x :: r=>(match zj j k with | true=>[] | false=>match x.wr with | true=>[] | false=>ckOff b x) ++ ((match zj j c with | true=>[] | false=>ckOffD b x) ++ exclL k c b (j+1) r)
theorem ckOff_of {b:Nat} {x:Ck C} (h:x.live=true→x.block≠b):allOf (ckOff b x):=by
 unfold ckOff
 cases hc:x.cells <;> simp only [] <;> first | trivial | skip
 all_goals
  have ha:x.alive=true:=by simp [Ck.alive,hc]
  cases hg:x.gl with
  | none=>exact ⟨h (Ck.live_iff.2 ⟨ha,by simp [Ck.on,hg]⟩),trivial⟩
  | some o=>exact ⟨fun ho=>h (Ck.live_iff.2 ⟨ha,by simp [Ck.on,hg,ho]⟩),trivial⟩
theorem ckOff_to {b:Nat} {x:Ck C} (h:allOf (ckOff b x)) (hl:x.live=true):x.block≠b:=by
 obtain ⟨ha,ho⟩:=Ck.live_iff.1 hl
 unfold ckOff at h
 cases hc:x.cells <;> rw [hc] at h <;> simp only [] at h <;> first | (simp [Ck.alive,hc] at ha;done) | skip
 all_goals
  cases hg:x.gl with
  | none=>rw [hg] at h;exact h.1
  | some o=>rw [hg] at h;exact h.1 (by simpa [Ck.on,hg] using ho)
theorem ckOffD_of {b:Nat} {x:Ck C} (h:∀ t y,x.cells.Has t y→b∉(C t).blks y):allOf (ckOffD b x):=by
 unfold ckOffD
 cases hc:x.cells <;> simp only [] <;> first | trivial | skip
 · split
   · exact ⟨fun y hy=>h _ y (.of_rows hc hy),trivial⟩
   · trivial
 · split
   · exact ⟨fun e he=>h _ e.2.1 (.of_mp hc he),trivial⟩
   · trivial
theorem ckOffD_to {b:Nat} {x:Ck C} (h:allOf (ckOffD b x)) {t:Nat} {y:(C t).α} (hy:x.cells.Has t y):b∉(C t).blks y:=by
 cases hd:(C t).deep with
 | false=>rw [((C t).flat_deep hd y).1];exact List.not_mem_nil
 | true=>
   unfold ckOffD at h
   rcases hy with ⟨l,hc,hy⟩ | ⟨tk,l,clk,hc,e,he,rfl⟩
   · rw [hc] at h;simp only [hd] at h;exact h.1 y hy
   · rw [hc] at h;simp only [hd] at h;exact h.1 e he
theorem freshL_of {b:Nat}:∀ {m:List (Ck C)},(∀ x∈m,x.live=true→x.block≠b)→(∀ x∈m,∀ t y,x.cells.Has t y→b∉(C t).blks y)→allOf (freshL b m)
 | [],_,_=>trivial
 | x :: r,h1,h2=>(allOf_append _ _).2 ⟨ckOff_of (h1 x (by simp)),(allOf_append _ _).2 ⟨ckOffD_of (h2 x (by simp)),freshL_of (fun y hy=>h1 y (yv _ hy)) fun y hy=>h2 y (yv _ hy)⟩⟩
theorem exclL_to {k c b:Nat}:∀ {m:List (Ck C)} {j:Nat},allOf (exclL k c b j m)→∀ i,i<m.length→(j+i≠k→(nth m i).wr=false→(nth m i).live=true→(nth m i).block≠b)∧(j+i≠c→∀ t y,(nth m i).cells.Has t y→b∉(C t).blks y)
 | x :: r,j,h,i,hi=>by
   obtain ⟨h1,h2⟩:=(allOf_append _ _).1 h
   obtain ⟨h2,h3⟩:=(allOf_append _ _).1 h2
   cases i with
   | zero=>
     simp only [nth,yx]
     refine ⟨fun hk hw hl => ?_,fun hc t y hy => ?_⟩
     · have:zj j k=false:=by
        cases e:zj j k with
        | false=>rfl
        | true=>exact absurd (zp e) hk
       rw [this,hw] at h1
       exact ckOff_to h1 hl
     · have:zj j c=false:=by
        cases e:zj j c with
        | false=>rfl
        | true=>exact absurd (zp e) hc
       rw [this] at h2
       exact ckOffD_to h2 hy
   | succ i=>
     have:=exclL_to h3 i (by simpa using hi)
     simp only [nth]
     rw [show j+(i+1)=j+1+i by omega]
     exact this
def ownVals (te:Nat):Cells C→Option (List (C te).α)
 | .rows t l=>if h:t=te then some (castL h l) else none
 | .mp _ t l _=>if h:t=te then some (castL h (l.map fun e=>e.2.1)) else none
 | _=>none
theorem ownVals_ok {te:Nat} {cs:Cells C} {V:List (C te).α} (h:ownVals te cs=some V):∀ y,cs.Has te y↔y∈V:=by
 intro y
 cases cs <;> simp only [ownVals] at h <;> try contradiction
 · split at h <;> try contradiction
   rename_i e
   subst e
   simp only [Option.some.injEq] at h
   subst h
   refine ⟨fun hy => ?_,fun hy=>.rows hy⟩
   obtain ⟨_,hy⟩:=hy.inv
   exact hy
 · split at h <;> try contradiction
   rename_i e
   subst e
   simp only [Option.some.injEq] at h
   subst h
   refine ⟨fun hy => ?_,fun hy => ?_⟩
   · rcases hy with ⟨_,he,_⟩ | ⟨tk',l',clk',he,e,he',rfl⟩
     · cases he
     · cases he
       exact List.mem_map.2 ⟨e,he',rfl⟩
   · obtain ⟨e,he,rfl⟩:=List.mem_map.1 hy
     exact .inr ⟨_,_,_,rfl,e,he,rfl⟩
theorem ownVals_ty {te t:Nat} {cs:Cells C} {V:List (C te).α} (h:ownVals te cs=some V) {y:(C t).α} (hy:cs.Has t y):t=te:=by
 cases cs <;> simp only [ownVals] at h <;> try contradiction
 · split at h <;> try contradiction
   rename_i e
   obtain ⟨e',_⟩:=hy.inv
   rw [← e',e]
 · split at h <;> try contradiction
   rename_i e
   rcases hy with ⟨_,he,_⟩ | ⟨tk',l',clk',he,_⟩
   · cases he
   · cases he;exact e
def findOwn (te:Nat):Nat→List (Ck C)→Option (Nat×List (C te).α)
 | _,[]=>none
 | j,x :: r=>match x.wr,x.gl,ownVals te x.cells with
   | true,none,some V=>some (j,V)
   | _,_,_=>findOwn te (j+1) r
theorem findOwn_ok {te:Nat}:∀ {m:List (Ck C)} {j c:Nat} {V:List (C te).α},findOwn te j m=some (c,V)→∃ i,i<m.length∧c=j+i∧(nth m i).wr=true∧ownVals te (nth m i).cells=some V
 | x :: r,j,c,V,h=>by
   simp only [findOwn] at h
   split at h
   · rename_i hw _ hv
     simp only [Option.some.injEq,Prod.mk.injEq] at h
     obtain ⟨rfl,rfl⟩:=h
     exact ⟨0,by simp,rfl,hw,hv⟩
   · obtain ⟨i,h1,h2,h3⟩:=findOwn_ok h
     exact ⟨i+1,by simpa using h1,by omega,h3⟩
def findPut (t:Nat):List (Fam C)→Option { F:Fam C // F.t=t∧F.put≠none }
 | []=>none
 | F :: r=>match hp:F.put with
   | some p=>if h:F.t=t then some ⟨F,h,by rw [hp];simp⟩ else findPut t r
   | none=>findPut t r
structure GrowHit (C:Nat→Codec) where
 F:Fam C
 p:Rw (C F.t).α→(C F.te).α
 hp:F.put=some p
 k:Nat
 n:Nat
 mm:Nat
 l:List (C F.t).α
 c2:Nat
 i2:Nat
 kk:Nat
 q2:Nat
 l2:List (C F.t).α
 c:Nat
 V:List (C F.te).α
def growOf (P:Program) (fams:List (Fam C)) (tm:Tm) (m:List (Ck C)) (al:List (Nat×Bool)) (o:Op):Option (GrowHit C):=
 match fams with
 | []=>none
 | _ :: _=>match o with
   | .call cl=>match cl.callee with
     | .builtin .append=>match cl.argTypes.toList,cl.args.toList with
       | [t,t'],[s,x]=>match zj t t',P.underlying t,ev tm m al s,ev tm m al x with
         | true,some (.slice e),some (.sl k 0 n mm),some (.sl c2 i2 kk q2)=>match findPut e fams,(nth m k).wr,(nth m k).cells,(nth m c2).cells with
           | some ⟨F,hF⟩,false,.rows t1 l1,.rows t2 l2=>match hp:F.put,findOwn F.te 0 m with
             | some p,some (c,V)=>if h:t1=e∧t2=e then some ⟨F,p,hp,k,n,mm,castL (h.1.trans hF.1.symm) l1,c2,i2,kk,q2,castL (h.2.trans hF.1.symm) l2,c,V⟩ else none
             | _,_=>none
           | _,_,_,_=>none
         | _,_,_,_=>none
       | _,_=>none
     | _=>none
   | _=>none
def growT (P:Program) (h:GrowHit C) (tm:Tm) (m:List (Ck C)) (K:SV→List (Ck C)→Tr):Tr:=
 match h with
 | ⟨F,p,_,k,n,mm,l,c2,i2,kk,_,l2,c,V⟩=>
   match P.info? F.t with
   | none=>.no
   | some ti=>
     match memLt m.length m && tmLt m.length tm && !(zj ti.bytes 0) && (zeroOK P (C F.t) F.t && !(C F.t).own) with
     | false=>.no
     | true=>
       .and (.lf (n=l.length∧n≤mm∧i2+kk≤l2.length∧kk=1∧(n+kk)*ti.bytes≤140737488355328))
       (conj ((nth m k).orNil n mm ++ (nth m c2).orNil kk kk)
       (.and (.lf ((nth m k).on=true→n+kk≤mm→(∃ i,i<V.length∧V.getD i (C F.te).dflt=p ⟨true,(nth m k).block,(nth m k).base,mm,l⟩∧∀ j,j<V.length→j≠i→(nth m k).block∉(C F.te).blks (V.getD j (C F.te).dflt))∧
         allOf (exclL k c (nth m k).block 0 m)))
       (.all fun b=>.all fun base=>.all fun cap=>.imp (n+kk≤cap)
         (.imp (((nth m k).on=true∧n+kk≤mm∧b=(nth m k).block∧base=(nth m k).base∧cap=mm)∨allOf (freshL b m))
           (K (.sl m.length 0 (n+kk) cap) (setCk m k .dead ++ [⟨b,base,(C F.t).sz,false,none,.rows F.t (l ++ (l2.drop i2).take kk)⟩,⟨0,0,1,true,some false,.rows F.te [p ⟨true,b,base,cap,l ++ (l2.drop i2).take kk⟩]⟩]))))))
theorem Blk.ofBlocks {S:Sx} {w0 w w':World} {m m':List (Ck C)} {o:Bool} {b:Nat} (h:Blk S w0 w m o b) (hsz:w.heap.size≤w'.heap.size) (hm:∀ c∈m',c.wr=true→c.live=true→c∈m∨c.block≠b):Blk S w0 w' m' o b:=
 ⟨Nat.lt_of_lt_of_le h.lt hsz,h.old,fun c hc hw hl=>(hm c hc hw hl).elim (fun hc=>h.no c hc hw hl) id,h.pin⟩
theorem kill_mem {m:List (Ck C)} {k:Nat} {c:Ck C} (hc:c∈setCk m k .dead) (ha:c.alive=true):∃ j,j<m.length∧j≠k∧c=nth m j:=by
 rcases mem_setCk hc with ⟨j,hj,hjk,rfl⟩ | ⟨_,rfl⟩
 · exact ⟨j,hj,hjk,rfl⟩
 · simp [Ck.alive] at ha
theorem memLt_kill:∀ (r:List (Ck C)) (c k:Nat),memLt k r=true→memLt k (setCk r c .dead)=true
 | [],_,_,h=>h
 | y :: r,c,k,h=>by
   simp only [memLt,zn] at h
   cases c with
   | zero=>simp [setCk0,memLt,h.2,Ck.lt]
   | succ c=>simp [setCkS,memLt,h.1,memLt_kill r c k h.2]
theorem MemOK.know {S:Sx} {w0 w:World} {m:List (Ck C)} (h:MemOK S w0 w m) (hl:memLt m.length m=true) (F:Fam C) {p:Rw (C F.t).α→(C F.te).α} (hp:F.put=some p) {r:Rw (C F.t).α} (hon:r.on=true) (hg:Gw.ok (C F.t) w r) (hB:Blk S w0 w m true r.b):
 MemOK S w0 w (m ++ [⟨r.b,r.base,(C F.t).sz,false,none,.rows F.t r.l⟩,⟨0,0,1,true,some false,.rows F.te [p r]⟩]):=by
 have hG:=F.gro p hp
 have h1:=h.ghostB hl F.flat hg.1 hon hB none
 have e:m ++ [(⟨r.b,r.base,(C F.t).sz,false,none,.rows F.t r.l⟩:Ck C),⟨0,0,1,true,some false,.rows F.te [p r]⟩]=(m ++ [⟨r.b,r.base,(C F.t).sz,false,none,.rows F.t r.l⟩]) ++ [⟨0,0,1,true,some false,.rows F.te [p r]⟩]:=by simp
 rw [e]
 have hl1:memLt (m ++ [(⟨r.b,r.base,(C F.t).sz,false,none,.rows F.t r.l⟩:Ck C)]).length (m ++ [⟨r.b,r.base,(C F.t).sz,false,none,.rows F.t r.l⟩])=true:=memLt_app (memLt_mono (by simp) hl) (by simp [memLt,Ck.lt])
 refine h1.off' hl1 rfl fun t y hy => ?_
 obtain ⟨rfl,hy⟩:=hy.inv
 have hy:y∈[p r]:=hy
 rw [List.mem_singleton.1 hy]
 refine .inr ⟨hG.good w r hg,fun b hb => ?_⟩
 rw [hG.blks] at hb
 have hb:b=r.b:=by simpa [Rw.blks,hon] using hb
 subst hb
 refine (hB.weak (o':=(C F.te).own && true) fun _=>rfl).ofBlocks (zx _) fun c hc hw hlv => ?_
 rcases List.mem_append.1 hc with hc | hc
 · rcases List.mem_append.1 hc with hc | hc
   · exact .inl hc
   · rw [List.mem_singleton.1 hc] at hw;cases hw
 · rw [List.mem_singleton.1 hc] at hlv
   exact absurd (Ck.live_iff.1 hlv).2 (by simp [Ck.on])
theorem MemOK.made {S:Sx} {w0 w:World} {m:List (Ck C)} {t b:Nat} {l sp:List (C t).α} (h:MemOK S w0 w (m ++ [⟨b,0,(C t).sz,true,none,.rows t (l ++ sp)⟩])):
 Gw.ok (C t) w ⟨true,b,0,l.length+sp.length,l⟩∧Blk S w0 w m true b∧allOf (freshL b m):=by
 have hme:(⟨b,0,(C t).sz,true,none,.rows t (l ++ sp)⟩:Ck C)∈m ++ [⟨b,0,(C t).sz,true,none,.rows t (l ++ sp)⟩]:=by simp
 have hlive:(⟨b,0,(C t).sz,true,none,.rows t (l ++ sp)⟩:Ck C).live=true:=rfl
 have hok:=h.ok _ hme rfl
 have hen:nth (m ++ [(⟨b,0,(C t).sz,true,none,.rows t (l ++ sp)⟩:Ck C)]) m.length=⟨b,0,(C t).sz,true,none,.rows t (l ++ sp)⟩:=by rw [nth_append,if_neg (Nat.lt_irrefl _),if_pos rfl]
 have hno:∀ c∈m,c.live=true→c.block≠b:=by
  intro c hc hcl
  obtain ⟨j,hj,rfl⟩:=mem_nth hc
  have:=h.apart m.length j (by simp) (by simp;omega) (by omega)
  rw [hen,nth_append,if_pos hj] at this
  exact (this rfl hlive hcl).symm
 refine ⟨⟨?_,fun _=>⟨by simp,fun j hj => ?_,fun a ha=>h.wrok _ hme rfl hlive a ha⟩⟩,⟨h.lt _ hme rfl,fun hb=>.inl (h.inS _ hme rfl rfl hb),fun c hc _ hcl=>hno c hc hcl,fun q hq e => ?_⟩,freshL_of hno fun c hc t' y hy hb => ?_⟩
 · unfold Rw.ok
   simp only
   intro i hi f hf
   have:=hok.2 i (by simp;omega) f hf
   have e:(l ++ sp).getD i (C t).dflt=l.getD i (C t).dflt:=by
    rw [zy,zf hi,← zy]
   rw [e,enc_flat (C t) _ noAd _ f hf] at this
   simpa [Ck.ad,Ad.at] using this
 · have hj:j<(l.length+sp.length)*(C t).sz:=hj
   have hpos:0<(C t).sz:=by
    rcases Nat.eq_zero_or_pos (C t).sz with e | e
    · rw [e] at hj;simp at hj
    · exact e
   have hd:j / (C t).sz<(l ++ sp).length:=by
    rw [zu]
    exact Nat.div_lt_of_lt_mul (by rw [xn];exact hj)
   have:=hok.2 _ hd (j % (C t).sz) (Nat.mod_lt _ hpos)
   have hdm:=Nat.div_add_mod j (C t).sz
   have e:(⟨b,0,(C t).sz,true,none,.rows t (l ++ sp)⟩:Ck C).ad.at (j / (C t).sz) (j % (C t).sz)=⟨b,0+j,none⟩:=by
    simp only [Ck.ad,Ad.at]
    congr 1
    rw [xn];omega
   rw [e] at this
   rw [this];rfl
 · obtain ⟨_,_,h3⟩:=h.more.pin q hq
   exact h3 _ hme hlive e.symm
 · exact (((h.more.deep c (List.mem_append_left _ hc) t' y hy).2 b hb).no _ hme rfl hlive) rfl
theorem MemOK.growIn {S:Sx} {w0 w:World} {m:List (Ck C)} (hm:MemOK S w0 w m) (hlt:memLt m.length m=true) (F:Fam C) {p:Rw (C F.t).α→(C F.te).α} (hp:F.put=some p) {k c B base n kk mm:Nat} {l xs:List (C F.t).α} {V:List (C F.te).α}
 (hc:c<m.length) (hcw:(nth m c).wr=true) (hV:ownVals F.te (nth m c).cells=some V) (hck:c≠k) (hn:n=l.length) (hkk:xs.length=kk) (hroom:n+kk≤mm)
 {i:Nat} (hi:i<V.length) (hVi:V.getD i (C F.te).dflt=p ⟨true,B,base,mm,l⟩) (hex:∀ j,j<V.length→j≠i→B∉(C F.te).blks (V.getD j (C F.te).dflt)) (hexl:allOf (exclL k c B 0 m)):
 Gw.ok (C F.t) w ⟨true,B,base,mm,l⟩∧MemOK S w0 (w.setCells B (base+n*(C F.t).sz) ((flatSV (C F.t) xs).map (SV.va (ads m)))) (setCk m k .dead ++ [⟨B,base,(C F.t).sz,false,none,.rows F.t (l ++ xs)⟩,⟨0,0,1,true,some false,.rows F.te [p ⟨true,B,base,mm,l ++ xs⟩]⟩]):=by
 have hG:=F.gro p hp
 have hpm:p ⟨true,B,base,mm,l⟩∈V:=by
  rw [← hVi,zy,zt hi];exact xi hi
 obtain ⟨g1,g2⟩:=hm.more.deep _ (nth_mem hc) F.te _ ((ownVals_ok hV _).2 hpm)
 have hgw:=hG.ungood w _ g1
 have hB:Blk S w0 w m true B:=(g2 B (by rw [hG.blks];simp [Rw.blks])).weak (fun _=>by rw [hG.own,hcw];rfl)
 obtain ⟨hrw,hgr⟩:=hgw
 refine ⟨⟨hrw,hgr⟩,?_⟩
 obtain ⟨q1,q2,q3⟩:=hgr rfl
 have q1:l.length≤mm:=q1
 have q2:∀ j,j<mm*(C F.t).sz→(w.cell? ⟨B,base+j,none⟩).isSome=true:=q2
 have hlen:((flatSV (C F.t) xs).map (SV.va (ads m))).length=kk*(C F.t).sz:=by rw [zm,flatSV_len,hkk]
 obtain ⟨e1,e2,e3,e4,e5⟩:=heap_setCells B ((flatSV (C F.t) xs).map (SV.va (ads m))) (base+n*(C F.t).sz) w
 have hroomS:n*(C F.t).sz+kk*(C F.t).sz≤mm*(C F.t).sz:=by rw [← yj];exact xr _ hroom
 have hsome:∀ j,j<((flatSV (C F.t) xs).map (SV.va (ads m))).length→(w.cell? ⟨B,base+n*(C F.t).sz+j,none⟩).isSome=true:=by
  intro j hj
  rw [hlen] at hj
  rw [ss]
  exact q2 _ (by omega)
 generalize hw':w.setCells B (base+n*(C F.t).sz) ((flatSV (C F.t) xs).map (SV.va (ads m)))=w' at e1 e2 e3 e4 e5 ⊢
 have hin:∀ j,j<kk*(C F.t).sz→w'.cell? ⟨B,base+n*(C F.t).sz+j,none⟩=((flatSV (C F.t) xs).map (SV.va (ads m)))[j]? := by
  intro j hj
  rw [← hw',World.cell?_setCells_in B _ (base+n*(C F.t).sz) w hsome j (by rw [hlen];exact hj),zt]
 have hout:∀ j,(j<n*(C F.t).sz∨n*(C F.t).sz+kk*(C F.t).sz≤j)→w'.cell? ⟨B,base+j,none⟩=w.cell? ⟨B,base+j,none⟩:=by
  intro j hj
  rw [← hw']
  refine World.cell?_setCells_out _ _ _ _ _ (fun _ _ => ?_)
  rw [hlen]
  simp only
  omega
 have hfz:∀ a,w'.frozen? a=w.frozen? a:=fun a=>by rw [← hw'];exact World.frozen?_setCells _ _ _ _ _
 have hsomeA:∀ j,j<mm*(C F.t).sz→(w'.cell? ⟨B,base+j,none⟩).isSome=true:=by
  intro j hj
  by_cases h1:j<n*(C F.t).sz∨n*(C F.t).sz+kk*(C F.t).sz≤j
  · rw [hout j h1];exact q2 j hj
  · have:=hin (j - n*(C F.t).sz) (by omega)
    rw [show base+n*(C F.t).sz+(j - n*(C F.t).sz)=base+j by omega] at this
    rw [this,zt (by rw [hlen];omega)];rfl
 have hrow:∀ i',i'<n→∀ f,f<(C F.t).sz→i'*(C F.t).sz+f<n*(C F.t).sz:=by
  intro i' hi' f hf
  have:=xr (C F.t).sz (show i'+1≤n by omega)
  rw [yj] at this;omega
 have hold:∀ i',i'<l.length→∀ f,f<(C F.t).sz→w'.cell? ⟨B,base+(i'*(C F.t).sz+f),none⟩=some ((((C F.t).enc (l.getD i' (C F.t).dflt)).getD f .junk).va noAd):=by
  intro i' hi' f hf
  rw [hout _ (.inl (hrow i' (by omega) f hf))]
  have:=hrw
  unfold Rw.ok at this
  exact this i' hi' f hf
 have hgo:Gw.ok (C F.t) w' ⟨true,B,base,mm,l⟩:=by
  refine ⟨?_,fun _=>⟨q1,hsomeA,fun a ha=>by rw [hfz];exact q3 a ha⟩⟩
  unfold Rw.ok
  exact hold
 have hgn:Gw.ok (C F.t) w' ⟨true,B,base,mm,l ++ xs⟩:=by
  refine ⟨?_,fun _=>⟨by simp only [zu];omega,hsomeA,fun a ha=>by rw [hfz];exact q3 a ha⟩⟩
  unfold Rw.ok
  simp only
  intro i' hi' f hf
  rw [zu] at hi'
  by_cases h1:i'<l.length
  · rw [hold i' h1 f hf]
    have e:(l ++ xs).getD i' (C F.t).dflt=l.getD i' (C F.t).dflt:=by
     rw [zy,zf h1,← zy]
    rw [e]
  · have e:(l ++ xs).getD i' (C F.t).dflt=xs.getD (i' - n) (C F.t).dflt:=by
     rw [zy,yi (by omega),← zy,hn]
    have hlt':=xr (C F.t).sz (show (i' - n)+1≤kk by omega)
    rw [yj] at hlt'
    have h2:=hin ((i' - n)*(C F.t).sz+f) (by omega)
    have h3:i'*(C F.t).sz=n*(C F.t).sz+(i' - n)*(C F.t).sz:=by rw [← yj];congr 1;omega
    rw [show base+n*(C F.t).sz+((i' - n)*(C F.t).sz+f)=base+(i'*(C F.t).sz+f) by omega] at h2
    rw [h2,zh,flatSV_get (C F.t) xs (i' - n) f (by omega) hf,e]
    simp only [yk]
    rw [enc_flat (C F.t) _ noAd _ f hf]
 have hk:=hm.kill k
 have hBk:Blk S w0 w (setCk m k .dead) true B:=hB.ofBlocks (zx _) fun c' hc' _ hl'=>by
  obtain ⟨j,hj,_,rfl⟩:=kill_mem hc' (Ck.live_iff.1 hl').1
  exact .inl (nth_mem hj)
 have ht:MemOK S w0 w' (setCk m k .dead):=by
  refine hk.turn hBk e1 e2 e3 e4 e5 hfz (fun c' hc' hl' => ?_) fun c' hc' t x hx => ?_
  · obtain ⟨j,hj,hjk,rfl⟩:=kill_mem hc' (Ck.live_iff.1 hl').1
    cases hwj:(nth m j).wr with
    | true=>exact hB.no _ (nth_mem hj) hwj hl'
    | false=>exact (exclL_to hexl j hj).1 (by omega) hwj hl'
  · obtain ⟨j,hj,hjk,rfl⟩:=kill_mem hc' hx.alive
    by_cases hjc:j=c
    · subst hjc
      obtain rfl:=ownVals_ty hV hx
      obtain ⟨j',hj',rfl⟩:=List.getElem_of_mem ((ownVals_ok hV x).1 hx)
      by_cases hji:j'=i
      · subst hji
        right
        have:V[j']=p ⟨true,B,base,mm,l⟩:=by rw [← hVi,zy,zt hj'];rfl
        rw [this]
        exact hG.good w' _ hgo
      · left
        have:=hex j' hj' hji
        rwa [zy,zt hj'] at this
    · exact .inl ((exclL_to hexl j hj).2 (by omega) t x hx)
 exact ht.know (by rw [length_setCk];exact memLt_kill _ _ _ hlt) F hp rfl hgn (hBk.ofBlocks (by rw [e2];exact zx _) fun c' hc' _ _=>.inl hc')
theorem growT_ok {P:Program} {S:Sx} {w0 w:World} {N:Nat} {fams:List (Fam C)} {tm:Tm} {m:List (Ck C)} {a:Act} (h:ActOK (ads m) N tm a) (hm:MemOK S w0 w m) {al:List (Nat×Bool)} (ha:AlOK tm al) {o:Oper} {ht:GrowHit C}
 (hf:growOf P fams tm m al o.op=some ht) {K:SV→List (Ck C)→Tr} (hK:(growT P ht tm m K).holds):Left P S w0 tm m w (execOp a.eval o) K:=by
 obtain ⟨dst,op,ty,pos,after,g⟩:=o
 unfold growOf at hf
 simp only at hf
 split at hf <;> try contradiction
 split at hf <;> try contradiction
 rename_i cl
 obtain ⟨callee,args,argTypes⟩:=cl
 simp only at hf
 split at hf <;> try contradiction
 split at hf <;> try contradiction
 rename_i t t' so xo hts hxs
 split at hf <;> try contradiction
 rename_i e k n mm c2 i2 kk q2 hbeq hu hs hx
 split at hf <;> try contradiction
 rename_i F hF t1 l1 t2 l2 _ hwk hcl1 hcl2
 split at hf <;> try contradiction
 rename_i p c V hp hown
 split at hf <;> try contradiction
 rename_i hte
 simp only [Option.some.injEq] at hf
 subst hf
 obtain ⟨hF1,hF2⟩:=hF
 subst hF1
 obtain ⟨h1,h2⟩:=hte
 subst h1
 subst h2
 have htt:=zp hbeq
 subst htt
 have hargs:args = #[so,xo]:=by apply xm;simpa using hxs
 have htys:argTypes = #[t,t]:=by apply xm;simpa using hts
 subst hargs htys
 have es:=ev_ok h hm.glob ha _ _ hs
 have ex:=ev_ok h hm.glob ha _ _ hx
 have hexec:∀ (v:Value) (w':World),(Builtin.append_ #[t,t] ty #[(SV.sl k 0 n mm).va (ads m),(SV.sl c2 i2 kk q2).va (ads m)]).run P w=.ok v w'→
  (execOp a.eval ⟨dst,.call ⟨.builtin .append,#[so,xo],#[t,t]⟩,ty,pos,after,g⟩).run P w=.ok (.value v) w':=by
  intro v w' hr
  simp [execOp,resolve,invoke,builtin,es,ex,hr]
 unfold growT at hK
 simp only at hK
 split at hK <;> try exact hK.elim
 rename_i ti hti
 split at hK <;> try exact hK.elim
 rename_i hc
 have hc':=hc
 simp only [zn,yp] at hc
 obtain ⟨⟨⟨c1,c2'⟩,c3⟩,c4,c5⟩:=hc
 obtain ⟨ti',z,hti',hz,hzz,hsz,hn0,hzs⟩:=zeroOK_ok c4
 rw [hti] at hti';simp only [Option.some.injEq] at hti';subst hti'
 obtain ⟨⟨hn,hnm,hi2,hkk,hbytes⟩,hK⟩:=hK
 obtain ⟨hnil,hK⟩:=(conj_iff _ _).1 hK
 obtain ⟨hnil1,hnil2⟩:=(allOf_append _ _).1 hnil
 obtain ⟨hexc,hK⟩:=hK
 have hn:n=l1.length:=hn
 have hi2:i2+kk≤l2.length:=hi2
 simp only [castL_self] at hexc hK
 have hkm:k<m.length:=lt_of_alive (show (nth m k).alive=true by simp [Ck.alive,hcl1])
 have hc2m:c2<m.length:=lt_of_alive (show (nth m c2).alive=true by simp [Ck.alive,hcl2])
 have hx2:(nth m c2).on=true:=by
  rcases Ck.orNil_ok hnil2 with h1 | ⟨_,h1,_⟩
  · exact h1
  · omega
 have hxl:((l2.drop i2).take kk).length=kk:=by simp;omega
 have hadsk:∀ (o:List (Ck C)) (j:Nat),j<m.length→ads m j=ads (setCk m k .dead ++ o) j:=fun o j hj=>by
  show ads m j=(nth (setCk m k .dead ++ o) j).ad
  rw [nth_app,if_pos (by rw [length_setCk];exact hj)]
  exact (congrFun (ads_setCk m k .dead) j).symm
 have hadsn:∀ (x y:Ck C),ads (setCk m k .dead ++ [x,y]) m.length=x.ad:=fun x y=>by
  show (nth (setCk m k .dead ++ [x,y]) m.length).ad=x.ad
  rw [nth_app,if_neg (by rw [length_setCk];omega),length_setCk,Nat.sub_self];rfl
 by_cases hcase:(nth m k).on=true∧n+kk≤mm
 · -- in its own place
   obtain ⟨hon,hroom⟩:=hcase
   obtain ⟨⟨i,hi,hVi,hex⟩,hexl⟩:=hexc hon hroom
   obtain ⟨ci,hci,hce,hcw,hV⟩:=findOwn_ok hown
   rw [wo] at hce
   subst hce
   have hck:c≠k:=by
    rintro rfl
    rw [hwk] at hcw;cases hcw
   obtain ⟨hgw,hmem⟩:=hm.growIn c1 F hp hci hcw hV hck hn hxl hroom hi hVi hex hexl
   have hnews:=read_rows hm hcl2 hx2 hi2 hn0
   have hnl:((flatSV (C F.t) ((l2.drop i2).take kk)).map (SV.va (ads m))).length=kk*ti.size:=by rw [zm,flatSV_len,hsz,hxl]
   obtain ⟨_,hgr⟩:=hgw
   obtain ⟨_,q2',q3⟩:=hgr rfl
   have hroomS:n*(C F.t).sz+kk*(C F.t).sz≤mm*(C F.t).sz:=by rw [← yj];exact xr _ hroom
   have hr:=run_append_in (P:=P) (w:=w) t ty F.t ti hu hti (nth m k).block (nth m k).base n mm ((ads m c2).at i2 0) kk q2 _ hnl hnews (flat_one _ _ _) hroom
    (fun j hj=>by
      rw [hnl,hsz] at hj
      rw [hsz,ss]
      exact q2' _ (by show _<mm*_;omega))
    (fun j _=>q3 _ rfl)
   rw [hsz] at hr
   have hao:(ads m k).on=true:=hon
   have hax:(ads m c2).on=true:=hx2
   refine ⟨_,_,.sl m.length 0 (n+kk) mm,.inl ?_,hmem,hK (nth m k).block (nth m k).base mm hroom (.inl ⟨hon,hroom,rfl,rfl,rfl⟩),hadsk _,by simp [length_setCk],.inr c2'⟩
   rw [hexec _ _ (by
    simp only [SV.va,hao,hax,cond_true]
    have e:(ads m k).at 0 0=⟨(nth m k).block,(nth m k).base,none⟩:=by simp [ads,Ck.ad,Ad.at]
    rw [e];exact hr)]
   simp only [SV.va,hadsn,Ck.ad,Ck.on,cond_true,Ad.at,sc,yx]
 · -- elsewhere
   have hmm:mm<n+kk:=by
    rcases Ck.orNil_ok hnil1 with h1 | ⟨_,_,h1⟩
    · rcases Nat.lt_or_ge mm (n+kk) with h2 | h2
      · exact h2
      · exact absurd ⟨h1,h2⟩ hcase
    · omega
   have hmn:mm=n:=by omega
   have heev:(eev P tm m al (.call ⟨.builtin .append,#[so,xo],#[t,t]⟩) fun r m1=>.lf (∃ b sp,r=.sl m.length 0 (n+kk) (n+kk+List.length sp)∧m1=m ++ [⟨b,0,(C F.t).sz,true,none,.rows F.t ((l1.drop 0).take n ++ (l2.drop i2).take kk ++ sp)⟩])).holds:=by
    simp only [eev,hbeq,hu,hs,hx]
    unfold appendSV
    simp only [hti,hc',hcl1,hcl2,hwk,dif_pos,castL_self]
    refine ⟨⟨hnm,by omega,hi2,hbytes⟩,(conj_iff _ _).2 ⟨(allOf_append _ _).2 ⟨hnil1,hnil2⟩,hmm,fun b sp=>⟨b,sp,rfl,rfl⟩⟩⟩
   obtain ⟨w',m1,r,hrun,hmem,⟨b,sp,hr,hm1⟩,_,_,_⟩:=(eev_append h hm ha (dst:=dst) (ty:=ty) (pos:=pos) (after:=after) (g:=g) heev).ex
   subst hr
   subst hm1
   have hll:(l1.drop 0).take n=l1:=by rw [List.drop_zero,hn,List.take_length]
   rw [hll] at hmem hrun
   obtain ⟨hgw,hB,hfr⟩:=MemOK.made hmem
   have hlen:(l1 ++ (l2.drop i2).take kk).length+sp.length=n+kk+sp.length:=by rw [zu,hxl,hn]
   rw [hlen] at hgw
   have hm0:=MemOK.dropO c1 hmem
   have hmk:=hm0.kill k
   have hk:=hmk.know (by rw [length_setCk];exact memLt_kill _ _ _ c1) F hp rfl hgw (hB.ofBlocks (zx _) fun c' hc' _ hl'=>by
    obtain ⟨j,hj,_,rfl⟩:=kill_mem hc' (Ck.live_iff.1 hl').1
    exact .inl (nth_mem hj))
   refine ⟨w',_,.sl m.length 0 (n+kk) (n+kk+sp.length),.inl ?_,hk,hK b 0 (n+kk+sp.length) (by omega) (.inr hfr),hadsk _,by simp [length_setCk],.inr c2'⟩
   rcases hrun with hrun | ⟨_,hrun⟩
   · rw [hrun]
     simp only [SV.va,hadsn,ads_append_new,Ck.ad,Ck.on,cond_true,Ad.at]
   · cases hrun
def knowOf (F:Fam C) (p:Rw (C F.t).α→(C F.te).α) (m:List (Ck C)) (v:SV):Option (List Prop×Rw (C F.t).α):=
 match v with
 | .sl kg 0 n mm=>match (nth m kg).cells,(nth m (kg+1)).cells,(nth m (kg+1)).wr with
   | .rows t l,.rows te ys,true=>if h:t=F.t∧te=F.te then some ((nth m kg).there ++ [castL h.2 ys=[p ⟨true,(nth m kg).block,(nth m kg).base,mm,castL h.1 l⟩],n=(castL h.1 l).length],⟨true,(nth m kg).block,(nth m kg).base,mm,castL h.1 l⟩) else none
   | _,_,_=>none
 | .nils=>some ([],Rw.nil)
 | _=>none
theorem knowOf_ok {F:Fam C} {p:Rw (C F.t).α→(C F.te).α} (hp:F.put=some p) {m:List (Ck C)} {v:SV} {ps:List Prop} {r:Rw (C F.t).α} (h:knowOf F p m v=some (ps,r)) (hps:allOf ps):v.va (ads m)=r.val∧OneOf m true F.te (p r):=by
 have hG:=F.gro p hp
 unfold knowOf at h
 split at h <;> try contradiction
 · rename_i kg n mm
   split at h <;> try contradiction
   rename_i t l te ys hc1 hc2 hw
   split at h <;> try contradiction
   rename_i hte
   simp only [Option.some.injEq,Prod.mk.injEq] at h
   obtain ⟨rfl,rfl⟩:=h
   obtain ⟨rfl,rfl⟩:=hte
   simp only [castL_self] at hps ⊢
   obtain ⟨h1,h2,h3,_⟩:=(allOf_append _ _).1 hps
   have hon:=Ck.there_ok h1
   have hao:(ads m kg).on=true:=hon
   refine ⟨?_,.inl ⟨_,nth_mem (lt_of_alive (show (nth m (kg+1)).alive=true by simp [Ck.alive,hc2])),.of_rows hc2 (by rw [h2];simp),fun _ _=>hw⟩⟩
   simp only [SV.va,hao,cond_true,Rw.val,h3]
   simp [ads,Ck.ad,Ad.at]
 · simp only [Option.some.injEq,Prod.mk.injEq] at h
   obtain ⟨rfl,rfl⟩:=h
   refine ⟨rfl,.inr ⟨by rw [hG.blks];rfl,fun w=>hG.good w _ ⟨⟨rfl,rfl⟩,fun h=>by cases h⟩⟩⟩
structure PutHit (C:Nat→Codec) where
 F:Fam C
 p:Rw (C F.t).α→(C F.te).α
 hp:F.put=some p
def findPutE (te:Nat):List (Fam C)→Option { H:PutHit C // H.F.te=te }
 | []=>none
 | F :: r=>match hp:F.put with
   | some p=>if h:F.te=te then some ⟨⟨F,p,hp⟩,h⟩ else findPutE te r
   | none=>findPutE te r
def stoOf (P:Program) (fams:List (Fam C)) (tm:Tm) (m:List (Ck C)) (al:List (Nat×Bool)) (o:Op):Option (List Prop×List (Ck C)):=
 match fams with
 | []=>none
 | _ :: _=>match o with
   | .store t a v=>match ev tm m al a,ev tm m al v with
     | some (.ptr c i 0),some x=>match (nth m c).cells,(nth m c).wr with
       | .rows te l,true=>match findPutE te fams,aggTy P t,zj (P.cellsOf t) 1 with
         | some ⟨H,h⟩,some false,true=>match knowOf H.F H.p m x with
           | some (ps,r)=>some ((nth m c).there ++ ((i<l.length) :: ps),setCk m c (.rows te (l.set i (h ▸ H.p r))))
           | none=>none
         | _,_,_=>none
       | _,_=>none
     | _,_=>none
   | .mapUpdate t x k v=>match P.underlying t,ev tm m al x,ev tm m al k,ev tm m al v with
     | some (.map kt vt),some (.mp c),some kv,some vv=>match (nth m c).sure with
       | .mp tk tv l clk=>match (nth m c).wr && (zj kt tk && zj vt tv),decV (C tk) kv,findPutE tv fams with
         | true,some q,some ⟨H,h⟩=>match knowOf H.F H.p m vv with
           | some (ps,r)=>some (KeyOK P tk (C tk) :: ps,setCk m c (.mp tk tv (mput (C tk) (C tv) l q (h ▸ H.p r) clk) (mclk (C tk) (C tv) l q clk)))
           | none=>none
         | _,_,_=>none
       | _=>none
     | _,_,_,_=>none
   | _=>none
theorem packV_put {F:Fam C} {p:Rw (C F.t).α→(C F.te).α} (hp:F.put=some p) (r:Rw (C F.t).α):packV (C F.te) (p r)=r.val:=by
 have hG:=F.gro p hp
 unfold packV
 rw [hG.agg,hG.enc];rfl
theorem stoOf_ok {P:Program} {S:Sx} {w0 w:World} {N:Nat} {fams:List (Fam C)} {tm:Tm} {m:List (Ck C)} {a:Act} (h:ActOK (ads m) N tm a) (hm:MemOK S w0 w m) {al:List (Nat×Bool)} (ha:AlOK tm al) {o:Oper} {ps:List Prop} {m':List (Ck C)}
 (hf:stoOf P fams tm m al o.op=some (ps,m')) {K:SV→List (Ck C)→Tr} (hKK:(conj ps (K .undef m')).holds):Left P S w0 tm m w (execOp a.eval o) K:=by
 obtain ⟨hps,hK⟩:=(conj_iff _ _).1 hKK
 clear hKK
 obtain ⟨dst,op,ty,pos,after,g⟩:=o
 unfold stoOf at hf
 simp only at hf
 split at hf <;> try contradiction
 split at hf <;> try contradiction
 · rename_i t x y
   split at hf <;> try contradiction
   rename_i c i v hx hy
   split at hf <;> try contradiction
   rename_i te l hcl hwr
   split at hf <;> try contradiction
   rename_i H hte _ hag hsz
   split at hf <;> try contradiction
   rename_i qs r hk
   simp only [Option.some.injEq,Prod.mk.injEq] at hf
   obtain ⟨rfl,rfl⟩:=hf
   obtain ⟨F,p,hp⟩:=H
   simp only at hte hk
   subst hte
   simp only at hps hK
   obtain ⟨hth,hi,hqs⟩:=(allOf_append _ _).1 hps
   have hon:=Ck.there_ok hth
   have hi:i<l.length:=hi
   obtain ⟨hv,hone⟩:=knowOf_ok hp hk hqs
   have hG:=F.gro p hp
   have e1:=ev_ok h hm.glob ha _ _ hx
   have e2:=ev_ok h hm.glob ha _ _ hy
   have hc:=lt_of_alive (show (nth m c).alive=true by simp [Ck.alive,hcl])
   have hlive:(nth m c).live=true:=by simp [Ck.live,Ck.alive,hcl,hon]
   have hok:=hm.ok _ (nth_mem hc) hon
   simp only [Ck.ok,hcl,hG.sz] at hok
   obtain ⟨hcs,hok⟩:=hok
   have hv1:r.val.cells = #[r.val]:=by unfold Rw.val;split <;> rfl
   have hv2:r.val.oneCell'=true:=by unfold Rw.val;split <;> rfl
   have hn1:P.cellsOf t=1:=zp hsz
   obtain ⟨g1,g2,g3,g4,g5⟩:=heap_setCells (nth m c).block [r.val] ((nth m c).base+(i*(nth m c).sz+0)) w
   have hsome:∀ j,j < [r.val].length→(w.cell? ⟨(nth m c).block,(nth m c).base+(i*(nth m c).sz+0)+j,none⟩).isSome=true:=by
    intro j hj
    obtain rfl:j=0:=by simp at hj;omega
    have:=hok i hi 0 (by omega)
    simp only [Ck.ad,Ad.at] at this
    rw [yx ((nth m c).base+_),this];rfl
   have hst:=run_storeCells_cells (P:=P) (nth m c).block ((nth m c).base+(i*(nth m c).sz+0)) [r.val] 0 w (fun j hj=>by simpa using hsome j hj) (fun j _=>hm.wrok _ (nth_mem hc) hwr hlive _ rfl) (by simp [hv2])
   have hrun:(storeVar t ((ads m c).at i 0) r.val).run P w=.ok () (w.setCells (nth m c).block ((nth m c).base+(i*(nth m c).sz+0)) [r.val]):=by
    unfold storeVar
    simp only [Sem.run_bind,run_sizeOf0 (show P.cellsOf t≠0 by omega),Result.andThen_ok,ne_eq,hv1]
    simpa [ads,Ck.ad,Ad.at,hn1] using hst
   refine ⟨_,_,.undef,.inr ⟨?_,rfl⟩,hm.upd hwr hlive g3 g4 g5 g2 g1 (fun a=>World.frozen?_setCells _ _ _ _ _) (.rows F.te (l.set i (p r))) (by simp [Ck.live,Ck.alive,Ck.on] at hon ⊢;exact hon) ?_ (CsIn.rows (RowsOf.put (RowsOf.of (nth_mem hc) hcl (fun _ _=>hwr) fun _ h=>h) hone i)),hK,fun k _=>by rw [ads_setCk],by rw [length_setCk];exact zx _,.inl ⟨length_setCk ..,ads_setCk ..⟩⟩
   · simp [execOp,Instr.storeAt,e1,e2,SV.va,Instr.sureAddr,hv,hrun]
   · refine ⟨by rw [hG.sz];exact hcs,fun k hk f hf => ?_⟩
     have hf0:f=0:=by
      rw [hG.sz] at hf;omega
     subst hf0
     rw [List.length_set] at hk
     have e0:({ nth m c with cells:=.rows F.te (l.set i (p r)) }:Ck C).ad.at k 0=⟨(nth m c).block,(nth m c).base+(k*(nth m c).sz+0),none⟩:=rfl
     rw [e0]
     by_cases hki:k=i
     · subst hki
       have h1:=World.cell?_setCells_in (nth m c).block [r.val] ((nth m c).base+(k*(nth m c).sz+0)) w hsome 0 (by simp)
       rw [yx ((nth m c).base+_)] at h1
       rw [h1]
       have e3:(l.set k (p r)).getD k (C F.te).dflt=p r:=by rw [zy,ux hk];rfl
       rw [e3,hG.enc];rfl
     · rw [World.cell?_setCells_out]
       · have h1:=hok k hk 0 (by omega)
         have e3:(l.set i (p r)).getD k (C F.te).dflt=l.getD k (C F.te).dflt:=by
          rw [zy,List.getElem?_set_ne (Ne.symm hki),← zy]
         rw [e3];exact h1
       · intro _ _
         simp only [wb,hcs]
         omega
 · rename_i t x k v
   split at hf <;> try contradiction
   rename_i kt vt c kv vv ht hx hk hv
   split at hf <;> try contradiction
   rename_i tk tv l clk hc
   split at hf <;> try contradiction
   rename_i q H hte hb hq _
   split at hf <;> try contradiction
   rename_i qs r hkn
   simp only [Option.some.injEq,Prod.mk.injEq] at hf
   obtain ⟨rfl,rfl⟩:=hf
   obtain ⟨F,p,hp⟩:=H
   simp only at hte hkn
   subst hte
   simp only [zn] at hb
   have e1:=zp hb.2.1
   have e2:=zp hb.2.2
   subst e1;subst e2
   simp only at hps hK
   obtain ⟨hKey,hqs⟩:=hps
   obtain ⟨hva,hone⟩:=knowOf_ok hp hkn hqs
   have ex:=ev_ok h hm.glob ha _ _ hx
   have ek:=ev_ok h hm.glob ha _ _ hk
   have ev':=ev_ok h hm.glob ha _ _ hv
   rw [← decV_ok hq (ads m)] at ek
   rw [hva,← packV_put hp] at ev'
   obtain ⟨hcc,hon⟩:=Ck.sure_ok hc (by simp)
   have hlv:(nth m c).live=true:=by simp [Ck.live,Ck.alive,hcc,hon]
   have hbl:=mp_heap hm hc
   have hr:=run_mapPut ht hKey hbl q (p r)
   have hlt:=heap_size_of hbl
   refine ⟨_,_,.undef,.inr ⟨?_,rfl⟩,hm.putO hb.1 hlv hbl fz_map (o':=.map ((mput (C kt) (C F.te) l q (p r) clk).map (entryOf (C kt) (C F.te))).toArray (mclk (C kt) (C F.te) l q clk)) fz_map (.mp kt F.te (mput (C kt) (C F.te) l q (p r) clk) (mclk (C kt) (C F.te) l q clk)) (by simp [Ck.live,Ck.alive,Ck.on] at hon ⊢;exact hon) (by simp only [Ck.ok];exact World.putObj_heap_same hlt) (CsIn.mp fun e he=>by
    rcases mput_val he with he | he
    · rw [he];exact hone
    · exact OneOf.ent hcc hb.1 he),hK,fun k _=>by rw [ads_setCk],by rw [length_setCk];exact zx _,.inl ⟨length_setCk ..,ads_setCk ..⟩⟩
   simp [execOp,ex,ek,ev',SV.va,hr]
   rfl
end Go.Vx
namespace Go.Vx
open Go
variable {C:Nat→Codec}
structure Tail (C:Nat→Codec) where
 ty:Nat
 hd:Nat
 F:FamW C
def tset (f:Nat) (rv:Value):Nat→List SV→List SV
 | _,[]=>[]
 | k,.val o :: r=>.val (bif zj k f then rv else o) :: tset f rv (k+1) r
 | k,x :: r=>x :: tset f rv (k+1) r
def allVal:List SV→Bool
 | []=>true
 | .val _ :: r=>allVal r
 | _=>false
theorem tset_len (f:Nat) (rv:Value):∀ (vs:List SV) (k:Nat),(tset f rv k vs).length=vs.length
 | [],_=>rfl
 | x :: r,k=>by cases x <;> simp [tset,tset_len f rv r]
theorem tset_getD (f:Nat) (rv:Value):∀ (vs:List SV) (k j:Nat),(k+j=f→∃ o,vs.getD j .junk=.val o)→(tset f rv k vs).getD j .junk=if k+j=f then .val rv else vs.getD j .junk
 | [],k,j,h=>by
   by_cases e:k+j=f
   · obtain ⟨o,ho⟩:=h e
     simp at ho
   · rw [if_neg e];rfl
 | x :: r,k,0,h=>by
   by_cases e:k+0=f
   · obtain ⟨o,ho⟩:=h e
     simp only [uy] at ho
     subst ho
     have:zj k f=true:=by rw [← e];simp
     simp only [tset,this,cond_true,uy]
     rw [if_pos e]
   · have:zj k f=false:=by
      cases hb:zj k f with
      | false=>rfl
      | true=>exact absurd (zp hb) e
     cases x <;> simp only [tset,this,cond_false,uy] <;> rw [if_neg e]
 | x :: r,k,j+1,h=>by
   have ih:=tset_getD f rv r (k+1) j (fun e=>by simpa using h (by omega))
   have e:k+1+j=k+(j+1):=by omega
   rw [e] at ih
   cases x <;> simp only [tset,List.getD_cons_succ] <;> exact ih
theorem allVal_getD:∀ (vs:List SV) (h j:Nat),allVal (vs.drop h)=true→h≤j→j<vs.length→∃ o,vs.getD j .junk=.val o
 | [],_,_,_,_,h=>absurd h (wy _)
 | x :: r,0,0,ha,_,_=>by
   cases x <;> simp [allVal] at ha
   exact ⟨_,rfl⟩
 | x :: r,0,j+1,ha,_,hl=>by
   have:allVal r=true:=by cases x <;> simp [allVal] at ha;exact ha
   simpa using allVal_getD r 0 j this (Nat.zero_le _) (by simpa using hl)
 | x :: r,h+1,0,_,hj,_=>absurd hj (Nat.not_succ_le_zero _)
 | x :: r,h+1,j+1,ha,hj,hl=>by
   simpa using allVal_getD r h j (by simpa using ha) (by omega) (by simpa using hl)
theorem MemOK.ghs {S:Sx} {w0 w:World} {m:List (Ck C)} (h:MemOK S w0 w m) {g:Nat} (hx:(nth m g).on=false) (cs:Cells C)
 (hd:∀ t y,cs.Has t y→(∃ c0∈m,c0.cells.Has t y∧((C t).own=true→(nth m g).wr=true→c0.wr=true))∨((C t).good w y∧∀ b∈(C t).blks y,Blk S w0 w (setCk m g cs) ((C t).own && (nth m g).wr) b)):MemOK S w0 w (setCk m g cs):=by
 have no:∀ {p:Prop},(nth m g).on=true→p:=fun h=>by rw [hx] at h;cases h
 have on':({ nth m g with cells:=cs }:Ck C).on=(nth m g).on:=rfl
 refine ⟨h.os,h.tape,h.output,h.size,h.keep,?_,?_,?_,?_,?_,?_⟩
 · intro y hy hw ho hb
   rcases mem_setCk hy with ⟨k,hk,_,rfl⟩ | ⟨_,rfl⟩
   · exact h.inS _ (nth_mem hk) hw ho hb
   · exact no ho
 · intro y hy ho
   rw [ads_setCk]
   rcases mem_setCk hy with ⟨k,hk,_,rfl⟩ | ⟨_,rfl⟩
   · exact h.ok _ (nth_mem hk) ho
   · exact no ho
 · intro y hy hw hlv a ha
   rcases mem_setCk hy with ⟨k,hk,_,rfl⟩ | ⟨_,rfl⟩
   · exact h.wrok _ (nth_mem hk) hw hlv a ha
   · exact no (Ck.live_iff.1 hlv).2
 · intro i j hi hj hij hiw hil hjl
   rw [length_setCk] at hi hj
   rw [nth_setCk] at hiw hil ⊢
   rw [nth_setCk] at hjl ⊢
   by_cases h1:i=g∧g<m.length
   · rw [if_pos h1] at hil
     exact no (Ck.live_iff.1 hil).2
   · rw [if_neg h1] at hiw hil ⊢
     by_cases h2:j=g∧g<m.length
     · rw [if_pos h2] at hjl
       exact no (Ck.live_iff.1 hjl).2
     · rw [if_neg h2] at hjl ⊢
       exact h.apart i j hi hj hij hiw hil hjl
 · intro y hy ho
   rcases mem_setCk hy with ⟨k,hk,_,rfl⟩ | ⟨_,rfl⟩
   · exact h.lt _ (nth_mem hk) ho
   · exact no ho
 · refine h.more.mono' h.inS (fun _ _ _=>rfl) (fun y hy hyl => ?_) h.size (zx _) (fun y hy t z hz => ?_)
   · rcases mem_setCk hy with ⟨k,hk,_,rfl⟩ | ⟨_,rfl⟩
     · exact .inl ⟨_,nth_mem hk,hyl,rfl,id⟩
     · exact no (Ck.live_iff.1 hyl).2
   · rcases mem_setCk hy with ⟨k,hk,_,rfl⟩ | ⟨_,rfl⟩
     · exact .inl ⟨_,nth_mem hk,hz,fun _=>id⟩
     · exact hd t z hz
def isSl:Option SV→Bool
 | some (.sl _ _ _ _)=>true
 | _=>false
def tailOf (P:Program) (T:Option (Tail C)) (tm:Tm) (m:List (Ck C)) (al:List (Nat×Bool)) (o:Op):Option (List Prop×List (Ck C)):=
 match T with
 | none=>none
 | some T=>match o with
   | .store t a v=>match isSl (ev tm m al v) with
    | false=>none
    | true=>match ev tm m al a,ev tm m al v with
     | some (.ptr c 0 f),some (.sl k 0 n mm)=>match Nat.blt f T.hd,(nth m c).cells,(nth m c).wr,(nth m (c+1)).cells,(nth m (c+1)).gl with
       | false,.one vs,true,.rows te ys,some false=>match (nth m k).cells,(nth m k).wr,allVal (vs.drop T.hd),zj k c,aggTy P t,zj (P.cellsOf t) 1 with
         | .rows t' l,true,true,false,some false,true=>if h:te=T.F.te∧t'=T.F.t then
            some ((nth m c).there ++ ((nth m k).there ++ [f<vs.length,n=l.length]),
             setCk (setCk (frz m k) c (.one (tset f (.slice (some ((ads m k).at 0 0)) n mm) 0 vs))) (c+1) (.rows te (ys ++ [h.1.symm ▸ T.F.put ⟨true,(nth m k).block,(nth m k).base,mm,castL h.2 l⟩])))
           else none
         | _,_,_,_,_,_=>none
       | _,_,_,_,_=>none
     | _,_=>none
   | _=>none
theorem tailOf_ok {P:Program} {S:Sx} {w0 w:World} {N:Nat} {T:Option (Tail C)} {tm:Tm} {m:List (Ck C)} {a:Act} (h:ActOK (ads m) N tm a) (hm:MemOK S w0 w m) {al:List (Nat×Bool)} (ha:AlOK tm al) {o:Oper} {ps:List Prop} {m':List (Ck C)}
 (hf:tailOf P T tm m al o.op=some (ps,m')) {K:SV→List (Ck C)→Tr} (hKK:(conj ps (K .undef m')).holds):Left P S w0 tm m w (execOp a.eval o) K:=by
 obtain ⟨hps,hK⟩:=(conj_iff _ _).1 hKK
 clear hKK
 obtain ⟨dst,op,ty,pos,after,g⟩:=o
 unfold tailOf at hf
 simp only at hf
 split at hf <;> try contradiction
 rename_i T
 split at hf <;> try contradiction
 rename_i t x y
 split at hf <;> try contradiction
 split at hf <;> try contradiction
 rename_i c f k n mm hx hy
 split at hf <;> try contradiction
 rename_i vs te ys hbl hcl hwr hcg hgl
 split at hf <;> try contradiction
 rename_i t' l hck hwk hav hkc hag hsz
 split at hf <;> try contradiction
 rename_i hte
 simp only [Option.some.injEq,Prod.mk.injEq] at hf
 obtain ⟨rfl,rfl⟩:=hf
 obtain ⟨sty,hd,F⟩:=T
 simp only at hte hbl hav
 obtain ⟨rfl,rfl⟩:=hte
 simp only [castL_self] at hps hK
 obtain ⟨hth,hps2⟩:=(allOf_append _ _).1 hps
 obtain ⟨hthk,hfl,hnl,_⟩:=(allOf_append _ _).1 hps2
 have hon:=Ck.there_ok hth
 have honk:=Ck.there_ok hthk
 have hfl:f<vs.length:=hfl
 have hnl:n=l.length:=hnl
 have hkc:k≠c:=fun e=>by rw [e] at hkc;simp at hkc
 have hhd:hd≤f:=by
  refine Nat.le_of_not_lt fun hlt => ?_
  have:Nat.blt f hd=true:=by simp [Nat.blt_eq];exact hlt
  rw [this] at hbl;cases hbl
 have e1:=ev_ok h hm.glob ha _ _ hx
 have e2:=ev_ok h hm.glob ha _ _ hy
 have hc:=lt_of_alive (show (nth m c).alive=true by simp [Ck.alive,hcl])
 have hk:=lt_of_alive (show (nth m k).alive=true by simp [Ck.alive,hck])
 have hcg':=lt_of_alive (show (nth m (c+1)).alive=true by simp [Ck.alive,hcg])
 have hgon:(nth m (c+1)).on=false:=by unfold Ck.on;rw [hgl]
 have hlive:(nth m c).live=true:=by simp [Ck.live,Ck.alive,hcl,hon]
 have hlivek:(nth m k).live=true:=by simp [Ck.live,Ck.alive,hck,honk]
 have hok:=hm.ok _ (nth_mem hc) hon
 simp only [Ck.ok,hcl] at hok
 obtain ⟨hcs,hok⟩:=hok
 have hao:(ads m k).on=true:=honk
 generalize hrv:(Value.slice (some ((ads m k).at 0 0)) n mm)=rv at hK
 have hv:(SV.sl k 0 n mm).va (ads m)=rv:=by rw [← hrv];simp only [SV.va,hao,cond_true]
 have hv1:rv.cells = #[rv]:=by rw [← hrv];rfl
 have hv2:rv.oneCell'=true:=by rw [← hrv];rfl
 have hn1:P.cellsOf t=1:=zp hsz
 have hbase:(nth m c).base+(0*(nth m c).sz+f)=(nth m c).base+f:=by omega
 obtain ⟨g1,g2,g3,g4,g5⟩:=heap_setCells (nth m c).block [rv] ((nth m c).base+f) w
 have hcell:∀ j,j<vs.length→∃ v,w.cell? ⟨(nth m c).block,(nth m c).base+j,none⟩=some v:=fun j hj=>by
  have h0:=hok j hj
  simp only [Ck.ad,Ad.at,sc,wo] at h0
  generalize vs.getD j .junk=v at h0
  cases v <;> simp only [cellIs] at h0 <;> first | exact ⟨_,h0⟩ | exact h0
 have hsome:∀ j,j < [rv].length→(w.cell? ⟨(nth m c).block,(nth m c).base+f+j,none⟩).isSome=true:=by
  intro j hj
  obtain rfl:j=0:=by simp at hj;omega
  obtain ⟨v,hv⟩:=hcell f hfl
  rw [yx,hv];rfl
 have hst:=run_storeCells_cells (P:=P) (nth m c).block ((nth m c).base+f) [rv] 0 w (fun j hj=>by simpa using hsome j hj) (fun j _=>hm.wrok _ (nth_mem hc) hwr hlive _ rfl) (by simp [hv2])
 have hrun:(storeVar t ((ads m c).at 0 f) rv).run P w=.ok () (w.setCells (nth m c).block ((nth m c).base+f) [rv]):=by
  unfold storeVar
  simp only [Sem.run_bind,run_sizeOf0 (show P.cellsOf t≠0 by omega),Result.andThen_ok,ne_eq,hv1]
  simpa [ads,Ck.ad,Ad.at,hn1] using hst
 have hnf:nth (Vx.frz m k) c=nth m c:=by rw [nth_frz,if_neg (fun e=>hkc e.1.symm)]
 have hkg:k≠c+1:=fun e=>by rw [e] at honk;rw [hgon] at honk;cases honk
 have hm1:=hm.frz k
 have hgd:=tset_getD f rv vs 0
 have hm2:MemOK S w0 (w.setCells (nth m c).block ((nth m c).base+f) [rv]) (setCk (Vx.frz m k) c (.one (tset f rv 0 vs))):=by
  refine hm1.upd (c:=c) (by rw [hnf];exact hwr) (by rw [hnf];exact hlive) g3 g4 g5 g2 (fun j hj=>by rw [hnf] at hj;exact g1 j hj) (fun a=>World.frozen?_setCells _ _ _ _ _) (.one (tset f rv 0 vs)) (by rw [hnf];simp [Ck.live,Ck.alive,Ck.on] at hon ⊢;exact hon) ?_ (CsIn.other (fun _ _ e=>by cases e) (fun _ _ _ _ e=>by cases e))
  rw [hnf,ads_frz]
  refine ⟨by rw [tset_len];exact hcs,fun j hj => ?_⟩
  rw [tset_len] at hj
  have e3:=hgd j (fun e=>by rw [show j=f by omega];exact allVal_getD vs hd f hav hhd hfl)
  rw [e3]
  have e0:({ nth m c with cells:=.one (tset f rv 0 vs) }:Ck C).ad.at 0 j=⟨(nth m c).block,(nth m c).base+j,none⟩:=by simp [Ck.ad,Ad.at]
  rw [e0]
  by_cases hjf:j=f
  · rw [if_pos (by omega),hjf]
    have h1:=World.cell?_setCells_in (nth m c).block [rv] ((nth m c).base+f) w hsome 0 (by simp)
    rw [yx] at h1
    exact h1
  · rw [if_neg (by omega)]
    have h1:=hok j hj
    simp only [Ck.ad,Ad.at,sc,wo] at h1
    have h2:(w.setCells (nth m c).block ((nth m c).base+f) [rv]).cell? ⟨(nth m c).block,(nth m c).base+j,none⟩=w.cell? ⟨(nth m c).block,(nth m c).base+j,none⟩:=by
     rw [World.cell?_setCells_out]
     intro _ _
     simp only [wb]
     omega
    generalize vs.getD j .junk=v at h1
    cases v <;> simp only [cellIs] at h1 ⊢ <;> rw [h2] <;> exact h1
 have hng:nth (setCk (Vx.frz m k) c (.one (tset f rv 0 vs))) (c+1)=nth m (c+1):=by
  rw [nth_setCk,if_neg (by omega),nth_frz,if_neg (fun e=>hkg e.1.symm)]
 have hnk:nth (setCk (Vx.frz m k) c (.one (tset f rv 0 vs))) k={ nth m k with wr:=false }:=by
  rw [nth_setCk,if_neg (fun e=>hkc e.1),nth_frz,if_pos ⟨rfl,hk⟩]
 have hlen:(setCk (Vx.frz m k) c (.one (tset f rv 0 vs))).length=m.length:=by rw [length_setCk,length_frz]
 have hadm:ads (setCk (Vx.frz m k) c (.one (tset f rv 0 vs)))=ads m:=by rw [ads_setCk,ads_frz]
 have hokk:=hm2.ok (nth (setCk (Vx.frz m k) c (.one (tset f rv 0 vs))) k) (nth_mem (by rw [hlen];exact hk)) (by rw [hnk];exact honk)
 rw [hnk,hadm] at hokk
 simp only [Ck.ok,hck] at hokk
 obtain ⟨hksz,hokk⟩:=hokk
 have hro:Rw.ok (C F.t) (w.setCells (nth m c).block ((nth m c).base+f) [rv]) ⟨true,(nth m k).block,(nth m k).base,mm,l⟩:=by
  unfold Rw.ok
  simp only
  intro j hj q hq
  have h1:=hokk j hj q hq
  simp only [Ck.ad,Ad.at,hksz] at h1
  rw [h1,enc_flat (C F.t) (ads m) noAd _ q hq]
 have hm3:MemOK S w0 (w.setCells (nth m c).block ((nth m c).base+f) [rv]) (setCk (setCk (Vx.frz m k) c (.one (tset f rv 0 vs))) (c+1) (.rows F.te (ys ++ [F.put ⟨true,(nth m k).block,(nth m k).base,mm,l⟩]))):=by
  refine hm2.ghs (by rw [hng];exact hgon) _ fun t' z hz => ?_
  obtain ⟨rfl,hz⟩:=hz.inv
  have hz:z∈ys ++ [F.put ⟨true,(nth m k).block,(nth m k).base,mm,l⟩]:=hz
  rcases List.mem_append.1 hz with hz | hz
  · refine .inl ⟨_,nth_mem (m:=setCk (Vx.frz m k) c (.one (tset f rv 0 vs))) (c:=c+1) (by rw [hlen];exact hcg'),?_,fun _ h=>h⟩
    rw [hng]
    exact .of_rows hcg hz
  · rw [List.mem_singleton.1 hz]
    refine .inr ⟨F.good _ _ hro,fun b hb => ?_⟩
    rw [F.blks] at hb
    have hb:b=(nth m k).block:=by simpa [Rw.blks] using hb
    subst hb
    refine ⟨by rw [g2];exact hm.lt _ (nth_mem hk) honk,fun hb0=>.inl (hm.inS _ (nth_mem hk) hwk honk hb0),fun c' hc' hw' hl' => ?_,fun p hp=>((hm.more.pin p hp).2.2 _ (nth_mem hk) hlivek).symm⟩
    have key:∀ j,j<m.length→j≠k→(nth m j).wr=true→(nth m j).live=true→(nth m j).block≠(nth m k).block:=fun j hj hjk h1 h2=>hm.apart j k hj hk hjk h1 h2 hlivek
    rcases mem_setCk hc' with ⟨j,hj,hjg,rfl⟩ | ⟨_,rfl⟩
    · rw [hlen] at hj
      by_cases hjc:j=c
      · subst hjc
        rw [nth_setCk,if_pos ⟨rfl,by rw [length_frz];exact hc⟩,hnf]
        exact key j hj (Ne.symm hkc) hwr hlive
      · by_cases hjk:j=k
        · subst hjk
          rw [hnk] at hw';cases hw'
        · have e:nth (setCk (Vx.frz m k) c (.one (tset f rv 0 vs))) j=nth m j:=by
           rw [nth_setCk,if_neg (fun e=>hjc e.1),nth_frz,if_neg (fun e=>hjk e.1)]
          rw [e] at hw' hl' ⊢
          exact key j hj hjk hw' hl'
    · rw [hng] at hl'
      have:=(Ck.live_iff.1 hl').2
      change (nth m (c+1)).on=true at this
      rw [hgon] at this;cases this
 refine ⟨_,_,.undef,.inr ⟨?_,rfl⟩,hm3,hK,fun j _=>by rw [ads_setCk,hadm],by rw [length_setCk,hlen];exact zx _,.inl ⟨by rw [length_setCk,hlen],by rw [ads_setCk,hadm]⟩⟩
 rw [hv] at e2
 have e1':a.eval x=.pointer (some ((ads m c).at 0 f)):=by rw [e1];rfl
 simp [execOp,Instr.storeAt,e1',e2,Instr.sureAddr,hrun]
def boxT (P:Program) (tm:Tm) (m:List (Ck C)) (T:Tail C) (o:Op) (K:SV→List (Ck C)→Tr):Tr:=
 match o with
 | .box _ x=>match ev tm m [] x with
   | some v=>match memLt m.length m && tmLt m.length tm && v.plain && SV.lts m.length v.parts with
     | true=>.all fun b=>K (.ptr m.length 0 0) (m ++ [⟨b,0,v.parts.length,true,none,.one v.parts⟩,⟨0,0,1,false,some false,.rows T.F.te []⟩])
     | false=>.no
   | none=>.no
 | _=>.no
theorem boxT_ok {P:Program} {S:Sx} {w0 w:World} {n:Nat} {tm:Tm} {m:List (Ck C)} {T:Tail C} {a:Act} (h:ActOK (ads m) n tm a) (hm:MemOK S w0 w m) {o:Oper}
 {K:SV→List (Ck C)→Tr} (hl:(boxT P tm m T o.op K).holds):Left P S w0 tm m w (execOp a.eval o) K:=by
 obtain ⟨dst,op,ty,pos,after,g⟩:=o
 unfold boxT at hl
 simp only at hl
 split at hl <;> try exact hl.elim
 rename_i e x
 split at hl <;> try exact hl.elim
 rename_i v hv
 split at hl <;> try exact hl.elim
 rename_i hc
 simp only [zn] at hc
 obtain ⟨⟨⟨h1,h2⟩,h3⟩,h4⟩:=hc
 have e1:=ev_ok h hm.glob (fun p hp=>by cases hp) _ _ hv
 have hcs:=SV.plain_cells (ads m) h3
 have hvas:=SV.vas_congr (ads_append m ⟨w.heap.size,0,v.parts.length,true,none,.one v.parts⟩) v.parts h4
 have hok:=one_ok (C:=C) (ad:=ads (m ++ [⟨w.heap.size,0,v.parts.length,true,none,.one v.parts⟩])) w e v.parts (v.va (ads m)).cells (by rw [hcs,← SV.vas_eq,← hvas]) true none
 have hm1:=hm.new h1 _ e _ _ hok (CsIn.other (fun _ _ e=>by cases e) (fun _ _ _ _ e=>by cases e))
 have hl1:memLt (m ++ [(⟨w.heap.size,0,v.parts.length,true,none,.one v.parts⟩:Ck C)]).length (m ++ [⟨w.heap.size,0,v.parts.length,true,none,.one v.parts⟩])=true:=by
  refine memLt_app (memLt_mono (by simp) h1) ?_
  simp only [memLt,Ck.lt,Bool.and_true]
  exact SV.lts_mono (by simp) _ h4
 have hm2:=hm1.off hl1 (x:=⟨0,0,1,false,some false,.rows T.F.te []⟩) rfl fun t y hy=>by
  obtain ⟨rfl,hy⟩:=hy.inv
  cases hy
 have ea:m ++ [(⟨w.heap.size,0,v.parts.length,true,none,.one v.parts⟩:Ck C),⟨0,0,1,false,some false,.rows T.F.te []⟩]=m ++ [⟨w.heap.size,0,v.parts.length,true,none,.one v.parts⟩] ++ [⟨0,0,1,false,some false,.rows T.F.te []⟩]:=by simp
 have had:∀ k,k<m.length→ads m k=ads (m ++ [(⟨w.heap.size,0,v.parts.length,true,none,.one v.parts⟩:Ck C),⟨0,0,1,false,some false,.rows T.F.te []⟩]) k:=fun k hk=>by
  rw [ea,← ads_append _ _ k (by simp;omega),← ads_append _ _ k hk]
 refine ⟨_,_,_,.inl ?_,by rw [ea];exact hm2,hl w.heap.size,had,by simp,.inr h2⟩
 have e0:ads (m ++ [(⟨w.heap.size,0,v.parts.length,true,none,.one v.parts⟩:Ck C),⟨0,0,1,false,some false,.rows T.F.te []⟩]) m.length=⟨w.heap.size,0,v.parts.length,true⟩:=by
  rw [ea,← ads_append _ _ _ (by simp)]
  exact ads_append_new _ _
 simp [execOp,Instr.box,e1,newVar,newRow,SV.va,e0,Ad.at]
def findTail (te:Nat):Nat→List (Ck C)→Option Nat
 | _,[]=>none
 | k,⟨_,_,_,_,g,.rows t _⟩ :: r=>match zj t te,g with
   | true,none=>some k
   | _,_=>findTail te (k+1) r
 | k,_ :: r=>findTail te (k+1) r
def arrQ (P:Program) (T:Option (Tail C)) (tm:Tm) (m:List (Ck C)) (al:List (Nat×Bool)) (o:Op):Ans:=
 match T with
 | none=>none
 | some T=>match o with
   | .indexAddr t x ix=>match P.underlying t,ev tm m al x,ev tm m al ix with
     | some (.array n e),some (.ptr c i f),some (.int _ j)=>match P.underlying e,zj (P.cellsOf e) 1,vz 2 n with
       | some (.slice _),true,true=>match findTail T.F.te 0 m with
         | some q=>match zj (nth m q).sz 1 with
           | true=>some ([0≤j,j<(n:Int),(nth m q).block=(nth m c).block,(nth m q).base=(nth m c).base+(i*(nth m c).sz+f)],.ptr q j.toNat 0)
           | false=>none
         | none=>some ([0≤j,j<(n:Int)],.ptr c i (j.toNat+f))
       | _,_,_=>none
     | _,_,_=>none
   | _=>none
theorem arrQ_ok {P:Program} {S:Sx} {w0 w:World} {n:Nat} {T:Option (Tail C)} {tm:Tm} {m:List (Ck C)} {a:Act} (h:ActOK (ads m) n tm a) (hm:MemOK S w0 w m) {al:List (Nat×Bool)} (ha:AlOK tm al) {o:Oper} {ps:List Prop} {r:SV}
 (hl:arrQ P T tm m al o.op=some (ps,r)) (hp:allOf ps):(execOp a.eval o).run P w=.ok (.value (r.va (ads m))) w:=by
 obtain ⟨dst,op,type,pos,after,guard⟩:=o
 unfold arrQ at hl
 simp only at hl
 split at hl <;> try contradiction
 split at hl <;> try contradiction
 rename_i t x ix
 split at hl <;> try contradiction
 rename_i n e c i f k j hu hx hj
 split at hl <;> try contradiction
 rename_i e' hue hce hn
 have hce:=zp hce
 have hn:2≤n:=xf hn
 have hs:=run_sizeOf0 (P:=P) (t:=e) (by omega) w
 have ex:=ev_ok h hm.glob ha _ _ hx
 have ej:=ev_ok h hm.glob ha _ _ hj
 have main:0≤j→j<(n:Int)→∀ v:Value,v=.pointer (some (((ads m c).at i f).add (j.toNat*1)))→(execOp a.eval ⟨dst,.indexAddr t x ix,type,pos,after,guard⟩).run P w=.ok (.value v) w:=by
  rintro h1 h2 v rfl
  have ht:¬ n≤1:=by omega
  simp [execOp,ex,ej,SV.va,Instr.indexAt,asIntOf,run_underlying' hu,Instr.sureAddr,h1,h2,hs,hce]
 split at hl
 · rename_i q _
   split at hl <;> try contradiction
   rename_i hq
   have hq:=zp hq
   simp only [Option.some.injEq,Prod.mk.injEq] at hl
   obtain ⟨rfl,rfl⟩:=hl
   obtain ⟨h1,h2,h3,h4,_⟩:=hp
   refine main h1 h2 _ ?_
   simp only [SV.va,ads,Ck.ad,Ad.at,h3,h4,hq]
   simp [Addr.add]
 · simp only [Option.some.injEq,Prod.mk.injEq] at hl
   obtain ⟨rfl,rfl⟩:=hl
   obtain ⟨h1,h2,_⟩:=hp
   refine main h1 h2 _ ?_
   have:(ads m c).base+(i*(ads m c).sz+(j.toNat+f))=(ads m c).base+(i*(ads m c).sz+f)+j.toNat*1:=by omega
   simp only [SV.va,Ad.at,Addr.add,this]
   split
   · rename_i h0;rw [h0];rfl
   · rfl
def seqOf:Nat→List (Nat×SV)→Option (List SV)
 | _,[]=>some []
 | k,(i,.fn f a b) :: r=>match zj i k,seqOf (k+1) r with
   | true,some vs=>some (.fn f a b :: vs)
   | _,_=>none
 | _,_=>none
theorem fill_seq {ad:Nat→Ad}:∀ (qs:List (Nat×SV)) (k:Nat) (vs:List SV) (arr:Array Value),seqOf k qs=some vs→k+vs.length≤arr.size→
 ∃ arr',Instr.fill (fun i=>some (i*1,1)) arr (qs.map fun p=>(p.1,p.2.va ad))=some arr'∧arr'.size=arr.size∧∀ j:Nat,arr'[j]? = if k≤j∧j<k+vs.length then (vs.map (SV.va ad))[j - k]? else arr[j]?
 | [],k,vs,arr,h,_=>by
   simp only [seqOf,Option.some.injEq] at h
   subst h
   exact ⟨arr,rfl,rfl,fun j=>by rw [if_neg (by simp only [List.length_nil];omega)]⟩
 | (i,v) :: r,k,vs,arr,h,hs=>by
   cases v <;> simp only [seqOf] at h <;> try contradiction
   rename_i f a b
   split at h <;> try contradiction
   rename_i us hik hr
   simp only [Option.some.injEq] at h
   subst h
   have hik:=zp hik
   subst hik
   simp only [xq] at hs
   obtain ⟨arr',h1,h2,h3⟩:=fill_seq (ad:=ad) r (i+1) us (arr.setIfInBounds i ((SV.fn f a b).va ad)) hr (by simp;omega)
   refine ⟨arr',?_,by rw [h2];simp,fun j => ?_⟩
   · have hc:((SV.fn f a b).va ad).cells = #[(SV.fn f a b).va ad]:=by simp [SV.va,Value.cells]
     simp only [wx,Instr.fill,hc]
     rw [if_neg (by simp;omega)]
     simpa using h1
   · rw [h3]
     by_cases hj:j=i
     · subst hj
       rw [if_neg (by omega),if_pos (by simp only [xq];omega)]
       simp [Array.getElem?_setIfInBounds_self_of_lt (show j<arr.size by omega)]
     · rw [Array.getElem?_setIfInBounds_ne (Ne.symm hj)]
       by_cases h4:i+1≤j∧j<i+1+us.length
       · rw [if_pos h4,if_pos (by simp only [xq];omega),show j - i=(j - (i+1))+1 by omega]
         simp
       · rw [if_neg h4,if_neg (by simp only [xq];omega)]
def bldF (P:Program) (tm:Tm) (m:List (Ck C)) (o:Op):Option (List SV):=
 match o with
 | .buildSlice t len ps=>match P.underlying t with
   | some (.slice e)=>match P.underlying e,P.info? e with
     | some (.func _ _ _),some i=>match i.zero,zj i.size 1,optAll (fun (p:Nat×Operand)=>(ev tm m [] p.2).map fun v=>(p.1,v)) ps.toList with
       | some .nilFunc,true,some qs=>match seqOf 0 qs with
         | some vs=>match zj vs.length len && vz 1 len && vz len 1000 && memLt m.length m && tmLt m.length tm && SV.lts m.length vs with
           | true=>some vs
           | false=>none
         | none=>none
       | _,_,_=>none
     | _,_=>none
   | _=>none
 | _=>none
def bldT (m:List (Ck C)) (vs:List SV) (K:SV→List (Ck C)→Tr):Tr:=
 .all fun b=>K (.sl m.length 0 vs.length vs.length) (m ++ [⟨b,0,1,true,none,.one vs⟩])
theorem bldF_ok {P:Program} {S:Sx} {w0 w:World} {n:Nat} {tm:Tm} {m:List (Ck C)} {a:Act} (h:ActOK (ads m) n tm a) (hm:MemOK S w0 w m) {o:Oper} {vs:List SV} (hb:bldF P tm m o.op=some vs)
 {K:SV→List (Ck C)→Tr} (hl:(bldT m vs K).holds):Left P S w0 tm m w (execOp a.eval o) K:=by
 obtain ⟨dst,op,ty,pos,after,g⟩:=o
 unfold bldF at hb
 simp only at hb
 split at hb <;> try contradiction
 rename_i t len ps
 split at hb <;> try contradiction
 rename_i e hu
 split at hb <;> try contradiction
 rename_i pa ra va i hue hi
 split at hb <;> try contradiction
 rename_i qs hz hsz hq
 split at hb <;> try contradiction
 rename_i us hsq
 split at hb <;> try contradiction
 rename_i hc
 simp only [Option.some.injEq] at hb
 subst hb
 simp only [zn] at hc
 obtain ⟨⟨⟨⟨⟨c1,c2⟩,c3⟩,c4⟩,c5⟩,c6⟩:=hc
 have c1:=zp c1
 have c2:1≤len:=xf c2
 have c3:len≤1000:=xf c3
 have hsz:=zp hsz
 have hso:(sizeOf e).run P w=.ok 1 w:=by simp [sizeOf,typeInfo,hi,hsz]
 have hpairs:=optAll_pairs (fun x v=>ev_ok h hm.glob (fun p hp=>by cases hp) x v) hq
 have h3:(ps.map fun p=>(p.1,a.eval p.2)).toList=qs.map fun p=>(p.1,p.2.va (ads m)):=by rw [← hpairs];simp
 obtain ⟨arr',f1,f2,f3⟩:=fill_seq (ad:=ads m) qs 0 us ((ni (len*1)).map ((#[Value.nilFunc]:Array Value)[· % 1]!)) hsq (by simp;omega)
 have hl2:us.map (SV.va (ads m))=arr'.toList:=by
  refine List.ext_getElem? fun j => ?_
  rw [vp (xs:=arr'),f3]
  by_cases hj:j<us.length
  · rw [if_pos (by omega)];rfl
  · rw [if_neg (by omega),List.getElem?_eq_none (by simp;omega)]
    symm
    refine Array.getElem?_eq_none ?_
    simp;omega
 have hvas:=SV.vas_congr (ads_append m ⟨w.heap.size,0,1,true,none,.one us⟩) us c6
 rw [SV.vas_eq,SV.vas_eq] at hvas
 have hok:Ck.ok (ads (m ++ [(⟨w.heap.size,0,1,true,none,.one us⟩:Ck C)])) (w.alloc (.cells arr' e)) (⟨w.heap.size,0,1,true,none,.one us⟩:Ck C):=by
  refine ⟨.inr rfl,fun f hf => ?_⟩
  have hcell:(w.alloc (.cells arr' e)).cell? ((⟨w.heap.size,0,1,true,none,.one us⟩:Ck C).ad.at 0 f)=some ((us.getD f .junk).va (ads (m ++ [(⟨w.heap.size,0,1,true,none,.one us⟩:Ck C)]))):=by
   simp only [Ck.ad,Ad.at,wo,sc]
   rw [cell?_alloc,← vp,← hl2,hvas]
   simp [List.getD,zt hf]
  revert hcell
  generalize us.getD f .junk=v
  intro hcell
  cases v <;> simp only [cellIs] <;> first | exact hcell | exact ⟨_,hcell⟩
 refine ⟨_,_,_,.inl ?_,hm.new c4 arr' e _ _ hok (CsIn.other (fun _ _ e=>by cases e) (fun _ _ _ _ e=>by cases e)),hl w.heap.size,ads_append _ _,by simp,.inr c5⟩
 have hthis:ads (m ++ [(⟨w.heap.size,0,1,true,none,.one us⟩:Ck C)]) m.length=⟨w.heap.size,0,1,true⟩:=ads_append_new _ _
 have hbig:¬ (16777216<len):=by omega
 have h0:¬ len=0:=by omega
 rw [← h3] at f1
 simp only [Array.toList_map] at f1
 simp only [Nat.mul_one] at f1
 simp [execOp,Instr.buildSlice,run_underlying' hu,hso,hbig,h0,zeroValue,typeInfo,hi,hz,newRow,SV.va,hthis,Ad.at,Value.cells,c1]
 simp at f1
 rw [f1]
 simp
def updEach (cd:Codec):List cd.α→List SV→Option (List cd.α)
 | [],[]=>some []
 | x :: l,v :: r=>match cd.upd x 0 v,updEach cd l r with
   | some y,some l'=>some (y :: l')
   | _,_=>none
 | _,_=>none
theorem updEach_ok {cd:Codec} (hs:cd.sz=1) (ad:Nat→Ad):∀ (l:List cd.α) (vs:List SV) (l':List cd.α),updEach cd l vs=some l'→l'.length=vs.length∧l.length=vs.length∧∀ k,k<vs.length→((cd.enc (l'.getD k cd.dflt)).getD 0 .junk).va ad=(vs.getD k .junk).va ad
 | [],[],l',h=>by
   simp only [updEach,Option.some.injEq] at h
   subst h
   exact ⟨rfl,rfl,fun k hk=>absurd hk (wy k)⟩
 | x :: l,v :: r,l',h=>by
   simp only [updEach] at h
   split at h <;> try contradiction
   rename_i y l2 hy hl
   simp only [Option.some.injEq] at h
   subst h
   obtain ⟨h1,h2,h3⟩:=updEach_ok hs ad l r l2 hl
   refine ⟨by simp [h1],by simp [h2],fun k hk => ?_⟩
   cases k with
   | zero=>
     have hu:=cd.upd_ok ad x 0 v y hy
     have e1:((cd.enc y).getD 0 .junk).va ad=(v.va ad):=by
      have h4:=cd.len y
      have h5:=cd.len x
      have h6:((cd.enc y).map (SV.va ad))[0]? = some (v.va ad):=by
       rw [hu,ux (by simp;omega)]
      rw [zh] at h6
      cases h7:(cd.enc y)[0]? with
      | none=>rw [h7] at h6;cases h6
      | some u=>
        rw [h7] at h6
        simp only [yk,Option.some.injEq] at h6
        rw [zy,h7]
        exact h6
     simpa using e1
   | succ k=>simpa using h3 k (by simpa using hk)
 | [],_ :: _,_,h=>by simp [updEach] at h
 | _ :: _,[],_,h=>by simp [updEach] at h
def arrS (P:Program) (tm:Tm) (m:List (Ck C)) (o:Op):Option (List Prop×List (Ck C)):=
 match o with
 | .store t a v=>match P.underlying t with
   | some (.array _ _)=>match ev tm m [] a,ev tm m [] v with
     | some (.ptr c 0 0),some (.agg vs)=>match (nth m c).cells,(nth m c).wr && (zj (P.cellsOf t) vs.length && !(zj (P.cellsOf t) 0) && vs.all SV.cell) with
       | .rows t' l,true=>match zj (C t').sz 1 && !((C t').deep),updEach (C t') l vs with
         | true,some l'=>some ((nth m c).there,setCk m c (.rows t' l'))
         | _,_=>none
       | _,_=>none
     | _,_=>none
   | _=>none
 | _=>none
theorem arrS_ok {P:Program} {S:Sx} {w0 w:World} {N:Nat} {tm:Tm} {m:List (Ck C)} {a:Act} (h:ActOK (ads m) N tm a) (hm:MemOK S w0 w m) {o:Oper} {ps:List Prop} {m':List (Ck C)}
 (hf:arrS P tm m o.op=some (ps,m')) {K:SV→List (Ck C)→Tr} (hKK:(conj ps (K .undef m')).holds):Left P S w0 tm m w (execOp a.eval o) K:=by
 obtain ⟨hps,hK⟩:=(conj_iff _ _).1 hKK
 clear hKK
 obtain ⟨dst,op,ty,pos,after,g⟩:=o
 unfold arrS at hf
 simp only at hf
 split at hf <;> try contradiction
 rename_i t x y
 split at hf <;> try contradiction
 split at hf <;> try contradiction
 rename_i c vs hx hy
 split at hf <;> try contradiction
 rename_i t' l hcl hcc
 split at hf <;> try contradiction
 rename_i l' hsd hu
 simp only [Option.some.injEq,Prod.mk.injEq] at hf
 obtain ⟨rfl,rfl⟩:=hf
 simp only [zn,yp] at hcc hsd
 obtain ⟨hwr,⟨hn,hn0⟩,hcell⟩:=hcc
 have hn:P.cellsOf t=vs.length:=zp hn
 have hn0:P.cellsOf t≠0:=xl hn0
 have hsz:(C t').sz=1:=zp hsd.1
 have hon:=Ck.there_ok hps
 have hc:=lt_of_alive (show (nth m c).alive=true by simp [Ck.alive,hcl])
 have hlive:(nth m c).live=true:=by simp [Ck.live,Ck.alive,hcl,hon]
 have hok:=hm.ok _ (nth_mem hc) hon
 simp only [Ck.ok,hcl] at hok
 obtain ⟨hcs,hok⟩:=hok
 rw [hsz] at hcs
 obtain ⟨u1,u2,u3⟩:=updEach_ok hsz (ads m) l vs l' hu
 have e1:=ev_ok h hm.glob (fun p hp=>by cases hp) _ _ hx
 have e2:=ev_ok h hm.glob (fun p hp=>by cases hp) _ _ hy
 have hone:∀ v∈vs.map (SV.va (ads m)),v.oneCell'=true:=by
  intro v hv
  obtain ⟨u,hu,rfl⟩:=List.mem_map.1 hv
  exact SV.cell_one _ (List.all_eq_true.1 hcell u hu)
 obtain ⟨g1,g2,g3,g4,g5⟩:=heap_setCells (nth m c).block (vs.map (SV.va (ads m))) (nth m c).base w
 have hsome:∀ j,j<(vs.map (SV.va (ads m))).length→(w.cell? ⟨(nth m c).block,(nth m c).base+j,none⟩).isSome=true:=by
  intro j hj
  have:=hok j (by simpa [u2] using hj) 0 (by omega)
  simp only [Ck.ad,Ad.at,hcs] at this
  rw [show (nth m c).base+(j*1+0)=(nth m c).base+j by omega] at this
  rw [this];rfl
 have hst:=run_storeCells_cells (P:=P) (nth m c).block (nth m c).base (vs.map (SV.va (ads m))) 0 w (fun j hj=>by simpa using hsome j hj) (fun j _=>hm.wrok _ (nth_mem hc) hwr hlive _ rfl) (by simpa using hone)
 have hrun:(storeVar t ((ads m c).at 0 0) ((SV.agg vs).va (ads m))).run P w=.ok () (w.setCells (nth m c).block (nth m c).base (vs.map (SV.va (ads m)))):=by
  unfold storeVar
  simp only [Sem.run_bind,run_sizeOf0 hn0,Result.andThen_ok,ne_eq,SV.va,Value.cells,SV.vas_eq]
  simpa [ads,Ck.ad,Ad.at,hn] using hst
 have hdeep:(C t').deep=false:=hsd.2
 refine ⟨_,_,.undef,.inr ⟨?_,rfl⟩,hm.upd hwr hlive g3 g4 g5 g2 g1 (fun a=>World.frozen?_setCells _ _ _ _ _) (.rows t' l') (by simp [Ck.live,Ck.alive,Ck.on] at hon ⊢;exact hon) ?_ (CsIn.rows (RowsOf.flat hdeep _)),hK,fun k _=>by rw [ads_setCk],by rw [length_setCk];exact zx _,.inl ⟨length_setCk ..,ads_setCk ..⟩⟩
 · have e1':a.eval x=.pointer (some ((ads m c).at 0 0)):=by rw [e1];rfl
   simp [execOp,Instr.storeAt,e1',e2,Instr.sureAddr,hrun]
 · refine ⟨by rw [hsz];exact hcs,fun k hk f hf => ?_⟩
   have hf0:f=0:=by omega
   subst hf0
   have e0:({ nth m c with cells:=.rows t' l' }:Ck C).ad.at k 0=⟨(nth m c).block,(nth m c).base+k,none⟩:=by
    have:({ nth m c with cells:=.rows t' l' }:Ck C).ad.at k 0=⟨(nth m c).block,(nth m c).base+(k*(nth m c).sz+0),none⟩:=rfl
    rw [this,hcs];simp
   rw [e0]
   have h1:=World.cell?_setCells_in (nth m c).block (vs.map (SV.va (ads m))) (nth m c).base w hsome k (by simp;omega)
   rw [h1,u3 k (by omega)]
   simp [zy,zt (show k<vs.length by omega)]
def copyS (P:Program) (tm:Tm) (m:List (Ck C)) (o:Op):Option (List Prop×SV×List (Ck C)):=
 match o with
 | .call c=>match c.callee with
   | .builtin .copy=>match c.argTypes.toList,c.args.toList with
     | [t,_],[x,y]=>match P.underlying t,ev tm m [] x,ev tm m [] y with
       | some (.slice e),some (.sl d i n _),some (.sl s j k kk)=>match zj (P.cellsOf e) 1 && (nth m d).wr,(nth m d).cells,(nth m s).cells with
         | true,.rows t1 l,.rows t2 l2=>if h:t2=t1 then
            match zj (C t1).sz 1 && !((C t1).deep) with
            | true=>some (((nth m d).there ++ (nth m s).orNil k kk) ++ [i+min k n≤l.length∧j+min k n≤l2.length],.int .i64 ((min k n:Nat):Int),setCk m d (.rows t1 (l.take i ++ ((castL h l2).drop j).take (min k n) ++ l.drop (i+min k n))))
            | false=>none
           else none
         | _,_,_=>none
       | _,_,_=>none
     | _,_=>none
   | _=>none
 | _=>none
theorem copyS_ok {P:Program} {S:Sx} {w0 w:World} {N:Nat} {tm:Tm} {m:List (Ck C)} {a:Act} (h:ActOK (ads m) N tm a) (hm:MemOK S w0 w m) {o:Oper} {ps:List Prop} {v:SV} {m':List (Ck C)}
 (hf:copyS P tm m o.op=some (ps,v,m')) {K:SV→List (Ck C)→Tr} (hKK:(conj ps (K v m')).holds):Left P S w0 tm m w (execOp a.eval o) K:=by
 obtain ⟨hps,hK⟩:=(conj_iff _ _).1 hKK
 clear hKK
 obtain ⟨dst,op,ty,pos,after,g⟩:=o
 unfold copyS at hf
 simp only at hf
 split at hf <;> try contradiction
 rename_i cl
 obtain ⟨callee,args,argTypes⟩:=cl
 simp only at hf
 split at hf <;> try contradiction
 split at hf <;> try contradiction
 rename_i t tt x y hts has
 split at hf <;> try contradiction
 rename_i e d i n mm s j k kk hu hx hy
 split at hf <;> try contradiction
 rename_i t1 l t2 l2 hb hcd hcs
 split at hf <;> try contradiction
 rename_i ht
 subst ht
 split at hf <;> try contradiction
 rename_i hz
 rw [castL_self] at hf
 simp only [Option.some.injEq,Prod.mk.injEq] at hf
 obtain ⟨rfl,rfl,rfl⟩:=hf
 simp only [zn,yp] at hb hz
 obtain ⟨hce,hwr⟩:=hb
 have hce:P.cellsOf e=1:=zp hce
 have hsz:(C t2).sz=1:=zp hz.1
 obtain ⟨hps1,hlen⟩:=(allOf_append _ _).1 hps
 obtain ⟨hth,hor⟩:=(allOf_append _ _).1 hps1
 obtain ⟨⟨hl1,hl2⟩,_⟩:=hlen
 have hon:=Ck.there_ok hth
 have hd:=lt_of_alive (show (nth m d).alive=true by simp [Ck.alive,hcd])
 have hs:=lt_of_alive (show (nth m s).alive=true by simp [Ck.alive,hcs])
 have hlive:(nth m d).live=true:=by simp [Ck.live,Ck.alive,hcd,hon]
 have hok:=hm.ok _ (nth_mem hd) hon
 simp only [Ck.ok,hcd] at hok
 obtain ⟨hdz,hok⟩:=hok
 rw [hsz] at hdz
 have e1:=ev_ok h hm.glob (fun p hp=>by cases hp) _ _ hx
 have e2:=ev_ok h hm.glob (fun p hp=>by cases hp) _ _ hy
 obtain ⟨vals,hvals⟩:∃ vals,vals=((l2.drop j).take (min k n)).map fun z=>(((C t2).enc z).getD 0 .junk).va (ads m):=⟨_,rfl⟩
 have hvl:vals.length=min k n:=by rw [hvals,zm,zd,vr];omega
 have hvat:∀ r,r<min k n→vals[r]? = some ((((C t2).enc (l2.getD (j+r) (C t2).dflt)).getD 0 .junk).va (ads m)):=fun r hr=>by
  have e:l2.getD (j+r) (C t2).dflt=l2[j+r]:=by rw [zy,zt (show j+r<l2.length by omega)];rfl
  rw [hvals,zh,yf hr,wd,zt (show j+r<l2.length by omega),e]
  rfl
 have hone:∀ v∈vals,v.oneCell'=true:=by
  intro v hv
  rw [hvals] at hv
  obtain ⟨z,_,rfl⟩:=List.mem_map.1 hv
  refine SV.cell_one _ ((C t2).cell z _ ?_)
  have:=(C t2).len z
  rw [zy,zt (show 0<((C t2).enc z).length by omega)]
  exact xi _
 have hat:∀ r,(nth m d).ad.at r 0=⟨(nth m d).block,(nth m d).base+r,none⟩:=fun r=>by
  simp [Ck.ad,Ad.at,hdz]
 have hsome:∀ r,r<vals.length→(w.cell? ⟨(nth m d).block,(nth m d).base+i+r,none⟩).isSome=true:=by
  intro r hr
  have:=hok (i+r) (by omega) 0 (by omega)
  rw [hat] at this
  rw [show (nth m d).base+i+r=(nth m d).base+(i+r) by omega,this];rfl
 have hst:=run_storeCells_cells (P:=P) (nth m d).block ((nth m d).base+i) vals 0 w (fun r hr=>by simpa using hsome r hr) (fun r _=>hm.wrok _ (nth_mem hd) hwr hlive _ rfl) hone
 simp only [yx] at hst
 obtain ⟨g1,g2,g3,g4,g5⟩:=heap_setCells (nth m d).block vals ((nth m d).base+i) w
 have hd0:(SV.sl d i n mm).va (ads m)=.slice (some ⟨(nth m d).block,(nth m d).base+i,none⟩) n mm:=by
  have:(ads m d).on=true:=hon
  have ha:(ads m d).at i 0=⟨(nth m d).block,(nth m d).base+i,none⟩:=hat i
  simp [SV.va,this,ha]
 have hrun:(Builtin.copy_ #[t,tt] ty #[(SV.sl d i n mm).va (ads m),(SV.sl s j k kk).va (ads m)]).run P w=.ok (goInt ((min k n:Nat):Int)) (w.setCells (nth m d).block ((nth m d).base+i) vals):=by
  rw [hd0]
  rcases Ck.orNil_ok hor with hso | ⟨hso,hk0,_⟩
  · have hoks:=hm.ok _ (nth_mem hs) hso
    simp only [Ck.ok,hcs] at hoks
    obtain ⟨hssz,hoks⟩:=hoks
    rw [hsz] at hssz
    have hsat:(ads m s).at j 0=⟨(nth m s).block,(nth m s).base+j,none⟩:=by simp [ads,Ck.ad,Ad.at,hssz]
    have hld:=run_loadCells_list (P:=P) w ((ads m s).at j 0) vals (fun r v hv=>by
     have hr:r<min k n:=by
      rw [← hvl]
      exact (List.getElem?_eq_some_iff.1 hv).1
     rw [hvat r hr] at hv
     simp only [Option.some.injEq] at hv
     subst hv
     have:=hoks (j+r) (by omega) 0 (by omega)
     have e0:(nth m s).ad.at (j+r) 0=((ads m s).at j 0).add r:=by
      rw [hsat]
      simp [Ck.ad,Ad.at,hssz,Addr.add,ss]
     rw [← e0]
     exact this)
    have hsv:(SV.sl s j k kk).va (ads m)=.slice (some ((ads m s).at j 0)) k kk:=by
     have:(ads m s).on=true:=hso
     simp [SV.va,this]
    rw [hsv]
    rw [hvl] at hld
    have hmin:Nat.min k n=min k n:=rfl
    simp [Builtin.copy_,run_underlying' hu,Builtin.lenOf,Builtin.firstCells,run_sizeOf0 (P:=P) (t:=e) (by omega),hce,hmin,hld,hst]
  · subst hk0
    have hv0:vals=[]:=List.eq_nil_of_length_eq_zero (by rw [hvl];simp)
    have hsv:(SV.sl s j 0 kk).va (ads m)=.slice none 0 kk:=by
     have:(ads m s).on=false:=hso
     simp [SV.va,this]
    rw [hsv,hv0]
    simp [Builtin.copy_,run_underlying' hu,Builtin.lenOf,Builtin.firstCells,run_sizeOf0 (P:=P) (t:=e) (by omega),storeCells,World.setCells]
 have hdeep:(C t2).deep=false:=hz.2
 refine ⟨_,_,.int .i64 ((min k n:Nat):Int),.inl ?_,hm.upd hwr hlive g3 g4 g5 g2 g1 (fun a=>World.frozen?_setCells _ _ _ _ _) (.rows t2 (l.take i ++ (l2.drop j).take (min k n) ++ l.drop (i+min k n))) (by simp [Ck.live,Ck.alive,Ck.on] at hon ⊢;exact hon) ?_ (CsIn.rows (RowsOf.flat hdeep _)),hK,fun k _=>by rw [ads_setCk],by rw [length_setCk];exact zx _,.inl ⟨length_setCk ..,ads_setCk ..⟩⟩
 · have ea:args = #[x,y]:=by
    apply xm
    rw [has]
   have et:argTypes = #[t,tt]:=by
    apply xm
    rw [hts]
   subst ea et
   generalize (SV.sl d i n mm).va (ads m)=vd at hrun e1
   generalize (SV.sl s j k kk).va (ads m)=vs at hrun e2
   have er:(SV.int IntKind.i64 ((min k n:Nat):Int)).va (ads (setCk m d (.rows t2 (l.take i ++ (l2.drop j).take (min k n) ++ l.drop (i+min k n)))))=goInt ((min k n:Nat):Int):=rfl
   rw [er]
   simp [execOp,resolve,invoke,builtin,e1,e2,hrun]
 · refine ⟨by rw [hsz];exact hdz,fun r hr f hf => ?_⟩
   have hf0:f=0:=by omega
   subst hf0
   have hL:(l.take i ++ (l2.drop j).take (min k n) ++ l.drop (i+min k n)).length=l.length:=by
    simp only [zu,zd,vr];omega
   have hr:r<l.length:=by rw [← hL];exact hr
   have e0:({ nth m d with cells:=.rows t2 (l.take i ++ (l2.drop j).take (min k n) ++ l.drop (i+min k n)) }:Ck C).ad.at r 0=⟨(nth m d).block,(nth m d).base+r,none⟩:=by
    have:({ nth m d with cells:=.rows t2 (l.take i ++ (l2.drop j).take (min k n) ++ l.drop (i+min k n)) }:Ck C).ad.at r 0=⟨(nth m d).block,(nth m d).base+(r*(nth m d).sz+0),none⟩:=rfl
    rw [this,hdz];simp
   rw [e0]
   by_cases h1:i≤r∧r<i+min k n
   · have h2:=World.cell?_setCells_in (nth m d).block vals ((nth m d).base+i) w hsome (r - i) (by omega)
     rw [show (nth m d).base+i+(r - i)=(nth m d).base+r by omega] at h2
     rw [h2]
     have h3:=hvat (r - i) (by omega)
     rw [zt (by omega)] at h3
     rw [h3]
     congr 4
     have tl:(l.take i).length=i:=by rw [zd];omega
     simp only [zy]
     rw [wt,yi (by omega),tl,zf (by rw [zd,vr];omega),yf (by omega),wd]
   · rw [World.cell?_setCells_out _ _ _ _ _ (fun _ _=>by show (nth m d).base+r<_∨_≤(nth m d).base+r;omega)]
     have h3:=hok r hr 0 (by omega)
     rw [hat] at h3
     rw [h3]
     congr 4
     have tl:(l.take i).length=i:=by rw [zd];omega
     have tl2:((l2.drop j).take (min k n)).length=min k n:=by rw [zd,vr];omega
     simp only [zy]
     rw [wt]
     by_cases h4:r<i
     · rw [zf (by omega),yf h4]
     · rw [yi (by omega),tl,yi (by omega),tl2,wd]
       congr 2
       omega
end Go.Vx
namespace Go.Vx
open Go
variable {C:Nat→Codec}
def pickB (x:Bool) (A B:SB):SB:=
 match A,B with
 | .t,.t=>.t
 | .f,.f=>.f
 | .t,.f=>.tm x
 | .f,.t=>.tm (!x)
 | .t,B=>.tm (x || B.val)
 | .f,B=>.tm (!x && B.val)
 | A,.f=>.tm (x && A.val)
 | A,.t=>.tm (!x || A.val)
 | A,B=>.tm (bif x then A.val else B.val)
theorem pickB_ok (x:Bool) (A B:SB):(pickB x A B).val=if x then A.val else B.val:=by
 cases x <;> cases A <;> cases B <;> simp [pickB,SB.val]
def pickP (tm:Tm) (m:List (Ck C)) (al:List (Nat×Bool)) (o:Op):Ans:=
 match o with
 | .pick (.tmp tc) a b=>match ev tm m al (.tmp tc) with
   | some (.bool .t)=>(ev tm m al a).map fun v=>([],v)
   | some (.bool .f)=>(ev tm m al b).map fun v=>([],v)
   | some (.bool (.tm x))=>match ev tm m (al ++ [(tc,true)]) a,ev tm m (al ++ [(tc,false)]) b with
     | some (.bool A),some (.bool B)=>some ([],.bool (pickB x A B))
     | some .undef,some (.bool B)=>some ([x=false],.bool B)
     | some (.bool A),some .undef=>some ([x=true],.bool A)
     | _,_=>none
   | _=>none
 | _=>none
theorem pickP_ok {P:Program} {n:Nat} {tm:Tm} {m:List (Ck C)} {a:Act} (h:ActOK (ads m) n tm a) (hg:GlOK m) {al:List (Nat×Bool)} (ha:AlOK tm al) {o:Oper} {ps:List Prop} {r:SV}
 (hp:pickP tm m al o.op=some (ps,r)) (hps:allOf ps) (w:World):(execOp a.eval o).run P w=.ok (.value (r.va (ads m))) w:=by
 obtain ⟨dst,op,ty,pos,after,g⟩:=o
 simp only at hp
 cases op <;> simp only [pickP] at hp <;> try contradiction
 rename_i c x y
 cases c <;> simp only at hp <;> try contradiction
 rename_i tc
 split at hp <;> try (first | contradiction | exact False.elim hp)
 · rename_i hc
   cases hx:ev tm m al x with
   | none=>simp [hx] at hp
   | some v=>
     simp only [hx,yk,Option.some.injEq,Prod.mk.injEq] at hp
     obtain ⟨rfl,rfl⟩:=hp
     simp [execOp,ev_ok h hg ha _ _ hc,ev_ok h hg ha _ _ hx,SV.va,SB.val,asBool]
 · rename_i hc
   cases hy:ev tm m al y with
   | none=>simp [hy] at hp
   | some v=>
     simp only [hy,yk,Option.some.injEq,Prod.mk.injEq] at hp
     obtain ⟨rfl,rfl⟩:=hp
     simp [execOp,ev_ok h hg ha _ _ hc,ev_ok h hg ha _ _ hy,SV.va,SB.val,asBool]
 · rename_i b hc
   have hcond:condAt tm tc=some b:=by
    simp only [ev] at hc
    unfold condAt
    cases hg':get tm tc with
    | junk=>simp [hg',strip] at hc
    | cnd cs v=>
      simp only [hg',strip] at hc
      split at hc
      · cases v <;> simp_all [SB.val]
      · cases hc
    | bool s=>simp only [hg',strip,Option.some.injEq,SV.bool.injEq] at hc;simp [hc,SB.val]
    | _=>simp [hg',strip] at hc
   have hval:=ev_ok h hg ha _ _ hc
   have ha':AlOK tm (al ++ [(tc,b)]):=by
    intro p hp
    rcases List.mem_append.1 hp with hp | hp
    · exact ha p hp
    · simp at hp;subst hp;exact hcond
   split at hp <;> try (first | contradiction | exact False.elim hp)
   · rename_i A B hA hB
     simp only [Option.some.injEq,Prod.mk.injEq] at hp
     obtain ⟨rfl,rfl⟩:=hp
     cases b with
     | true=>
       have:=ev_ok h hg ha' _ _ hA
       have hv:a.eval (.tmp tc)=.bool true:=hval
       simp [execOp,hv,this,SV.va,asBool,pickB_ok]
     | false=>
       have:=ev_ok h hg ha' _ _ hB
       have hv:a.eval (.tmp tc)=.bool false:=hval
       simp [execOp,hv,this,SV.va,asBool,pickB_ok]
   · rename_i B hA hB
     simp only [Option.some.injEq,Prod.mk.injEq] at hp
     obtain ⟨rfl,rfl⟩:=hp
     have hb:b=false:=hps.1
     subst hb
     have:=ev_ok h hg ha' _ _ hB
     have hv:a.eval (.tmp tc)=.bool false:=hval
     simp [execOp,hv,this,SV.va,asBool]
   · rename_i A hA hB
     simp only [Option.some.injEq,Prod.mk.injEq] at hp
     obtain ⟨rfl,rfl⟩:=hp
     have hb:b=true:=hps.1
     subst hb
     have:=ev_ok h hg ha' _ _ hA
     have hv:a.eval (.tmp tc)=.bool true:=hval
     simp [execOp,hv,this,SV.va,asBool]
inductive PTree where
 | nil
 | p (i:Nat) (r:PTree)
 | q (i:Nat) (r:PTree)
 | e (i:Nat) (r:PTree)
 | f (i:Nat) (r:PTree)
 | two (i:Nat) (a:PTree) (j:Nat) (b:PTree)
inductive Tk where
 | p (i:Nat)
 | q (i:Nat)
 | e (i:Nat)
 | f (i:Nat)
 | t (r:PTree)
def PTree.of:List Tk→PTree
 | []=>.nil
 | .p i :: r=>.p i (PTree.of r)
 | .q i :: r=>.q i (PTree.of r)
 | .e i :: r=>.e i (PTree.of r)
 | .f i :: r=>.f i (PTree.of r)
 | .t r :: _=>r
def PTree.len:PTree→Nat
 | .nil=>0
 | .p _ r=>r.len+1
 | .q _ r=>r.len+1
 | .e _ r=>r.len+1
 | .f _ r=>r.len+1
 | .two _ a _ _=>a.len+1
structure Env (P:Program) (C:Nat→Codec) where
 fcs:List (Fc P C)
 pcs:List (Pc P C)
 n:Nat
 plans:List (Nat×List Nat×List Tk):=[]
 fams:List (Fam C):=[]
 famw:List (FamW C):=[]
 tail:Option (Tail C):=none
def Plain (C:Nat→Codec) (a:Addr):Prop:=∃ (g:Nat) (c:Array Value) (t:TypeId),(a.block,Obj.cells c t (0,0))∈(C g).gpins
def eqPtr (P:Program) (C:Nat→Codec) (t1 t2:TypeId) (a b:Addr):Option (List Prop×SB):=
 match zj t1 t2 with
 | false=>some ([],.f)
 | true=>match P.underlying t1,P.info? t1 with
   | some (.pointer te),some i=>match P.info? te with
     | some j=>match i.comparable,zj j.size 0 with
       | true,false=>some ([Plain C a,Plain C b],.tm (decide (a=b)))
       | _,_=>none
     | none=>none
   | _,_=>none
def eqQ (P:Program) (tm:Tm) (m:List (Ck C)) (al:List (Nat×Bool)) (o:Op):Ans:=
 match o with
 | .binOp op t x y _=>match ev tm m al x,ev tm m al y with
   | some (.ifc t1 (.val (.pointer (some a)))),some (.ifc t2 (.val (.pointer (some b))))=>match P.underlying t with
     | some (.interface _)=>match op with
       | .eql=>(eqPtr P C t1 t2 a b).map fun (ps,s)=>(ps,.bool s)
       | .neq=>(eqPtr P C t1 t2 a b).map fun (ps,s)=>(ps,.bool s.neg)
       | _=>none
     | _=>none
   | _,_=>none
 | _=>none
theorem eqPtr_ok {P:Program} {S:Sx} {w0 w:World} {m:List (Ck C)} (hm:MemOK S w0 w m) {t:TypeId} {ms:Array (String×TypeId)} (ht:P.underlying t=some (.interface ms)) {t1 t2:TypeId} {a b:Addr} {ps:List Prop} {s:SB}
 (h:eqPtr P C t1 t2 a b=some (ps,s)) (hp:allOf ps):(Op.equal t (.iface t1 (.pointer (some a))) (.iface t2 (.pointer (some b)))).run P w=.ok s.val w:=by
 unfold eqPtr at h
 split at h
 · rename_i hne
   simp only [Option.some.injEq,Prod.mk.injEq] at h
   obtain ⟨_,rfl⟩:=h
   have hne:t1≠t2:=xl hne
   have key:∀ d:Nat,(Op.equalIn (d+1) t (.iface t1 (.pointer (some a))) (.iface t2 (.pointer (some b)))).run P w=.ok false w:=fun d=>by
    simp [Op.equalIn,run_underlying' ht,hne]
   exact key 9999
 · rename_i he
   have he:t1=t2:=zp he
   subst he
   split at h <;> try contradiction
   rename_i te i hu hi
   split at h <;> try contradiction
   rename_i j hj
   split at h <;> try contradiction
   rename_i hc hs
   simp only [Option.some.injEq,Prod.mk.injEq] at h
   obtain ⟨rfl,rfl⟩:=h
   have hs:j.size≠0:=xl hs
   obtain ⟨⟨g,c,u,hg⟩,⟨g',c',u',hg'⟩,_⟩:=hp
   have ha:=(hm.more.gp g _ hg).1
   have hb:=(hm.more.gp g' _ hg').1
   by_cases hab:a=b
   · subst hab
     simp only [SB.val,decide_true]
     exact run_equalIn_iface_ptr_same w 9998 a ht hu hi hc hj
   · simp only [Op.equal,Op.maxDepth,run_equalIn_iface_ptr_other w 9998 ht hu hi hc hj hs hab ha hb,SB.val,decide_eq_false hab]
theorem eqQ_ok {P:Program} {S:Sx} {w0 w:World} {n:Nat} {tm:Tm} {m:List (Ck C)} {a:Act} (h:ActOK (ads m) n tm a) (hm:MemOK S w0 w m) {al:List (Nat×Bool)} (ha:AlOK tm al) {o:Oper} {ps:List Prop} {r:SV}
 (hl:eqQ P tm m al o.op=some (ps,r)) (hp:allOf ps):(execOp a.eval o).run P w=.ok (.value (r.va (ads m))) w:=by
 obtain ⟨dst,op,type,pos,after,guard⟩:=o
 simp only at hl
 cases op <;> simp only [eqQ] at hl <;> try contradiction
 case binOp bo t x y yt=>
  split at hl <;> try contradiction
  rename_i t1 a1 t2 b1 hx hy
  split at hl <;> try contradiction
  rename_i ms ht
  have ex:=ev_ok h hm.glob ha _ _ hx
  have ey:=ev_ok h hm.glob ha _ _ hy
  cases bo <;> simp only at hl <;> try contradiction
  · cases he:eqPtr P C t1 t2 a1 b1 with
    | none=>simp [he] at hl
    | some q=>
      obtain ⟨qs,s⟩:=q
      simp only [he,yk,Option.some.injEq,Prod.mk.injEq] at hl
      obtain ⟨rfl,rfl⟩:=hl
      have:=eqPtr_ok hm ht he hp
      simp [execOp,ex,ey,SV.va,eqGuard,binOp,this]
  · cases he:eqPtr P C t1 t2 a1 b1 with
    | none=>simp [he] at hl
    | some q=>
      obtain ⟨qs,s⟩:=q
      simp only [he,yk,Option.some.injEq,Prod.mk.injEq] at hl
      obtain ⟨rfl,rfl⟩:=hl
      have:=eqPtr_ok hm ht he hp
      simp [execOp,ex,ey,SV.va,eqGuard,binOp,this]
      cases s <;> simp [SB.val,SB.neg]
def wraps {P:Program} (E:Env P C):List Nat:=match E.plans.find? fun p=>zj p.1 2000000 with
 | some (_,F,_)=>F
 | none=>[]
def inW (d:Nat):List Nat→Bool
 | []=>false
 | x :: r=>zj x d || inW d r
def wrapP (W:List Nat) (tm:Tm) (m:List (Ck C)) (al:List (Nat×Bool)) (o:Oper):Ans:=
 match W with
 | []=>none
 | _ :: _=>match o.dst with
   | some d=>match inW d W with
     | true=>match o.op with
       | .binOp .add _ x y _=>match ev tm m al x,ev tm m al y with
         | some (.int k a),some (.int k' b)=>if sameKind k k' then some ([],.int k (k.wrap (a+b))) else none
         | _,_=>none
       | _=>none
     | false=>none
   | none=>none
theorem wrapP_ok {P:Program} {n:Nat} {W:List Nat} {tm:Tm} {m:List (Ck C)} {a:Act} (h:ActOK (ads m) n tm a) (hg:GlOK m) {al:List (Nat×Bool)} (ha:AlOK tm al) {o:Oper} {ps:List Prop} {r:SV}
 (hp:wrapP W tm m al o=some (ps,r)) (w:World):(execOp a.eval o).run P w=.ok (.value (r.va (ads m))) w:=by
 obtain ⟨dst,op,type,pos,after,guard⟩:=o
 unfold wrapP at hp
 simp only at hp
 split at hp <;> try contradiction
 split at hp <;> try contradiction
 split at hp <;> try contradiction
 split at hp <;> try contradiction
 rename_i t x y yt
 split at hp <;> try contradiction
 rename_i k p k' q hx hy
 split at hp <;> try contradiction
 rename_i hk
 simp only [Option.some.injEq,Prod.mk.injEq] at hp
 obtain ⟨rfl,rfl⟩:=hp
 have:=sameKind_eq hk
 subst this
 have ex:=ev_ok h hg ha _ _ hx
 have ey:=ev_ok h hg ha _ _ hy
 simp [execOp,ex,ey,SV.va,binOp,Op.intArith,eqGuard]
def pureP {P:Program} (E:Env P C) (tm:Tm) (m:List (Ck C)) (al:List (Nat×Bool)) (o:Oper):Ans:=
 match wrapP (wraps E) tm m al o with
 | some r=>some r
 | none=>match pickP tm m al o.op with
   | some r=>some r
   | none=>pev P (fun c=>(nth m c).sz) (fun c=>(nth m c).onB) (ev tm m al) o.op
def pureQ {P:Program} (E:Env P C) (tm:Tm) (m:List (Ck C)) (al:List (Nat×Bool)) (o:Op):Ans:=
 match lev P tm m al o with
 | some r=>some r
 | none=>match eqQ P tm m al o with
   | some r=>some r
   | none=>match mapQ P tm m al o with
     | some r=>some r
     | none=>match strQ P tm m al o with
       | some r=>some r
       | none=>match arrQ P E.tail tm m al o with
         | some r=>some r
         | none=>callQ E.pcs tm m al o
theorem pureP_ok {P:Program} {E:Env P C} {n:Nat} {tm:Tm} {m:List (Ck C)} {a:Act} (h:ActOK (ads m) n tm a) (hg:GlOK m) {al:List (Nat×Bool)} (ha:AlOK tm al) {o:Oper} {ps:List Prop} {r:SV}
 (hp:pureP E tm m al o=some (ps,r)) (hps:allOf ps) (w:World):(execOp a.eval o).run P w=.ok (.value (r.va (ads m))) w:=by
 unfold pureP at hp
 split at hp
 · rename_i r' hr
   simp only [Option.some.injEq] at hp;subst hp
   exact wrapP_ok h hg ha hr w
 split at hp
 · rename_i r' hr
   simp only [Option.some.injEq] at hp;subst hp
   exact pickP_ok h hg ha hr hps w
 · exact pev_ok hp hps (fun _=>rfl) (fun c=>(nth m c).on_onB) (ev_ok h hg ha) w
def Reads (P:Program) (S:Sx) (w0:World) (m:List (Ck C)) (o:Oper) (a:Act) (v:Value):Prop:=
 ∀ w,MemOK S w0 w m→(execOp a.eval o).run P w=.ok (.value v) w∨
   ∃ f vals,(execOp a.eval o).run P w=.ok (.enter f vals) w∧Calls P f vals w fun e w'=>e=.returned v∧MemOK S w0 w' m
theorem pureQ_ok {P:Program} {S:Sx} {w0:World} {E:Env P C} {n:Nat} {tm:Tm} {m:List (Ck C)} {a:Act} (h:ActOK (ads m) n tm a) {al:List (Nat×Bool)} (ha:AlOK tm al) {o:Oper} {ps:List Prop} {r:SV}
 (hp:pureQ E tm m al o.op=some (ps,r)) (hps:allOf ps):Reads P S w0 m o a (r.va (ads m)):=by
 intro w hm
 unfold pureQ at hp
 split at hp
 · rename_i r' hr
   simp only [Option.some.injEq] at hp;subst hp
   exact .inl (lev_ok h hm ha hr hps)
 · split at hp
   · rename_i r' hr
     simp only [Option.some.injEq] at hp;subst hp
     exact .inl (eqQ_ok h hm ha hr hps)
   · split at hp
     · rename_i r' hr
       simp only [Option.some.injEq] at hp;subst hp
       exact .inl (mapQ_ok h hm ha hr hps)
     · split at hp
       · rename_i r' hr
         simp only [Option.some.injEq] at hp;subst hp
         exact .inl (strQ_ok h hm ha hr hps)
       · split at hp
         · rename_i r' hr
           simp only [Option.some.injEq] at hp;subst hp
           exact .inl (arrQ_ok h hm ha hr hps)
         · exact .inr (callQ_ok h hm ha hp hps)
theorem Reads.wp {P:Program} {S:Sx} {w0 w:World} {m:List (Ck C)} {o:Oper} {a:Act} {v:Value} (h:Reads P S w0 m o a v) (hm:MemOK S w0 w m)
 {next:Act→World→Prop} {Q:Exit→Act→World→Prop} (hn:∀ w',MemOK S w0 w' m→next (a.put o.dst v) w'):o.wp P a w next Q:=by
 unfold Oper.wp
 rcases h w hm with h1 | ⟨f,vals,h1,h2⟩
 · rw [h1];exact hn w hm
 · rw [h1]
   exact h2.mono fun e w' ⟨he,hm'⟩=>by subst he;exact hn w' hm'
def imp:List (Nat×Bool×Bool)→Prop→Prop
 | [],p=>p
 | (_,w,b) :: r,p=>b=w→imp r p
def impT:List (Nat×Bool×Bool)→Prop→Tr
 | [],p=>.lf p
 | (_,w,b) :: r,p=>.imp (b=w) (impT r p)
theorem impT_imp:∀ {cs:List (Nat×Bool×Bool)} {p:Prop},(impT cs p).holds→imp cs p
 | [],_,h=>h
 | (_,_,_) :: _,_,h=>fun e=>impT_imp (h e)
def asks (cs:List (Nat×Bool×Bool)):List Prop→Tr→Tr
 | [],X=>X
 | p :: r,X=>.and (impT cs p) (asks cs r X)
theorem imp_ok:∀ {cs:List (Nat×Bool×Bool)} {p:Prop},imp cs p→holds cs=true→p
 | [],_,h,_=>h
 | (_,w,b) :: r,p,h,hh=>by
   simp only [holds,zn,beq_iff_eq] at hh
   exact imp_ok (h hh.1) hh.2
theorem asks_ok:∀ {cs:List (Nat×Bool×Bool)} {ps:List Prop} {X:Tr},asks cs ps X→X.holds∧(holds cs=true→allOf ps)
 | _,[],_,h=>⟨h,fun _=>trivial⟩
 | _,_ :: _,_,h=>⟨(asks_ok h.2).1,fun hh=>⟨imp_ok (impT_imp h.1) hh,(asks_ok h.2).2 hh⟩⟩
def alOf (cs:List (Nat×Bool×Bool)):List (Nat×Bool):=cs.map fun c=>(c.1,c.2.1)
theorem alOf_ok {tm:Tm} {cs:List (Nat×Bool×Bool)} (h:∀ c∈cs,condAt tm c.1=some c.2.2) (hh:holds cs=true):AlOK tm (alOf cs):=by
 intro p hp
 obtain ⟨c,hc,rfl⟩:=List.mem_map.1 hp
 have:c.2.2=c.2.1:=by
  clear h hp
  induction cs with
  | nil=>cases hc
  | cons x r ih=>
    obtain ⟨t,w,b⟩:=x
    simp only [holds,zn,beq_iff_eq] at hh
    rcases List.mem_cons.1 hc with rfl | hc
    · exact hh.1
    · exact ih hh.2 hc
 rw [h c hc,this]
def callOf:Op→Option Call
 | .call c=>match c.callee with
   | .builtin _=>none
   | _=>some c
 | _=>none
theorem callOf_ok {o:Op} {c:Call} (h:callOf o=some c):o=.call c:=by
 unfold callOf at h
 split at h
 · split at h
   · cases h
   · simp only [Option.some.injEq] at h;rw [h]
 · cases h
def onMaps:Op→Bool
 | .makeMap _ _=>true
 | .mapUpdate _ _ _ _=>true
 | .mapEntry _ _ _=>true
 | .entryStore _ _ _ _=>true
 | .range _ _=>true
 | .next _ _=>true
 | .call c=>match c.callee with
   | .builtin .delete=>true
   | _=>false
 | _=>false
def tailTy (T:Option (Tail C)):Op→Option (Tail C)
 | .box e _=>match T with
   | some T=>match zj e T.ty with
     | true=>some T
     | false=>none
   | none=>none
 | _=>none
def eff1 {P:Program} (E:Env P C) (tm:Tm) (m:List (Ck C)) (o:Op) (K:SV→List (Ck C)→Tr):Tr:=
 match famOf P E.fams tm m [] o with
 | some h=>famT h tm m K
 | none=>match famWOf P E.famw tm m [] o with
   | some h=>famWT P h tm m K
   | none=>match growOf P E.fams tm m [] o with
     | some h=>growT P h tm m K
     | none=>match stoOf P E.fams tm m [] o with
       | some (ps,m')=>conj ps (K .undef m')
       | none=>match callOf o with
         | some c=>callP E.fcs tm m [] c K
         | none=>match onMaps o with
           | true=>mapE P tm m [] o K
           | false=>match tailOf P E.tail tm m [] o with
             | some (ps,m')=>conj ps (K .undef m')
             | none=>match tailTy E.tail o with
               | some T=>boxT P tm m T o K
               | none=>match bldF P tm m o with
                 | some vs=>bldT m vs K
                 | none=>match arrS P tm m o with
                   | some (ps,m')=>conj ps (K .undef m')
                   | none=>match copyS P tm m o with
                     | some (ps,v,m')=>conj ps (K v m')
                     | none=>eev P tm m [] o K
def effG {P:Program} (E:Env P C) (ops:Array Oper) (o:Oper):Nat→Tm→List (Ck C)→(Tm→List (Ck C)→Tr)→Tr
 | fuel,tm,m,K=>match gd ops tm o.guard with
   | .lost=>.no
   | .skip=>match put? E.n tm o.dst [] .undef with
     | some tm'=>K tm' m
     | none=>.no
   | .run []=>eff1 E tm m o.op fun v m'=>match put? E.n tm o.dst [] v with
     | some tm'=>K tm' m'
     | none=>.no
   | .run ((t,_,_) :: _)=>match fuel with
     | 0=>.no
     | fuel+1=>match get tm t with
       | .bool (.tm b)=>.and (.imp (b=true) (fTm (know t true tm) fun tm'=>effG E ops o fuel tm' m K)) (.imp (b=false) (fTm (know t false tm) fun tm'=>effG E ops o fuel tm' m K))
       | _=>.no
theorem eev_ok {P:Program} {S:Sx} {w0 w:World} {n:Nat} {tm:Tm} {m:List (Ck C)} {a:Act} (h:ActOK (ads m) n tm a) (hm:MemOK S w0 w m) {al:List (Nat×Bool)} (ha:AlOK tm al) {o:Oper}
 {K:SV→List (Ck C)→Tr} (hl:eev P tm m al o.op K):Left P S w0 tm m w (execOp a.eval o) K:=by
 obtain ⟨dst,op,ty,pos,after,g⟩:=o
 simp only at hl
 cases op
 case store=>exact eev_store h hm ha hl
 case alloc=>exact eev_alloc hm hl
 case box=>exact eev_box h hm ha hl
 case makeSlice=>exact eev_make h hm ha hl
 case buildSlice=>exact eev_buildSlice h hm ha hl
 case call=>exact eev_append h hm ha hl
 all_goals exact hl.elim
theorem Left.opTo {P:Program} {S:Sx} {w0 w:World} {n:Nat} {tm:Tm} {m:List (Ck C)} {o:Oper} {a:Act} {K:SV→List (Ck C)→Tr} (h:ActOK (ads m) n tm a)
 (hl:Left P S w0 tm m w (execOp a.eval o) K):OpTo P S w0 n tm m o a w K:=by
 obtain ⟨w',m',r,hr,hm',hK,hads,hlen,hlt⟩:=hl.ex
 intro next Q hn
 have ha:ActOK (ads m') n tm a:=by
  rcases hlt with ⟨_,e⟩ | hlt
  · rw [e];exact h
  · exact h.ads hads hlt
 unfold Oper.wp
 rcases hr with hr | ⟨hr,rfl⟩
 · rw [hr];exact hn _ _ _ _ hK hm' ha rfl ⟨hlen,hads⟩
 · rw [hr];exact hn _ _ _ _ hK hm' ha rfl ⟨hlen,hads⟩
theorem eff1_ok {P:Program} {S:Sx} {w0 w:World} {E:Env P C} {o:Oper} {tm:Tm} {m:List (Ck C)} {K:Tm→List (Ck C)→Tr}
 (hs:eff1 E tm m o.op fun v m'=>match put? E.n tm o.dst [] v with | some tm'=>K tm' m' | none=>.no) {a:Act}
 (h:ActOK (ads m) E.n tm a) (hm:MemOK S w0 w m) {next:Act→World→Prop} {Q:Exit→Act→World→Prop}
 (hn:∀ tm' m' a' w',K tm' m'→ActOK (ads m') E.n tm' a'→MemOK S w0 w' m'→(m.length≤m'.length∧∀ k,k<m.length→ads m k=ads m' k)→next a' w'):o.wp P a w next Q:=by
 have fin:OpTo P S w0 E.n tm m o a w (fun v m'=>match put? E.n tm o.dst [] v with | some tm'=>K tm' m' | none=>.no)→o.wp P a w next Q:=by
  intro ho
  refine ho next Q ?_
  intro r m' w' v hK hm' ha' hv hads
  dsimp only at hK
  split at hK <;> try (first | contradiction | exact False.elim hK)
  rename_i tm' hp
  exact hn _ _ _ _ hK (put_ok ha' hp (by simp) _ hv) hm' hads
 have hnil:AlOK tm []:=by intro p hp;cases hp
 unfold eff1 at hs
 split at hs
 · rename_i ht hf
   obtain ⟨v,m',hr,hK,hiff,ha',_,hl,hads⟩:=famT_ok (S:=S) (w0:=w0) h hm.glob hnil hf hs
   refine fin fun next Q hn => ?_
   unfold Oper.wp
   rw [hr w hm]
   exact hn _ _ _ _ hK ((hiff w).1 hm) ha' rfl ⟨hl,fun k hk=>(hads k hk).1⟩
 · split at hs
   · rename_i ht hf
     exact fin ((famWT_ok h hm hnil hf hs).opTo h)
   · split at hs
     · rename_i ht hf
       exact fin ((growT_ok h hm hnil hf hs).opTo h)
     · split at hs
       · rename_i ps m' hf
         exact fin ((stoOf_ok h hm hnil hf hs).opTo h)
       · split at hs
         · rename_i c hc
           obtain ⟨dst,op,ty,pos,after,g⟩:=o
           have e:=callOf_ok hc
           simp only at e
           subst e
           exact fin (callP_ok h hm hnil hs)
         · split at hs
           · exact fin ((mapE_ok h hm hnil hs).opTo h)
           · split at hs
             · rename_i ps m' hf
               exact fin ((tailOf_ok h hm hnil hf hs).opTo h)
             · split at hs
               · exact fin ((boxT_ok h hm hs).opTo h)
               · split at hs
                 · rename_i vs hb
                   exact fin ((bldF_ok h hm hb hs).opTo h)
                 · split at hs
                   · rename_i ps m' hf
                     exact fin ((arrS_ok h hm hf hs).opTo h)
                   · split at hs
                     · rename_i ps v m' hf
                       exact fin ((copyS_ok h hm hf hs).opTo h)
                     · exact fin ((eev_ok h hm hnil hs).opTo h)
theorem effG_ok {P:Program} {S:Sx} {w0 w:World} {E:Env P C} {ops:Array Oper} {o:Oper} {m:List (Ck C)} {K:Tm→List (Ck C)→Tr} {a:Act}
 (hm:MemOK S w0 w m) {next:Act→World→Prop} {Q:Exit→Act→World→Prop}
 (hn:∀ tm' m' a' w',K tm' m'→ActOK (ads m') E.n tm' a'→MemOK S w0 w' m'→(m.length≤m'.length∧∀ k,k<m.length→ads m k=ads m' k)→next a' w'):∀ (fuel:Nat) (tm:Tm),effG E ops o fuel tm m K→ActOK (ads m) E.n tm a→
 (Region.wanted o (yielded ops a.tmps)=true→o.wp P a w next Q)∧(Region.wanted o (yielded ops a.tmps)=false→next (a.put o.dst Go.undef) w)
 | fuel,tm,hs,h=>by
   have h1:∀ hg:gd ops tm o.guard=.skip,∀ tm',put? E.n tm o.dst [] .undef=some tm'→K tm' m→(Region.wanted o (yielded ops a.tmps)=true→o.wp P a w next Q)∧(Region.wanted o (yielded ops a.tmps)=false→next (a.put o.dst Go.undef) w):=by
    intro hg tm' hp hk
    have hw:=gd_skip h hg
    exact ⟨fun e=>(by rw [hw] at e;cases e),fun _=>hn _ _ _ _ hk (put_ok h hp (by simp) _ rfl) hm ⟨zx _,fun _ _=>rfl⟩⟩
   have h2:gd ops tm o.guard=.run []→(eff1 E tm m o.op fun v m'=>match put? E.n tm o.dst [] v with | some tm'=>K tm' m' | none=>.no)→
    (Region.wanted o (yielded ops a.tmps)=true→o.wp P a w next Q)∧(Region.wanted o (yielded ops a.tmps)=false→next (a.put o.dst Go.undef) w):=by
    intro hg hk
    obtain ⟨hw,_⟩:=gd_run h hg
    exact ⟨fun _=>eff1_ok hk h hm hn,fun e=>(by rw [hw] at e;cases e)⟩
   cases fuel with
   | zero=>
     unfold effG at hs
     split at hs <;> try (first | contradiction | exact False.elim hs)
     · rename_i hg
       split at hs <;> try (first | contradiction | exact False.elim hs)
       rename_i tm' hp
       exact h1 hg tm' hp hs
     · rename_i hg
       exact h2 hg hs
   | succ fuel=>
     unfold effG at hs
     split at hs <;> try (first | contradiction | exact False.elim hs)
     · rename_i hg
       split at hs <;> try (first | contradiction | exact False.elim hs)
       rename_i tm' hp
       exact h1 hg tm' hp hs
     · rename_i hg
       exact h2 hg hs
     · simp only at hs
       split at hs <;> try (first | contradiction | exact False.elim hs)
       rename_i b ht
       have hk:=know_ok h ht
       cases b with
       | true=>exact effG_ok hm hn fuel _ (by simpa only [fTm_eq] using hs.1 rfl) hk
       | false=>exact effG_ok hm hn fuel _ (by simpa only [fTm_eq] using hs.2 rfl) hk
def famQ {P:Program} (E:Env P C) (ops:Array Oper) (o:Oper):Nat→Tm→List (Ck C)→(Tm→List (Ck C)→Tr)→Tr
 | fuel,tm,m,K=>match gd ops tm o.guard with
   | .lost=>.no
   | .skip=>match put? E.n tm o.dst [] .undef with
     | some tm'=>K tm' m
     | none=>.no
   | .run []=>match famOf P E.fams tm m [] o.op with
     | some h=>famT h tm m fun v m'=>match put? E.n tm o.dst [] v with
       | some tm'=>fM m' fun m'=>K tm' m'
       | none=>.no
     | none=>.no
   | .run ((t,_,_) :: _)=>match fuel with
     | 0=>.no
     | fuel+1=>match get tm t with
       | .bool (.tm b)=>.and (.imp (b=true) (fTm (know t true tm) fun tm'=>famQ E ops o fuel tm' m K)) (.imp (b=false) (fTm (know t false tm) fun tm'=>famQ E ops o fuel tm' m K))
       | _=>.no
theorem famQ_ok {P:Program} {S:Sx} {w0:World} {E:Env P C} {ops:Array Oper} {o:Oper} {m:List (Ck C)} {K:Tm→List (Ck C)→Tr} {a:Act} (hg:GlOK m):∀ (fuel:Nat) (tm:Tm),(famQ E ops o fuel tm m K).holds→ActOK (ads m) E.n tm a→
 ∃ v tm' m',((Region.wanted o (yielded ops a.tmps)=true∧∀ w,MemOK S w0 w m→(execOp a.eval o).run P w=.ok (.value v) w)∨(Region.wanted o (yielded ops a.tmps)=false∧v=Go.undef))∧
   (K tm' m').holds∧ActOK (ads m') E.n tm' (a.put o.dst v)∧(∀ w,MemOK S w0 w m↔MemOK S w0 w m')∧GlOK m'∧(m.length≤m'.length∧∀ k,k<m.length→ads m k=ads m' k∧nth m' k=nth m k)
 | fuel,tm,hs,h=>by
   have h1:gd ops tm o.guard=.skip→∀ tm',put? E.n tm o.dst [] .undef=some tm'→(K tm' m).holds→_:=fun hgd tm' hp hk=>
    (⟨Go.undef,tm',m,.inr ⟨gd_skip h hgd,rfl⟩,hk,put_ok h hp (by simp) _ rfl,fun _=>Iff.rfl,hg,zx _,fun _ _=>⟨rfl,rfl⟩⟩:
      ∃ v tm' m',((Region.wanted o (yielded ops a.tmps)=true∧∀ w,MemOK S w0 w m→(execOp a.eval o).run P w=.ok (.value v) w)∨(Region.wanted o (yielded ops a.tmps)=false∧v=Go.undef))∧
    (K tm' m').holds∧ActOK (ads m') E.n tm' (a.put o.dst v)∧(∀ w,MemOK S w0 w m↔MemOK S w0 w m')∧GlOK m'∧(m.length≤m'.length∧∀ k,k<m.length→ads m k=ads m' k∧nth m' k=nth m k))
   have h2:gd ops tm o.guard=.run []→∀ ht,famOf P E.fams tm m [] o.op=some ht→(famT ht tm m fun v m'=>match put? E.n tm o.dst [] v with
    | some tm'=>fM m' fun m'=>K tm' m'
    | none=>.no).holds→∃ v tm' m',((Region.wanted o (yielded ops a.tmps)=true∧∀ w,MemOK S w0 w m→(execOp a.eval o).run P w=.ok (.value v) w)∨(Region.wanted o (yielded ops a.tmps)=false∧v=Go.undef))∧
    (K tm' m').holds∧ActOK (ads m') E.n tm' (a.put o.dst v)∧(∀ w,MemOK S w0 w m↔MemOK S w0 w m')∧GlOK m'∧(m.length≤m'.length∧∀ k,k<m.length→ads m k=ads m' k∧nth m' k=nth m k):=by
    intro hgd ht hf hk
    obtain ⟨hw,_⟩:=gd_run h hgd
    obtain ⟨v,m',hr,hK,hiff,ha',hg',hl,hads⟩:=famT_ok (S:=S) (w0:=w0) h hg (al:=[]) (by intro p hp;cases hp) hf hk
    split at hK <;> try (first | contradiction | exact False.elim hK)
    rename_i tm' hp
    rw [fM_eq] at hK
    exact ⟨v.va (ads m'),tm',m',.inl ⟨hw,hr⟩,hK,put_ok ha' hp (by simp) _ rfl,hiff,hg',hl,hads⟩
   cases fuel with
   | zero=>
     unfold famQ at hs
     split at hs <;> try (first | contradiction | exact False.elim hs)
     · rename_i hgd
       split at hs <;> try (first | contradiction | exact False.elim hs)
       rename_i tm' hp
       exact h1 hgd tm' hp hs
     · rename_i hgd
       split at hs <;> try (first | contradiction | exact False.elim hs)
       rename_i ht hf
       exact h2 hgd ht hf hs
   | succ fuel=>
     unfold famQ at hs
     split at hs <;> try (first | contradiction | exact False.elim hs)
     · rename_i hgd
       split at hs <;> try (first | contradiction | exact False.elim hs)
       rename_i tm' hp
       exact h1 hgd tm' hp hs
     · rename_i hgd
       split at hs <;> try (first | contradiction | exact False.elim hs)
       rename_i ht hf
       exact h2 hgd ht hf hs
     · simp only at hs
       split at hs <;> try (first | contradiction | exact False.elim hs)
       rename_i b ht
       have hk:=know_ok h ht
       cases b with
       | true=>exact famQ_ok hg fuel _ (by simpa only [fTm_eq] using hs.1 rfl) hk
       | false=>exact famQ_ok hg fuel _ (by simpa only [fTm_eq] using hs.2 rfl) hk
theorem memEq {S:Sx} {w0:World} {m m':List (Ck C)} (h:∀ w,MemOK S w0 w m↔MemOK S w0 w m'):(fun w=>MemOK S w0 w m)=(fun w=>MemOK S w0 w m'):=funext fun w=>propext (h w)
def stepP {P:Program} (E:Env P C) (ops:Array Oper) (o:Oper) (tm:Tm) (m:List (Ck C)) (K:Tm→List (Ck C)→Tr):Tr:=
 match gd ops tm o.guard with
 | .lost=>.no
 | .skip=>match put? E.n tm o.dst [] .undef with
   | some tm'=>K tm' m
   | none=>.no
 | .run cs=>match pureP E tm m (alOf cs) o with
   | some (ps,v)=>match put? E.n tm o.dst cs v with
     | some tm'=>asks cs ps (K tm' m)
     | none=>.no
   | none=>match famOf P E.fams tm m (alOf cs) o.op with
     | some _=>effG E ops o 8 tm m K
     | none=>match pureQ E tm m (alOf cs) o.op with
       | some (ps,v)=>match put? E.n tm o.dst cs v with
         | some tm'=>asks cs ps (K tm' m)
         | none=>.no
       | none=>effG E ops o 8 tm m K
def sops {P:Program} (E:Env P C) (ops:Array Oper):List Oper→Tm→List (Ck C)→(Tm→List (Ck C)→Tr)→Tr
 | [],tm,m,K=>K tm m
 | o :: r,tm,m,K=>stepP E ops o tm m fun tm' m'=>fTm1 tm' fun tm'=>fM m' fun m'=>sops E ops r tm' m' K
theorem stepP_ok {P:Program} {S:Sx} {w0 w:World} {E:Env P C} {ops:Array Oper} {o:Oper} {tm:Tm} {m:List (Ck C)} {K:Tm→List (Ck C)→Tr} (hs:stepP E ops o tm m K) {a:Act}
 (h:ActOK (ads m) E.n tm a) (hm:MemOK S w0 w m) {next:Act→World→Prop} {Q:Exit→Act→World→Prop}
 (hn:∀ tm' m' a' w',K tm' m'→ActOK (ads m') E.n tm' a'→MemOK S w0 w' m'→(m.length≤m'.length∧∀ k,k<m.length→ads m k=ads m' k)→next a' w'):
 (Region.wanted o (yielded ops a.tmps)=true→o.wp P a w next Q)∧(Region.wanted o (yielded ops a.tmps)=false→next (a.put o.dst Go.undef) w):=by
 unfold stepP at hs
 split at hs <;> try (first | contradiction | exact False.elim hs)
 · rename_i hg
   have hw:=gd_skip h hg
   split at hs <;> try (first | contradiction | exact False.elim hs)
   rename_i tm' hp
   refine ⟨fun e=>(by rw [hw] at e;cases e),fun _=>hn _ _ _ _ hs (put_ok h hp (by simp) _ rfl) hm ⟨zx _,fun _ _=>rfl⟩⟩
 · rename_i cs hg
   obtain ⟨hw,hcs⟩:=gd_run h hg
   split at hs
   · rename_i ps v hpu
     split at hs <;> try (first | contradiction | exact False.elim hs)
     rename_i tm' hp
     obtain ⟨hK,hps⟩:=asks_ok hs
     refine ⟨fun e => ?_,fun e => ?_⟩
     · rw [hw] at e
       have hr:=pureP_ok h hm.glob (alOf_ok hcs e) hpu (hps e) w
       unfold Oper.wp
       rw [hr]
       refine hn _ _ _ _ hK (put_ok h hp hcs _ ?_) hm ⟨zx _,fun _ _=>rfl⟩
       cases cs with
       | nil=>rfl
       | cons c r=>simp [mkc,SV.va,e]
     · rw [hw] at e
       refine hn _ _ _ _ hK (put_ok h hp hcs _ ?_) hm ⟨zx _,fun _ _=>rfl⟩
       cases cs with
       | nil=>cases e
       | cons c r=>simp [mkc,SV.va,e]
   · split at hs
     · exact effG_ok hm hn 8 tm hs h
     split at hs
     · rename_i ps v hpu
       split at hs <;> try (first | contradiction | exact False.elim hs)
       rename_i tm' hp
       obtain ⟨hK,hps⟩:=asks_ok hs
       refine ⟨fun e => ?_,fun e => ?_⟩
       · rw [hw] at e
         have hr:=pureQ_ok (S:=S) (w0:=w0) h (alOf_ok hcs e) hpu (hps e)
         refine hr.wp hm fun w' hm' => ?_
         refine hn _ _ _ _ hK (put_ok h hp hcs _ ?_) hm' ⟨zx _,fun _ _=>rfl⟩
         cases cs with
         | nil=>rfl
         | cons c r=>simp [mkc,SV.va,e]
       · rw [hw] at e
         refine hn _ _ _ _ hK (put_ok h hp hcs _ ?_) hm ⟨zx _,fun _ _=>rfl⟩
         cases cs with
         | nil=>cases e
         | cons c r=>simp [mkc,SV.va,e]
     · exact effG_ok hm hn 8 tm hs h
end Go.Vx
