/-
  DecodeSays answers true for every input, and turns nothing that was there: the card.
  Conditions: none.
-/
import Derived.Test.YtfjogcklhibboaaGreatDoorM10
import Derived.Test.YtfjogcklhibboaaGreatDoorCards
import Derived.Test.YtfjogcklhibboaaGreatDoorTie
open List renaming mem_cons → vm, mem_of_mem_take → xu, not_mem_nil → sd
set_option linter.unusedVariables false
set_option linter.unusedSimpArgs false
set_option linter.unusedSectionVars false
set_option maxRecDepth 100000
namespace Go.Vx
open Go Go.Proofs
noncomputable section
theorem code1 [Gl0] (hA:∀ i j,i<19→j<19→Gl.A i=Gl.A j→i=j):codeOf (Gl.A 1)=106:=by
 unfold codeOf
 refine (idxE_at sentL _ 101 5 (by rw [sentL_len];decide) (by unfold sentL;rfl) ?_).trans rfl
 intro j hj h
 unfold sentL at h
 rcases j with _ | _ | _ | _ | _ | j
 all_goals first | exact absurd (hA _ _ (by decide) (by decide) (Option.some.inj h)) (by decide) | omega
theorem says_all [Gl0] (hcode:codeOf (Gl.A 1)=106) (m t n:Int) (o:Bool) (b q:Nat) (l:List Int) (nn cc:Nat) (h:nn≤l.length) (ho:o=false→nn=0∧cc=0) (o2:Bool) (b2 q2:Nat) (l2:List Int) (nn2 cc2:Nat) (h2:nn2≤l2.length) (ho2:o2=false→nn2=0∧cc2=0) (bl:Byt8 (l.take nn)) (bl2:Byt8 (l2.take nn2)):
 Tells (C:=C0) Tryz.prog (.fn 4) [⟨b,q,1,false,some o,.rows 5 l⟩,⟨b2,q2,1,false,some o2,.rows 5 l2⟩] [.int .i64 m,.int .i64 t,.int .i64 n,.sl 0 0 nn cc,.sl 1 0 nn2 cc2] (.bool .t):=by
 obtain ⟨c,n',hn,hM⟩:=made_all m t n
 obtain ⟨g1,g2,g3,g4⟩:=cd_facts c
 obtain ⟨ns,n7,nh⟩:=nF_sz c.F
 have H:DcOK c.K n' (fitL n' (l.take nn)) (fitL (nP c.K) (l2.take nn2)):=⟨by omega,hn.1,by omega,by omega,fitL_byt bl,fitL_byt bl2,fitL_len,fitL_len⟩
 rcases md_one c.K n' (fitL n' (l.take nn)) (fitL (nP c.K) (l2.take nn2)) with hT | hT | hX
 · exact saysT_ok c n' hn m t n hM o b q l nn cc h ho o2 b2 q2 l2 nn2 cc2 h2 ho2 bl bl2 hcode H (.inl hT)
 · exact saysT_ok c n' hn m t n hM o b q l nn cc h ho o2 b2 q2 l2 nn2 cc2 h2 ho2 bl bl2 hcode H (.inr hT)
 · exact saysX_ok c n' hn m t n hM o b q l nn cc h ho o2 b2 q2 l2 nn2 cc2 h2 ho2 bl bl2 hcode H hX
end
end Go.Vx
namespace Go.Proofs.YtfjogcklhibboaaGreatDoor.decodeSays
open Go.ChangeShapes Go.WideShapes Go.ChangeAt Go.RowKit Go.Vx
theorem own:ownKnob Tryz.prog.godebug=none:=by kernel_rfl
theorem laidOut:laidOutB Tryz.prog=true:=by kernel_rfl
theorem name8 : (Tryz.f4.name == "runtime.NumGoroutine") = false := by kernel_rfl
abbrev Gs:List Nat:=[4,2,5,0,3,1,6,7,8,9,10,11,12,13,14,15,16,17,18]
def pos19 (g:Nat):Nat:=Gs.findIdx (· == g)
theorem pos19_ok:∀ g,g<19→pos19 g<Gs.length∧Gs.getD (pos19 g) 0=g:=by decide
theorem laid_sent : SentL Tryz.prog "*errors.errorString" 35 Rows.decodeSaysRow.laid Gs := by
 refine ⟨⟨_,rfl⟩,by kernel_rfl,by kernel_rfl,⟨_,rfl⟩,by kernel_rfl,by kernel_rfl,⟨_,rfl⟩,by kernel_rfl,by kernel_rfl,⟨_,rfl⟩,by kernel_rfl,by kernel_rfl,⟨_,rfl⟩,by kernel_rfl,by kernel_rfl,⟨_,rfl⟩,by kernel_rfl,by kernel_rfl,⟨_,rfl⟩,by kernel_rfl,by kernel_rfl,⟨_,rfl⟩,by kernel_rfl,by kernel_rfl,⟨_,rfl⟩,by kernel_rfl,by kernel_rfl,⟨_,rfl⟩,by kernel_rfl,by kernel_rfl,⟨_,rfl⟩,by kernel_rfl,by kernel_rfl,⟨_,rfl⟩,by kernel_rfl,by kernel_rfl,⟨_,rfl⟩,by kernel_rfl,by kernel_rfl,⟨_,rfl⟩,by kernel_rfl,by kernel_rfl,⟨_,rfl⟩,by kernel_rfl,by kernel_rfl,⟨_,rfl⟩,by kernel_rfl,by kernel_rfl,⟨_,rfl⟩,by kernel_rfl,by kernel_rfl,⟨_,rfl⟩,by kernel_rfl,by kernel_rfl,⟨_,rfl⟩,by kernel_rfl,by kernel_rfl,trivial⟩
theorem laid_plain (w:World):laidMetH Tryz.prog Rows.decodeSaysRow.laid w=laidMet Tryz.prog Rows.decodeSaysRow.laid w:=Go.MakeChecks.laidMetH_plain _ _ _ (by kernel_rfl)
theorem mem_ok [Gl] {w:World} {a3:Option Addr} {nn3 cc3:Nat} {l3:List Int} {a4:Option Addr} {nn4 cc4:Nat} {l4:List Int} (b3:IsPart (C0 5) w a3 nn3 cc3 l3) (b4:IsPart (C0 5) w a4 nn4 cc4 l4)
 (hlv:Gl.lv=19) (hG:∀ g,g<19→w.cell? ⟨g,0,none⟩=some (.iface 193 (.pointer (some (Gl.A g))))∧w.heap[(Gl.A g).block]? = some (.cells (Gl.c g) (Gl.t g) (0,0))):
 MemOK (C:=C0) (wrS (C:=C0) [inCk 5 a3 l3,inCk 5 a4 l4]) w w [inCk 5 a3 l3,inCk 5 a4 l4]:=by
 refine memRo rfl (fun x hx ho => ?_) (fun x hx ho => ?_) (more_of (n:=19) (by decide) (by rw [hlv];exact Nat.le_refl 19) hG rfl fun x hx t' y hy => ?_)
 · simp only [vm,sd,or_false] at hx
   rcases hx with rfl | rfl
   · exact b3.ok _ ho
   · exact b4.ok _ ho
 · simp only [vm,sd,or_false] at hx
   rcases hx with rfl | rfl
   · exact b3.lt ho
   · exact b4.lt ho
 · simp only [vm,sd,or_false] at hx
   rcases hx with rfl | rfl
   · obtain ⟨e,_⟩:=Cells.Has.inv hy
     subst e
     exact ⟨trivial,fun b hb=>by cases hb⟩
   · obtain ⟨e,_⟩:=Cells.Has.inv hy
     subst e
     exact ⟨trivial,fun b hb=>by cases hb⟩
theorem walk0 [Gl0] (n0 n1 n2:Int) (a3:Option Addr) (nn3 cc3:Nat) (l3:List Int) (a4:Option Addr) (nn4 cc4:Nat) (l4:List Int) (w:World) (hb3:IsRows (cInt .u8) w a3 nn3 cc3 l3) (hy3:Byt8 l3) (hb4:IsRows (cInt .u8) w a4 nn4 cc4 l4) (hy4:Byt8 l4) (hA:∀ i j,i<19→j<19→Gl.A i=Gl.A j→i=j) (hG:∀ g,g<19→w.cell? ⟨g,0,none⟩=some (.iface 193 (.pointer (some (Gl.A g))))∧w.heap[(Gl.A g).block]? = some (.cells (Gl.c g) (Gl.t g) (0,0))):
 Calls Tryz.prog 4 #[.int .i64 n0,.int .i64 n1,.int .i64 n2,.slice a3 nn3 cc3,.slice a4 nn4 cc4] w fun e w'=>e=.returned (.bool true)∧Below w.heap.size w w':=by
 have b3:IsPart (C0 5) w a3 nn3 cc3 l3:=IsRows.part (c:=C0 5) hb3
 have b4:IsPart (C0 5) w a4 nn4 cc4 l4:=IsRows.part (c:=C0 5) hb4
 have hm:=mem_ok b3 b4 rfl hG
 have:=(says_all (code1 hA) n0 n1 n2 a3.isSome (inB a3) (inQ a3) l3 nn3 cc3 b3.sq.2.1 b3.sq.2.2 a4.isSome (inB a4) (inQ a4) l4 nn4 cc4 b4.sq.2.1 b4.sq.2.2 (fun x hx=>hy3 x (xu hx)) (fun x hx=>hy4 x (xu hx))).calls Tryz.func4 rfl name8 rfl hm
 have e3:SV.va (ads (C:=C0) [inCk 5 a3 l3,inCk 5 a4 l4]) (.sl 0 0 nn3 cc3)=.slice a3 nn3 cc3:=b3.va rfl
 have e4:SV.va (ads (C:=C0) [inCk 5 a3 l3,inCk 5 a4 l4]) (.sl 1 0 nn4 cc4)=.slice a4 nn4 cc4:=b4.va rfl
 have e:SV.vas (ads (C:=C0) [inCk 5 a3 l3,inCk 5 a4 l4]) [.int .i64 n0,.int .i64 n1,.int .i64 n2,.sl 0 0 nn3 cc3,.sl 1 0 nn4 cc4]=[.int .i64 n0,.int .i64 n1,.int .i64 n2,.slice a3 nn3 cc3,.slice a4 nn4 cc4]:=by
  rw [← e3,← e4]
  rfl
 rw [← e]
 exact this
theorem walk (n0 n1 n2:Int) (a3:Option Addr) (nn3 cc3:Nat) (l3:List Int) (a4:Option Addr) (nn4 cc4:Nat) (l4:List Int) (w:World) (hb3:IsRows (cInt .u8) w a3 nn3 cc3 l3) (hy3:Byt8 l3) (hb4:IsRows (cInt .u8) w a4 nn4 cc4 l4) (hy4:Byt8 l4) (hl:laidMetH Tryz.prog Rows.decodeSaysRow.laid w):
 Calls Tryz.prog 4 #[.int .i64 n0,.int .i64 n1,.int .i64 n2,.slice a3 nn3 cc3,.slice a4 nn4 cc4] w fun e w'=>e=.returned (.bool true)∧Below w.heap.size w w':=by
 rw [laid_plain] at hl
 obtain ⟨G,hlv,hA,hG⟩:=gl_of pos19 pos19_ok laid_sent hl
 exact @walk0 ⟨@Gl.A G,@Gl.c G,@Gl.t G⟩ n0 n1 n2 a3 nn3 cc3 l3 a4 nn4 cc4 l4 w hb3 hy3 hb4 hy4 hA hG
theorem door_met (os:Os) (args:Array Value):laidMetH Tryz.prog Rows.decodeSaysRow.laid ((World.doorLaid Tryz.prog 400 os).forCall (fun _ _=>0) ⟨#[],args,[]⟩).memory:=
 laidMetH_of_parts3 (fuel:=8) (laidMet_of_run' 8 (by kernel_rfl) (by kernel_rfl)) (by kernel_rfl) (by kernel_rfl)
theorem lifted (os:Os) (started:os.Started) (H:Type) (enc:TypeId×Value→H):
 ReturnsInHanded {} Tryz.checked os 4 .any (fun w args=>(Rows.decodeSaysSpec.pre enc Tryz.prog Tryz.f4 [] false w args∧laidMetH Tryz.prog Rows.decodeSaysRow.laid w)∧sizedMet enc Tryz.prog Tryz.f4 (OpenSpec.ofChange Rows.decodeSaysSpec) false w args)
  (Rows.decodeSaysSpec.post enc Tryz.prog Tryz.f4 false true false false):=by
 refine returnsInHanded_of_change_and (C:=Tryz.checked) (X:=fun w _=>laidMetH Tryz.prog Rows.decodeSaysRow.laid w) (fun _ _ _ hh h=>h.of_heap hh) own started (by kernel_rfl) Tryz.func4
  (ChangeSpec.witness_shaped (enc:=enc) (C:=Tryz.checked) (os:=os) (X:=fun w _=>laidMetH Tryz.prog Rows.decodeSaysRow.laid w) false (World.doorLaid Tryz.prog 400 os) #[.int .i64 0,.int .i64 0,.int .i64 0,.slice none 0 0,.slice none 0 0] 8 rfl (World.shaped_of_RefB (by kernel_rfl) (by kernel_rfl)) (by kernel_rfl) (by kernel_rfl) (by kernel_rfl) (door_met os _)) ?_
 intro W base args ds gs before hval0 hW _ _ hX _
 have hval:∀ (j:Nat) t v,Tryz.f4.params[j]? = some t→args[j]? = some v→Value.okWide Tryz.prog W .any base t v:=hval0
 have hW':=hW
 obtain ⟨p,q,hA0,hV,rfl,hfz,hnd⟩:=hW
 have hA:DataW.TrodAll enc Tryz.prog W 0 (fun _=>true) true Tryz.f4.params.toList args.toList ds p:=hA0
 rw [Tryz.params4] at hA hval
 obtain ⟨v0,vs0,d0,ds0,p0,q0,hargs,rfl,rfl,h0,r0⟩:=trodAll_cons hA
 obtain ⟨v1,vs1,d1,ds1,p1,q1,rfl,rfl,rfl,h1,r1⟩:=trodAll_cons r0
 obtain ⟨v2,vs2,d2,ds2,p2,q2,rfl,rfl,rfl,h2,r2⟩:=trodAll_cons r1
 obtain ⟨v3,vs3,d3,ds3,p3,q3,rfl,rfl,rfl,h3,r3⟩:=trodAll_cons r2
 obtain ⟨v4,vs4,d4,ds4,p4,q4,rfl,rfl,rfl,h4,r4⟩:=trodAll_cons r3
 obtain ⟨rfl,rfl,rfl⟩:=trodAll_nil r4
 obtain rfl:args = #[v0,v1,v2,v3,v4]:=by cases args;simp_all
 obtain ⟨rfl,rfl⟩:=trodVars_none hV
 obtain ⟨n0,rfl,rfl,rfl,wf0⟩:=open_int Tryz.underlying3 (hval 0 3 v0 rfl rfl) h0
 obtain ⟨n1,rfl,rfl,rfl,wf1⟩:=open_int Tryz.underlying3 (hval 1 3 v1 rfl rfl) h1
 obtain ⟨n2,rfl,rfl,rfl,wf2⟩:=open_int Tryz.underlying3 (hval 2 3 v2 rfl rfl) h2
 have k3:=h3
 have k4:=h4
 have lt3:∀ x∈p3,x.block<W.heap.size:=by obtain ⟨m,hm⟩:=k3;exact DataW.trod_lt m _ _ _ hm
 have lt4:∀ x∈p4,x.block<W.heap.size:=by obtain ⟨m,hm⟩:=k4;exact DataW.trod_lt m _ _ _ hm
 obtain ⟨a3,nn3,cc3,l3,rfl,u3,y3⟩:=bytes_open (hval 3 22 v3 rfl rfl) h3
 obtain ⟨a4,nn4,cc4,l4,rfl,u4,y4⟩:=bytes_open (hval 4 22 v4 rfl rfl) h4
 clear hA0 hval0
 refine (walk n0 n1 n2 a3 nn3 cc3 l3 a4 nn4 cc4 l4 W u3 y3 u4 y4 hX).mono fun e W' ⟨he,bel⟩ => ?_
 subst he
 exact ⟨_,rfl,_,_,_,[],_,[],hW',trodAll_mk1 (shut_bool Tryz.underlying4 _),
  (trodAll_cons_mk (shut_int Tryz.underlying3 wf0) (trodAll_cons_mk (shut_int Tryz.underlying3 wf1) (trodAll_cons_mk (shut_int Tryz.underlying3 wf2) (trodAll_cons_mk (Below.trod laidOut (by kernel_rfl) (ng (by kernel_rfl)) k3 bel lt3) (trodAll_cons_mk (Below.trod laidOut (by kernel_rfl) (ng (by kernel_rfl)) k4 bel lt4) trodAll_mk0))))),rfl,bel.frame _,fun h=>by cases h⟩
theorem over:Rows.DecodeSaysSaid:=
 OpenClaim.holds_of_wide 4 Tryz.f4 rfl rfl rfl rfl rfl rfl rfl ⟨rfl,rfl,rfl,rfl,rfl⟩ rfl rfl rfl rfl rfl (by kernel_rfl) Tryz.func4 (by kernel_rfl)
  (ng (by kernel_rfl)) (by unfold Func.isWrapper;first | (rw [if_pos (by decide +kernel)];kernel_rfl) | (rw [if_neg (by decide +kernel)];exact ⟨rfl,rfl⟩))
  (fun os started H enc _=>lifted os started H enc)
theorem card_holds:Rows.DecodeSaysCardSaid:=
 Claim7.holds_tied_plain_at .later [] [.sentinel, .sentinel, .sentinel, .sentinel, .sentinel, .sentinel, .sentinel, .sentinel, .sentinel, .sentinel, .sentinel, .sentinel, .sentinel, .sentinel, .sentinel, .sentinel, .sentinel, .sentinel, .sentinel] true (true, "36979b4cf9ebbd2ab390f1c41c64c284c0883c0c25aedd9a227f002784c4db9a") true
  over (fun _ h=>by cases h) (by kernel_rfl) (fun _ h=>by cases h) decodeSays_row_tie rfl ⟨rfl,rfl⟩ (by kernel_rfl) rfl
  (fun f fn hf hfn=>by
    obtain rfl:f=4:=Option.some.inj ((show Tryz.prog.funcNamed Rows.decodeSaysRow.func=some 4 by kernel_rfl).symm.trans hf) |>.symm
    obtain rfl:fn=Tryz.f4:=(Option.some.inj (Tryz.func4.symm.trans hfn)).symm
    exact ⟨by kernel_rfl,fun j t ht=>by
     rw [Tryz.params4] at ht
     have h3:t∈[3,22]:=by
      rcases j with _ | _ | _ | _ | _ | j
      · have:=ht;simp at this;subst this;simp
      · have:=ht;simp at this;subst this;simp
      · have:=ht;simp at this;subst this;simp
      · have:=ht;simp at this;subst this;simp
      · have:=ht;simp at this;subst this;simp
      · simp at ht
     simp only [vm,sd,or_false] at h3
     rcases h3 with rfl | rfl
     · exact (show Tryz.prog.wantsStandIn 3=false by kernel_rfl)
     · exact (show Tryz.prog.wantsStandIn 22=false by kernel_rfl)⟩)
  (by kernel_rfl)
#print axioms card_holds
end Go.Proofs.YtfjogcklhibboaaGreatDoor.decodeSays
