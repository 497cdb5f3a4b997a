/-
  DecodeNear answers true for every input, and turns nothing that was there: the card.
  Conditions: none.
-/
import Derived.Test.YtfjogcklhibboaaGreatDoorM9
import Derived.Test.YtfjogcklhibboaaGreatDoorM10
import Derived.Test.YtfjogcklhibboaaGreatDoorCards
import Derived.Test.YtfjogcklhibboaaGreatDoorTie
open List renaming mem_cons → vm, mem_of_mem_take → xu, not_mem_nil → sd
open Nat renaming le_refl → zw
set_option linter.unusedVariables false
set_option linter.unusedSimpArgs false
set_option linter.unusedSectionVars false
set_option maxRecDepth 100000
namespace Go.Vx
open Go Go.Proofs
noncomputable section
theorem near_all [Gl] (m t n:Int) (o:Bool) (b q:Nat) (l:List Int) (nn cc:Nat) (h:nn≤l.length) (ho:o=false→nn=0∧cc=0) (o2:Bool) (b2 q2:Nat) (l2:List Int) (nn2 cc2:Nat) (h2:nn2≤l2.length) (ho2:o2=false→nn2=0∧cc2=0) (o3:Bool) (b3 q3:Nat) (l3:List Int) (nn3 cc3:Nat) (h3:nn3≤l3.length) (ho3:o3=false→nn3=0∧cc3=0) (bl:Byt8 (l.take nn)) (bl2:∀ x∈l2.take nn2,inR .i64 x) (hb2:nn2≤9223372036854775807) (bl3:Byt8 (l3.take nn3)):
 Tells (C:=C0) Tryz.prog (.fn 7) [⟨b,q,1,false,some o,.rows 5 l⟩,⟨b2,q2,1,false,some o2,.rows 3 l2⟩,⟨b3,q3,1,false,some o3,.rows 5 l3⟩] [.int .i64 m,.int .i64 t,.int .i64 n,.sl 0 0 nn cc,.sl 1 0 nn2 cc2,.sl 2 0 nn3 cc3] (.bool .t):=by
 obtain ⟨c,n',hn,hM⟩:=made_all m t n
 exact near_ok c n' hn m t n hM o b q l nn cc h ho o2 b2 q2 l2 nn2 cc2 h2 ho2 o3 b3 q3 l3 nn3 cc3 h3 ho3 bl bl2 bl3
end
end Go.Vx
namespace Go.Proofs.YtfjogcklhibboaaGreatDoor.decodeNear
open Go.ChangeShapes Go.WideShapes Go.ChangeAt Go.RowKit Go.Vx
theorem own:ownKnob Tryz.prog.godebug=none:=by kernel_rfl
theorem laidOut:laidOutB Tryz.prog=true:=by kernel_rfl
theorem name8 : (Tryz.f7.name == "runtime.NumGoroutine") = false := by kernel_rfl
def pos6 (g:Nat):Nat:=match g with
 | 0=>3
 | 1=>5
 | 2=>1
 | 3=>4
 | 4=>0
 | 5=>2
 | g=>g
theorem pos6_ok:∀ g,g<6→pos6 g < [4,2,5,0,3,1].length∧[4,2,5,0,3,1].getD (pos6 g) 0=g:=by decide
theorem laid_sent : SentL Tryz.prog "*errors.errorString" 35 Rows.decodeNearRow.laid [4, 2, 5, 0, 3, 1] := by
 refine ⟨⟨_,rfl⟩,by kernel_rfl,by kernel_rfl,⟨_,rfl⟩,by kernel_rfl,by kernel_rfl,⟨_,rfl⟩,by kernel_rfl,by kernel_rfl,⟨_,rfl⟩,by kernel_rfl,by kernel_rfl,⟨_,rfl⟩,by kernel_rfl,by kernel_rfl,⟨_,rfl⟩,by kernel_rfl,by kernel_rfl,trivial⟩
theorem laid_plain (w:World):laidMetH Tryz.prog Rows.decodeNearRow.laid w=laidMet Tryz.prog Rows.decodeNearRow.laid w:=Go.MakeChecks.laidMetH_plain _ _ _ (by kernel_rfl)
theorem mem_ok [Gl] {w:World} {a3:Option Addr} {nn3 cc3:Nat} {l3:List Int} {a4:Option Addr} {nn4 cc4:Nat} {l4:List Int} {a5:Option Addr} {nn5 cc5:Nat} {l5:List Int} (b3:IsPart (C0 5) w a3 nn3 cc3 l3) (b4:IsPart (C0 3) w a4 nn4 cc4 l4) (b5:IsPart (C0 5) w a5 nn5 cc5 l5)
 (hlv:Gl.lv=6) (hG:∀ g,g<6→w.cell? ⟨g,0,none⟩=some (.iface 193 (.pointer (some (Gl.A g))))∧w.heap[(Gl.A g).block]? = some (.cells (Gl.c g) (Gl.t g) (0,0))):
 MemOK (C:=C0) (wrS (C:=C0) [inCk 5 a3 l3,inCk 3 a4 l4,inCk 5 a5 l5]) w w [inCk 5 a3 l3,inCk 3 a4 l4,inCk 5 a5 l5]:=by
 refine memRo rfl (fun x hx ho => ?_) (fun x hx ho => ?_) (more_of (n:=6) (zw 6) (by rw [hlv];exact zw 6) hG rfl fun x hx t' y hy => ?_)
 · simp only [vm,sd,or_false] at hx
   rcases hx with rfl | rfl | rfl
   · exact b3.ok _ ho
   · exact b4.ok _ ho
   · exact b5.ok _ ho
 · simp only [vm,sd,or_false] at hx
   rcases hx with rfl | rfl | rfl
   · exact b3.lt ho
   · exact b4.lt ho
   · exact b5.lt ho
 · simp only [vm,sd,or_false] at hx
   rcases hx with rfl | rfl | rfl
   · obtain ⟨e,_⟩:=Cells.Has.inv hy
     subst e
     exact ⟨trivial,fun b hb=>by cases hb⟩
   · obtain ⟨e,_⟩:=Cells.Has.inv hy
     subst e
     exact ⟨trivial,fun b hb=>by cases hb⟩
   · obtain ⟨e,_⟩:=Cells.Has.inv hy
     subst e
     exact ⟨trivial,fun b hb=>by cases hb⟩
theorem walk (n0 n1 n2:Int) (a3:Option Addr) (nn3 cc3:Nat) (l3:List Int) (a4:Option Addr) (nn4 cc4:Nat) (l4:List Int) (a5:Option Addr) (nn5 cc5:Nat) (l5:List Int) (w:World) (hb3:IsRows (cInt .u8) w a3 nn3 cc3 l3) (hy3:Byt8 l3) (hb4:IsRows (cInt .i64) w a4 nn4 cc4 l4) (hy4:Int64 nn4 l4) (hb5:IsRows (cInt .u8) w a5 nn5 cc5 l5) (hy5:Byt8 l5) (hl:laidMetH Tryz.prog Rows.decodeNearRow.laid w):
 Calls Tryz.prog 7 #[.int .i64 n0,.int .i64 n1,.int .i64 n2,.slice a3 nn3 cc3,.slice a4 nn4 cc4,.slice a5 nn5 cc5] w fun e w'=>e=.returned (.bool true)∧Below w.heap.size w w':=by
 rw [laid_plain] at hl
 obtain ⟨G,hlv,hA,hG⟩:=gl_of pos6 pos6_ok laid_sent hl
 have b3:IsPart (C0 5) w a3 nn3 cc3 l3:=IsRows.part (c:=C0 5) hb3
 have b4:IsPart (C0 3) w a4 nn4 cc4 l4:=IsRows.part (c:=C0 3) hb4
 have b5:IsPart (C0 5) w a5 nn5 cc5 l5:=IsRows.part (c:=C0 5) hb5
 have hm:=mem_ok b3 b4 b5 hlv hG
 have:=(near_all n0 n1 n2 a3.isSome (inB a3) (inQ a3) l3 nn3 cc3 b3.sq.2.1 b3.sq.2.2 a4.isSome (inB a4) (inQ a4) l4 nn4 cc4 b4.sq.2.1 b4.sq.2.2 a5.isSome (inB a5) (inQ a5) l5 nn5 cc5 b5.sq.2.1 b5.sq.2.2 (fun x hx=>hy3 x (xu hx)) (fun x hx=>hy4.1 x (xu hx)) hy4.2 (fun x hx=>hy5 x (xu hx))).calls Tryz.func7 rfl name8 rfl hm
 have e3:SV.va (ads (C:=C0) [inCk 5 a3 l3,inCk 3 a4 l4,inCk 5 a5 l5]) (.sl 0 0 nn3 cc3)=.slice a3 nn3 cc3:=b3.va rfl
 have e4:SV.va (ads (C:=C0) [inCk 5 a3 l3,inCk 3 a4 l4,inCk 5 a5 l5]) (.sl 1 0 nn4 cc4)=.slice a4 nn4 cc4:=b4.va rfl
 have e5:SV.va (ads (C:=C0) [inCk 5 a3 l3,inCk 3 a4 l4,inCk 5 a5 l5]) (.sl 2 0 nn5 cc5)=.slice a5 nn5 cc5:=b5.va rfl
 have e:SV.vas (ads (C:=C0) [inCk 5 a3 l3,inCk 3 a4 l4,inCk 5 a5 l5]) [.int .i64 n0,.int .i64 n1,.int .i64 n2,.sl 0 0 nn3 cc3,.sl 1 0 nn4 cc4,.sl 2 0 nn5 cc5]=[.int .i64 n0,.int .i64 n1,.int .i64 n2,.slice a3 nn3 cc3,.slice a4 nn4 cc4,.slice a5 nn5 cc5]:=by
  rw [← e3,← e4,← e5]
  rfl
 rw [← e]
 exact this
theorem door_met (os:Os) (args:Array Value):laidMetH Tryz.prog Rows.decodeNearRow.laid ((World.doorLaid Tryz.prog 400 os).forCall (fun _ _=>0) ⟨#[],args,[]⟩).memory:=
 laidMetH_of_parts3 (fuel:=8) (laidMet_of_run' 8 (by kernel_rfl) (by kernel_rfl)) (by kernel_rfl) (by kernel_rfl)
theorem lifted (os:Os) (started:os.Started) (H:Type) (enc:TypeId×Value→H):
 ReturnsInHanded {} Tryz.checked os 7 .any (fun w args=>(Rows.decodeNearSpec.pre enc Tryz.prog Tryz.f7 [] false w args∧laidMetH Tryz.prog Rows.decodeNearRow.laid w)∧sizedMet enc Tryz.prog Tryz.f7 (OpenSpec.ofChange Rows.decodeNearSpec) false w args)
  (Rows.decodeNearSpec.post enc Tryz.prog Tryz.f7 false true false false):=by
 refine returnsInHanded_of_change_and (C:=Tryz.checked) (X:=fun w _=>laidMetH Tryz.prog Rows.decodeNearRow.laid w) (fun _ _ _ hh h=>h.of_heap hh) own started (by kernel_rfl) Tryz.func7
  (ChangeSpec.witness_shaped (enc:=enc) (C:=Tryz.checked) (os:=os) (X:=fun w _=>laidMetH Tryz.prog Rows.decodeNearRow.laid w) false (World.doorLaid Tryz.prog 400 os) #[.int .i64 0,.int .i64 0,.int .i64 0,.slice none 0 0,.slice none 0 0,.slice none 0 0] 8 rfl (World.shaped_of_RefB (by kernel_rfl) (by kernel_rfl)) (by kernel_rfl) (by kernel_rfl) (by kernel_rfl) (door_met os _)) ?_
 intro W base args ds gs before hval0 hW _ _ hX _
 have hval:∀ (j:Nat) t v,Tryz.f7.params[j]? = some t→args[j]? = some v→Value.okWide Tryz.prog W .any base t v:=hval0
 have hW':=hW
 obtain ⟨p,q,hA0,hV,rfl,hfz,hnd⟩:=hW
 have hA:DataW.TrodAll enc Tryz.prog W 0 (fun _=>true) true Tryz.f7.params.toList args.toList ds p:=hA0
 rw [Tryz.params7] at hA hval
 obtain ⟨v0,vs0,d0,ds0,p0,q0,hargs,rfl,rfl,h0,r0⟩:=trodAll_cons hA
 obtain ⟨v1,vs1,d1,ds1,p1,q1,rfl,rfl,rfl,h1,r1⟩:=trodAll_cons r0
 obtain ⟨v2,vs2,d2,ds2,p2,q2,rfl,rfl,rfl,h2,r2⟩:=trodAll_cons r1
 obtain ⟨v3,vs3,d3,ds3,p3,q3,rfl,rfl,rfl,h3,r3⟩:=trodAll_cons r2
 obtain ⟨v4,vs4,d4,ds4,p4,q4,rfl,rfl,rfl,h4,r4⟩:=trodAll_cons r3
 obtain ⟨v5,vs5,d5,ds5,p5,q5,rfl,rfl,rfl,h5,r5⟩:=trodAll_cons r4
 obtain ⟨rfl,rfl,rfl⟩:=trodAll_nil r5
 obtain rfl:args = #[v0,v1,v2,v3,v4,v5]:=by cases args;simp_all
 obtain ⟨rfl,rfl⟩:=trodVars_none hV
 obtain ⟨n0,rfl,rfl,rfl,wf0⟩:=open_int Tryz.underlying3 (hval 0 3 v0 rfl rfl) h0
 obtain ⟨n1,rfl,rfl,rfl,wf1⟩:=open_int Tryz.underlying3 (hval 1 3 v1 rfl rfl) h1
 obtain ⟨n2,rfl,rfl,rfl,wf2⟩:=open_int Tryz.underlying3 (hval 2 3 v2 rfl rfl) h2
 have k3:=h3
 have k4:=h4
 have k5:=h5
 have lt3:∀ x∈p3,x.block<W.heap.size:=by obtain ⟨m,hm⟩:=k3;exact DataW.trod_lt m _ _ _ hm
 have lt4:∀ x∈p4,x.block<W.heap.size:=by obtain ⟨m,hm⟩:=k4;exact DataW.trod_lt m _ _ _ hm
 have lt5:∀ x∈p5,x.block<W.heap.size:=by obtain ⟨m,hm⟩:=k5;exact DataW.trod_lt m _ _ _ hm
 obtain ⟨a3,nn3,cc3,l3,rfl,u3,y3⟩:=bytes_open (hval 3 22 v3 rfl rfl) h3
 obtain ⟨a4,nn4,cc4,l4,rfl,u4,y4⟩:=ints_open (hval 4 33 v4 rfl rfl) h4
 obtain ⟨a5,nn5,cc5,l5,rfl,u5,y5⟩:=bytes_open (hval 5 22 v5 rfl rfl) h5
 clear hA0 hval0
 refine (walk n0 n1 n2 a3 nn3 cc3 l3 a4 nn4 cc4 l4 a5 nn5 cc5 l5 W u3 y3 u4 y4 u5 y5 hX).mono fun e W' ⟨he,bel⟩ => ?_
 subst he
 exact ⟨_,rfl,_,_,_,[],_,[],hW',trodAll_mk1 (shut_bool Tryz.underlying4 _),
  (trodAll_cons_mk (shut_int Tryz.underlying3 wf0) (trodAll_cons_mk (shut_int Tryz.underlying3 wf1) (trodAll_cons_mk (shut_int Tryz.underlying3 wf2) (trodAll_cons_mk (Below.trod laidOut (by kernel_rfl) (ng (by kernel_rfl)) k3 bel lt3) (trodAll_cons_mk (Below.trod laidOut (by kernel_rfl) (ng (by kernel_rfl)) k4 bel lt4) (trodAll_cons_mk (Below.trod laidOut (by kernel_rfl) (ng (by kernel_rfl)) k5 bel lt5) trodAll_mk0)))))),rfl,bel.frame _,fun h=>by cases h⟩
theorem over:Rows.DecodeNearSaid:=
 OpenClaim.holds_of_wide 7 Tryz.f7 rfl rfl rfl rfl rfl rfl rfl ⟨rfl,rfl,rfl,rfl,rfl⟩ rfl rfl rfl rfl rfl (by kernel_rfl) Tryz.func7 (by kernel_rfl)
  (ng (by kernel_rfl)) (by unfold Func.isWrapper;first | (rw [if_pos (by decide +kernel)];kernel_rfl) | (rw [if_neg (by decide +kernel)];exact ⟨rfl,rfl⟩))
  (fun os started H enc _=>lifted os started H enc)
theorem card_holds:Rows.DecodeNearCardSaid:=
 Claim7.holds_tied_plain_at .later [] [.sentinel, .sentinel, .sentinel, .sentinel, .sentinel, .sentinel] true (true, "36979b4cf9ebbd2ab390f1c41c64c284c0883c0c25aedd9a227f002784c4db9a") true
  over (fun _ h=>by cases h) (by kernel_rfl) (fun _ h=>by cases h) decodeNear_row_tie rfl ⟨rfl,rfl⟩ (by kernel_rfl) rfl
  (fun f fn hf hfn=>by
    obtain rfl:f=7:=Option.some.inj ((show Tryz.prog.funcNamed Rows.decodeNearRow.func=some 7 by kernel_rfl).symm.trans hf) |>.symm
    obtain rfl:fn=Tryz.f7:=(Option.some.inj (Tryz.func7.symm.trans hfn)).symm
    exact ⟨by kernel_rfl,fun j t ht=>by
     rw [Tryz.params7] at ht
     have h3:t∈[3,22,33]:=by
      rcases j with _ | _ | _ | _ | _ | _ | j
      · have:=ht;simp at this;subst this;simp
      · have:=ht;simp at this;subst this;simp
      · have:=ht;simp at this;subst this;simp
      · have:=ht;simp at this;subst this;simp
      · have:=ht;simp at this;subst this;simp
      · have:=ht;simp at this;subst this;simp
      · simp at ht
     simp only [vm,sd,or_false] at h3
     rcases h3 with rfl | rfl | rfl
     · exact (show Tryz.prog.wantsStandIn 3=false by kernel_rfl)
     · exact (show Tryz.prog.wantsStandIn 22=false by kernel_rfl)
     · exact (show Tryz.prog.wantsStandIn 33=false by kernel_rfl)⟩)
  (by kernel_rfl)
#print axioms card_holds
end Go.Proofs.YtfjogcklhibboaaGreatDoor.decodeNear
