/-
  The symbolic evaluator: a region that draws its order and has effects.
  The symbolic evaluator, sixteenth part: regions, code, loops.
  The symbolic evaluator, seventeenth part: functions and their contracts.
  The symbolic evaluator, eighteenth part: which function a method of an interface value is.
  The symbolic evaluator, nineteenth part: from a contract to a law's own call.
  The symbolic evaluator, twenty-third part: what a row's laid sentinels give a walk, a whole list of them.
  A slice of structs that came in, az a row of chunks.
  Inputs that hold slices: a struct's own slices, slices of slices; the frame that also tells what the input's blocks hold.
  The symbolic evaluator, twentieth part: the walk of a frame with marks among its deferred calls, and of a frame of a round.
  The symbolic evaluator, twenty-first part: the walk of a frame that calls yield, that is a round's, or that ranges over a function.
  The symbolic evaluator, twenty-second part: a range over a function, its iterator and its rounds gone through in one walk.
  Conditions: none.
-/
import Derived.Test.YtfjogcklhibboaaGreatDoorM3
import Derived.Below
import Derived.Stop.LaidErr
import Derived.ProofKit
import Derived.OpenShut
import Derived.ChangeArms
import Derived.MakeChecks
import Derived.Deep.Slices
import Derived.Deep.Strs
import Derived.Handed
import Derived.Deep.Matrix
import Derived.RangeFuncRecord
import Derived.OrdersIn
import Derived.TacticsIn
open Array renaming ext' → xm, getElem?_append_left → pr, getElem?_eq_none → wg, replicate → ut, setIfInBounds_comm → tj
open Bool renaming and_eq_true → zn, false_eq_true → we, not_eq_true' → yp, or_eq_true → xw, or_false → sw
open List renaming all_eq_true → uw, getD_eq_getElem?_getD → zy, getElem?_eq_getElem → zt, mapM_cons → ou, map_cons → wx, mem_append → uf, mem_cons_of_mem → yv, mem_cons_self → xe, mem_of_getElem? → tx, mem_singleton → wj
open Nat renaming beq → zj, ble → vz, blt → xz, eq_of_beq_eq_true → zp, le_of_ble_eq_true → xf, le_refl → zx, le_trans → xk, lt_of_lt_of_le → zk, lt_or_ge → vu, ne_of_beq_eq_false → xl, sub_zero → uh
open Option renaming getD_some → xy, map_some → yk
set_option linter.unusedVariables false
set_option linter.unusedSimpArgs false
set_option linter.unusedSectionVars false
namespace Go.Vx
open Go
section
variable {P:Program} {ops:Array Oper} {T:Array Bool→World→Prop} {T0 Cl:World→Prop} {Q:Exit→Act→World→Prop} {E:Nat→Bool}
def wpAT (P:Program) (ops:Array Oper) (T:Array Bool→World→Prop) (Q:Exit→Act→World→Prop):Nat→Array Bool→Act→World→Prop
 | 0,listed,a,w=>T listed w∧Region.ready .any ops listed=[]∧Q .normal a w
 | fuel+1,listed,a,w=>
   T listed w∧(Region.ready .any ops listed=[]→Q .normal a w)∧
   ∀ i∈Region.ready .any ops listed,wpOp P ops Q i (wpAT P ops T Q fuel (listed.setIfInBounds i true)) a w
theorem wpAT_any:∀ (fuel:Nat) (listed:Array Bool) (a:Act) (w:World),wpAT P ops T Q fuel listed a w→wpAny P .any ops Q fuel listed a w
 | 0,_,_,_,h=>⟨h.2.1,h.2.2⟩
 | fuel+1,_,_,_,h=>⟨h.2.1,fun i hi=>wpOp_mono (fun a' w' hk=>wpAT_any fuel _ a' w' hk) (h.2.2 i hi)⟩
def YieldsT (P:Program) (ops:Array Oper) (T0:World→Prop) (o:Oper) (v:Value) (a:Act):Prop:=
 (Region.wanted o (yielded ops a.tmps)=true∧∀ w,T0 w→(execOp a.eval o).run P w=.ok (.value v) w)∨
 (Region.wanted o (yielded ops a.tmps)=false∧v=undef)
theorem YieldsT.of_same {o:Oper} {v:Value} {a a':Act} (hy:YieldsT P ops T0 o v a) (he:execOp a'.eval o=execOp a.eval o)
 (hw:Region.wanted o (yielded ops a'.tmps)=Region.wanted o (yielded ops a.tmps)):YieldsT P ops T0 o v a':=by
 unfold YieldsT at *;rw [he,hw];exact hy
theorem YieldsT.wpOp {i:Nat} {o:Oper} {v:Value} {a:Act} (hi:ops[i]? = some o) (hy:YieldsT P ops T0 o v a) {K:Act→World→Prop} {w:World} (hw':T0 w) (h:K (a.put o.dst v) w):wpOp P ops Q i K a w:=by
 unfold Go.wpOp
 simp only [hi]
 rcases hy with ⟨hw,hv⟩ | ⟨hw,rfl⟩
 · simp only [hw,if_true,Oper.wp,hv w hw',Oper.upon];exact .inl h
 · simp only [hw,we,if_false];exact h
def Hy (P:Program) (ops:Array Oper) (E:Nat→Bool) (T:Array Bool→World→Prop) (Cl:World→Prop) (Q:Exit→Act→World→Prop):Nat→Array Bool→Act→Prop
 | 0,listed,a=>Region.ready .any ops listed=[]∧∀ w,Cl w→Q .normal a w
 | fuel+1,listed,a=>
   (Region.ready .any ops listed=[]→∀ w,Cl w→Q .normal a w)∧
   ∀ i∈Region.ready .any ops listed,if E i=true then (∀ w,Cl w→wpOp P ops Q i (wpAT P ops T Q fuel (listed.setIfInBounds i true)) a w)
     else qOp P ops Cl i (Hy P ops E T Cl Q fuel (listed.setIfInBounds i true)) a
theorem getD_set_le {l:Array Bool} {i j:Nat} (h:l.getD j false=true):(l.setIfInBounds i true).getD j false=true:=by
 by_cases hij:i=j
 · subst hij
   rcases vu i l.size with h' | h'
   · simp [h']
   · simp [wg h'] at h
 · rw [getD_set_ne false hij];exact h
theorem Hy_sound:∀ (fuel:Nat) (listed:Array Bool) (a:Act) (w:World),(∀ l w,(∀ j,listed.getD j false=true→l.getD j false=true)→Cl w→T l w)→Hy P ops E T Cl Q fuel listed a→Cl w→wpAT P ops T Q fuel listed a w
 | 0,_,_,_,hCT,h,hw=>⟨hCT _ _ (fun _ h=>h) hw,h.1,h.2 _ hw⟩
 | fuel+1,listed,a,w,hCT,h,hw=>by
   refine ⟨hCT _ _ (fun _ h=>h) hw,fun h0=>h.1 h0 _ hw,fun i hi => ?_⟩
   have:=h.2 i hi
   split at this
   · exact this w hw
   · exact wpOp_of_qOp hw (fun a' w' hw' hk=>Hy_sound fuel _ a' w' (fun l w hl hc=>hCT l w (fun j hj=>hl j (getD_set_le hj)) hc) hk hw') this
theorem wpOp_put' {j:Nat} {oi oj:Oper} {v:Value} (hj:ops[j]? = some oj) (hap:oi.apart ops oj=true) (hsj:∀ cs b,oj.op≠.select cs b)
 (hQ:∀ c a w,Q (.panic c) (a.put oi.dst v) w→Q (.panic c) a w) {Y:Act→Prop} (hY:∀ a,Y a→∀ u,Y (a.put oj.dst u)) (hYd:∀ a,Y a→∀ d,Y { a with defers:=d :: a.defers }) {K:Act→World→Prop} {a:Act} {w:World}
 (hy:Y a) (h:wpOp P ops Q j K (a.put oi.dst v) w):wpOp P ops Q j (fun a' w'=>Y a'∧K (a'.put oi.dst v) w') a w:=by
 obtain ⟨h1,h2,h3⟩:=Oper.apart_spec hap
 unfold wpOp at *
 simp only [hj] at *
 rw [wanted_put oj a oi.dst v h1] at h
 split
 · rename_i hw
   simp only [hw,if_true] at h
   rcases h with h | ⟨hasks,hlets⟩
   case inr=>exact .inr ⟨by unfold Oper.asks at *;rw [execOp_put oj hsj a oi.dst v h1] at hasks;exact hasks,hlets⟩
   refine .inl ?_
   unfold Oper.wp at *
   rw [execOp_put oj hsj a oi.dst v h1] at h
   generalize (execOp a.eval oj).run P w=r at *
   cases r with
   | ok n w'=>
     cases n <;> simp only [Oper.upon] at h ⊢
     case value u=>exact ⟨hY a hy u,by rw [← Act.put_comm a v u h2];exact h⟩
     case skip=>exact ⟨hY a hy _,by rw [← Act.put_comm a v undef h2];exact h⟩
     case defer d=>
      refine ⟨hY _ (hYd a hy d) _,?_⟩
      rw [← Act.put_comm _ v undef h2,← Act.put_defers]
      exact h
     case enter f args=>
      refine Calls.mono h fun e w'' he => ?_
      cases e with
      | returned u=>exact ⟨hY a hy u,by rw [← Act.put_comm a v u h2];exact he⟩
      | panicked c=>exact hQ _ _ _ he
      | outgrown=>exact he
     case row row args=>exact Rows.mono h fun u w'' he=>⟨hY a hy u,by rw [← Act.put_comm a v u h2];exact he⟩
   | halt x w'=>
     cases x <;> simp only [Oper.upon] at h ⊢
     case panic u=>exact hQ _ _ _ h
 · rename_i hw
   simp only [hw] at h
   exact ⟨hY a hy _,by rw [← Act.put_comm a v undef h2];exact h⟩
theorem qOp_put' {j:Nat} {oi oj:Oper} {v:Value} (hj:ops[j]? = some oj) (hap:oi.apart ops oj=true)
 (hsj:∀ cs b,oj.op≠.select cs b) {Y:Act→Prop} (hY:∀ a,Y a→∀ u,Y (a.put oj.dst u)) {K:Act→Prop} {a:Act}
 (hy:Y a) (h:qOp P ops Cl j K (a.put oi.dst v)):
 qOp P ops Cl j (fun a'=>Y a'∧K (a'.put oi.dst v)) a:=by
 obtain ⟨h1,h2,h3⟩:=Oper.apart_spec hap
 unfold qOp at *
 simp only [hj] at *
 rw [wanted_put oj a oi.dst v h1] at h
 split
 · rename_i hw
   simp only [hw,if_true] at h
   obtain ⟨u,hu,hn⟩:=h
   refine ⟨u,fun w hw' => ?_,hY a hy u,by rw [← Act.put_comm a v u h2];exact hn⟩
   have:=hu w hw'
   unfold Oper.quietAt at *
   rwa [execOp_put oj hsj a oi.dst v h1] at this
 · rename_i hw
   simp only [hw] at h
   exact ⟨hY a hy _,by rw [← Act.put_comm a v undef h2];exact h⟩
theorem ready_no {i:Nat} {oj:Oper} {listed:Array Bool} (hi:listed.getD i true=false) (hall:∀ e∈oj.after,Region.binds .any e=true→listed.getD e.on false=true):∀ e∈oj.after,Region.binds .any e=true→e.on≠i:=by
 intro e he hb heq
 have h1:=hall e he hb
 rw [heq] at h1
 rcases vu i listed.size with h' | h'
 · simp [h'] at hi h1;rw [hi] at h1;cases h1
 · simp [wg h'] at h1
theorem YieldsT.qOp (hCT:∀ w,Cl w→T0 w) {i:Nat} {o:Oper} {v:Value} {a:Act} (hi:ops[i]? = some o) (hy:YieldsT P ops T0 o v a) {K:Act→Prop} (h:K (a.put o.dst v)):qOp P ops Cl i K a:=by
 unfold Go.qOp
 simp only [hi]
 rcases hy with ⟨hw,hv⟩ | ⟨hw,rfl⟩
 · simp only [hw,if_true];exact ⟨v,fun w hw=>by unfold Oper.quietAt;rw [hv w (hCT w hw)];exact ⟨rfl,rfl⟩,h⟩
 · simp only [hw,we,if_false];exact h
theorem sub_step {i j:Nat} {oj:Oper} {listed Z:Array Bool} (hZ:∀ j oj,ops[j]? = some oj→j≠i→Z.getD j false=false→∃ e∈oj.after,Region.binds .any e=true∧Z.getD e.on false=false)
 (hoj:ops[j]? = some oj) (hji:j≠i) (hall:∀ e∈oj.after,Region.binds .any e=true→listed.getD e.on false=true) (hLZ:∀ j,listed.getD j false=true→Z.getD j false=true):
 ∀ k,(listed.setIfInBounds j true).getD k false=true→Z.getD k false=true:=by
 have hjZ:Z.getD j false=true:=by
  cases hz:Z.getD j false with
  | true=>rfl
  | false=>
    obtain ⟨e,he,hb,hez⟩:=hZ j oj hoj hji hz
    have:=hLZ e.on (hall e he hb)
    rw [hez] at this;cases this
 intro k hk
 by_cases hjk:j=k
 · subst hjk;exact hjZ
 · rw [getD_set_ne false hjk] at hk;exact hLZ k hk
theorem wpAT_first {i:Nat} {oi:Oper} {v:Value} (Z:Array Bool) (hZ:∀ j oj,ops[j]? = some oj→j≠i→Z.getD j false=false→∃ e∈oj.after,Region.binds .any e=true∧Z.getD e.on false=false)
 (hT:∀ l w,(∀ j,l.getD j false=true→Z.getD j false=true)→T l w→T0 w) (hTi:∀ l w,T (l.setIfInBounds i true) w→T l w) (hi:ops[i]? = some oi) (hsel:∀ (j:Nat) (o:Oper) cs b,ops[j]? = some o→o.op≠.select cs b)
 (hQ:∀ c a w,Q (.panic c) (a.put oi.dst v) w→Q (.panic c) a w):
 ∀ (fuel:Nat) (listed:Array Bool) (a:Act) (w:World),
   (∀ j oj,ops[j]? = some oj→j≠i→listed.getD j true=false→(∀ e∈oj.after,Region.binds .any e=true→e.on≠i)→oi.apart ops oj=true)→
   (∀ j,listed.getD j false=true→Z.getD j false=true)→i∈Region.ready .any ops listed→YieldsT P ops T0 oi v a→
   wpAT P ops T Q fuel (listed.setIfInBounds i true) (a.put oi.dst v) w→wpAT P ops T Q (fuel+1) listed a w:=by
 intro fuel
 induction fuel with
 | zero=>
   intro listed a w _ hLZ hr hy H
   refine ⟨hTi _ _ H.1,fun h=>(by rw [h] at hr;cases hr),fun j hj => ?_⟩
   by_cases hji:j=i
   · subst hji;exact hy.wpOp hi (hT _ _ hLZ (hTi _ _ H.1)) H
   · have:=ready_mono hj hji
     rw [H.2.1] at this
     cases this
 | succ fuel ih=>
   intro listed a w hfree hLZ hr hy H
   refine ⟨hTi _ _ H.1,fun h=>(by rw [h] at hr;cases hr),fun j hj => ?_⟩
   by_cases hji:j=i
   · subst hji;exact hy.wpOp hi (hT _ _ hLZ (hTi _ _ H.1)) H
   · have h1:=H.2.2 j (ready_mono hj hji)
     obtain ⟨hjun,oj,hoj,hall⟩:=mem_ready.1 hj
     have hnot:=ready_no (mem_ready.1 hr).1 hall
     have hap:=hfree j oj hoj hji hjun hnot
     have hfree':∀ k ok,ops[k]? = some ok→k≠i→(listed.setIfInBounds j true).getD k true=false→
      (∀ e∈ok.after,Region.binds .any e=true→e.on≠i)→oi.apart ops ok=true:=fun k ok hk hki hun hno=>by
      refine hfree k ok hk hki ?_ hno
      by_cases hjk:j=k
      · subst hjk;exact hjun
      · rw [getD_set_ne true hjk] at hun;exact hun
     have h2:=wpOp_put' hoj hap (fun cs b=>hsel j oj cs b hoj) hQ (Y:=fun a=>YieldsT P ops T0 oi v a)
      (fun a hy u=>hy.of_same (execOp_put oi (fun cs b=>hsel i oi cs b hi) a oj.dst u (Oper.apart_spec hap).2.2) (wanted_put oi a oj.dst u (Oper.apart_spec hap).2.2))
      (fun a hy d=>hy.of_same rfl rfl) hy h1
     refine wpOp_mono (fun a' w' h3=>ih (listed.setIfInBounds j true) a' w' hfree' (sub_step hZ hoj hji hall hLZ) (ready_mono hr (Ne.symm hji)) h3.1 ?_) h2
     rw [tj _ _ hji]
     exact h3.2
theorem Hy_first_P (hCT:∀ w,Cl w→T0 w) (Z:Array Bool) {i:Nat} {oi:Oper} {v:Value} (hZ:∀ j oj,ops[j]? = some oj→j≠i→Z.getD j false=false→∃ e∈oj.after,Region.binds .any e=true∧Z.getD e.on false=false)
 (hT:∀ l w,(∀ j,l.getD j false=true→Z.getD j false=true)→T l w→T0 w) (hTi:∀ l w,T (l.setIfInBounds i true) w→T l w) (hi:ops[i]? = some oi) (hsel:∀ (j:Nat) (o:Oper) cs b,ops[j]? = some o→o.op≠.select cs b) (hEi:E i=false)
 (hQ:∀ c a w,Q (.panic c) (a.put oi.dst v) w→Q (.panic c) a w):
 ∀ (fuel:Nat) (listed:Array Bool) (a:Act),
   (∀ j oj,ops[j]? = some oj→j≠i→listed.getD j true=false→(∀ e∈oj.after,Region.binds .any e=true→e.on≠i)→oi.apart ops oj=true)→
   (∀ j,listed.getD j false=true→Z.getD j false=true)→i∈Region.ready .any ops listed→YieldsT P ops T0 oi v a→
   Hy P ops E T Cl Q fuel (listed.setIfInBounds i true) (a.put oi.dst v)→Hy P ops E T Cl Q (fuel+1) listed a:=by
 intro fuel
 induction fuel with
 | zero=>
   intro listed a _ _ hr hy H
   refine ⟨fun h=>(by rw [h] at hr;cases hr),fun j hj => ?_⟩
   by_cases hji:j=i
   · subst hji;rw [if_neg (by simp [hEi])];exact hy.qOp hCT hi H
   · have:=ready_mono hj hji
     rw [H.1] at this
     cases this
 | succ fuel ih=>
   intro listed a hfree hLZ hr hy H
   refine ⟨fun h=>(by rw [h] at hr;cases hr),fun j hj => ?_⟩
   by_cases hji:j=i
   · subst hji;rw [if_neg (by simp [hEi])];exact hy.qOp hCT hi H
   · have h1:=H.2 j (ready_mono hj hji)
     obtain ⟨hjun,oj,hoj,hall⟩:=mem_ready.1 hj
     have hnot:=ready_no (mem_ready.1 hr).1 hall
     have hap:=hfree j oj hoj hji hjun hnot
     have hfree':∀ k ok,ops[k]? = some ok→k≠i→(listed.setIfInBounds j true).getD k true=false→
      (∀ e∈ok.after,Region.binds .any e=true→e.on≠i)→oi.apart ops ok=true:=fun k ok hk hki hun hno=>by
      refine hfree k ok hk hki ?_ hno
      by_cases hjk:j=k
      · subst hjk;exact hjun
      · rw [getD_set_ne true hjk] at hun;exact hun
     have hr':=ready_mono hr (Ne.symm hji)
     split at h1
     · rename_i hE
       rw [if_pos hE]
       intro w hw
       have h2:=wpOp_put' hoj hap (fun cs b=>hsel j oj cs b hoj) hQ (Y:=fun a=>YieldsT P ops T0 oi v a)
        (fun a hy u=>hy.of_same (execOp_put oi (fun cs b=>hsel i oi cs b hi) a oj.dst u (Oper.apart_spec hap).2.2) (wanted_put oi a oj.dst u (Oper.apart_spec hap).2.2))
        (fun a hy d=>hy.of_same rfl rfl) hy (h1 w hw)
       refine wpOp_mono (fun a' w' h3 => ?_) h2
       refine wpAT_first Z hZ hT hTi hi hsel hQ fuel _ a' w' hfree' (sub_step hZ hoj hji hall hLZ) hr' h3.1 ?_
       rw [tj _ _ hji]
       exact h3.2
     · rename_i hE
       rw [if_neg hE]
       have h2:=qOp_put' hoj hap (fun cs b=>hsel j oj cs b hoj) (Y:=fun a=>YieldsT P ops T0 oi v a)
        (fun a hy u=>hy.of_same (execOp_put oi (fun cs b=>hsel i oi cs b hi) a oj.dst u (Oper.apart_spec hap).2.2) (wanted_put oi a oj.dst u (Oper.apart_spec hap).2.2)) hy h1
       refine qOp_mono (fun a' h3=>ih (listed.setIfInBounds j true) a' hfree' (sub_step hZ hoj hji hall hLZ) hr' h3.1 ?_) h2
       rw [tj _ _ hji]
       exact h3.2
theorem Hy_first_Q {i:Nat} {oi:Oper} {v:Value} (hi:ops[i]? = some oi) (hsel:∀ (j:Nat) (o:Oper) cs b,ops[j]? = some o→o.op≠.select cs b) (hEi:E i=false) (Z:Array Bool)
 (hZ:∀ j oj,ops[j]? = some oj→j≠i→Z.getD j false=false→∃ e∈oj.after,Region.binds .any e=true∧Z.getD e.on false=false):
 ∀ (fuel:Nat) (listed:Array Bool) (a:Act),
   (∀ j oj,ops[j]? = some oj→j≠i→listed.getD j true=false→(∀ e∈oj.after,Region.binds .any e=true→e.on≠i)→oi.apart ops oj=true)→
   (∀ j,listed.getD j false=true→Z.getD j false=true)→(∀ j,listed.getD j true=false→Z.getD j false=true→E j=false)→
   i∈Region.ready .any ops listed→YieldsIn P ops Cl oi v a→
   Hy P ops E T Cl Q fuel (listed.setIfInBounds i true) (a.put oi.dst v)→Hy P ops E T Cl Q (fuel+1) listed a:=by
 intro fuel
 induction fuel with
 | zero=>
   intro listed a _ _ _ hr hy H
   refine ⟨fun h=>(by rw [h] at hr;cases hr),fun j hj => ?_⟩
   by_cases hji:j=i
   · subst hji;rw [if_neg (by simp [hEi])];exact hy.qOp hi H
   · have:=ready_mono hj hji
     rw [H.1] at this
     cases this
 | succ fuel ih=>
   intro listed a hfree hLZ hEZ hr hy H
   refine ⟨fun h=>(by rw [h] at hr;cases hr),fun j hj => ?_⟩
   by_cases hji:j=i
   · subst hji;rw [if_neg (by simp [hEi])];exact hy.qOp hi H
   · have h1:=H.2 j (ready_mono hj hji)
     obtain ⟨hjun,oj,hoj,hall⟩:=mem_ready.1 hj
     have hnot:=ready_no (mem_ready.1 hr).1 hall
     have hap:=hfree j oj hoj hji hjun hnot
     have hjZ:Z.getD j false=true:=by
      cases hz:Z.getD j false with
      | true=>rfl
      | false=>
        obtain ⟨e,he,hb,hez⟩:=hZ j oj hoj hji hz
        have:=hLZ e.on (hall e he hb)
        rw [hez] at this;cases this
     have hEj:=hEZ j hjun hjZ
     rw [if_neg (by simp [hEj])] at h1 ⊢
     have hfree':∀ k ok,ops[k]? = some ok→k≠i→(listed.setIfInBounds j true).getD k true=false→
      (∀ e∈ok.after,Region.binds .any e=true→e.on≠i)→oi.apart ops ok=true:=fun k ok hk hki hun hno=>by
      refine hfree k ok hk hki ?_ hno
      by_cases hjk:j=k
      · subst hjk;exact hjun
      · rw [getD_set_ne true hjk] at hun;exact hun
     have hr':=ready_mono hr (Ne.symm hji)
     have h2:=qOp_put' hoj hap (fun cs b=>hsel j oj cs b hoj) (Y:=fun a=>YieldsIn P ops Cl oi v a)
      (fun a hy u=>hy.of_same (execOp_put oi (fun cs b=>hsel i oi cs b hi) a oj.dst u (Oper.apart_spec hap).2.2) (wanted_put oi a oj.dst u (Oper.apart_spec hap).2.2)) hy h1
     refine qOp_mono (fun a' h3=>ih (listed.setIfInBounds j true) a' hfree' ?_ ?_ hr' h3.1 ?_) h2
     · intro k hk
       by_cases hjk:j=k
       · subst hjk;exact hjZ
       · rw [getD_set_ne false hjk] at hk;exact hLZ k hk
     · intro k hk hkz
       by_cases hjk:j=k
       · subst hjk;exact hEj
       · rw [getD_set_ne true hjk] at hk;exact hEZ k hk hkz
     · rw [tj _ _ hji]
       exact h3.2
end
def reach (ops:Array Oper) (i:Nat):Nat→Array Bool→Array Bool
 | 0,Z=>Z
 | n+1,Z=>reach ops i n (((Region.ready .any ops Z).filter fun j=>!(zj j i)).foldl (fun Z j=>Z.setIfInBounds j true) Z)
def allIx (ops:Array Oper) (f:Nat→Bool):Bool:=(List.range ops.size).all f
def effs:PTree→List Nat
 | .nil=>[]
 | .e i r=>i :: effs r
 | .f i r=>i :: effs r
 | .p _ r=>effs r
 | .q _ r=>effs r
 | .two i a j _=>i :: j :: effs a
def kW (W:List Nat) (i:Nat):Bool:=W.contains i
def reachOK (ops:Array Oper) (W:List Nat) (i:Nat) (listed Z:Array Bool):Bool:=
 allIx ops (fun j=>zj j i || Z.getD j false || (((ops[j]?).map fun o=>o.after.any fun e=>Region.binds .any e && !(Z.getD e.on false)).getD true)) &&
 allIx ops (fun j=>(!(listed.getD j false) || Z.getD j false) && (listed.getD j true || !(Z.getD j false) || !kW W j))
def lates:PTree→List Nat
 | .nil=>[]
 | .f i r=>i :: lates r
 | .p _ r=>lates r
 | .q _ r=>lates r
 | .e _ r=>lates r
 | .two _ a _ b=>lates a ++ lates b
def reachP (ops:Array Oper) (L:List Nat) (late:Bool) (i:Nat) (listed Z:Array Bool):Bool:=
 allIx ops (fun j=>zj j i || Z.getD j false || (((ops[j]?).map fun o=>o.after.any fun e=>Region.binds .any e && !(Z.getD e.on false)).getD true)) &&
 allIx ops (fun j=>!(listed.getD j false) || Z.getD j false) && (late || L.all fun f=>!(Z.getD f false)) && !(L.contains i)
def planOK (ops:Array Oper) (W L:List Nat):Bool→PTree→Array Bool→Bool
 | _,.nil,listed=>(Region.ready .any ops listed).isEmpty
 | late,.p i r,listed=>(Region.ready .any ops listed).contains i && Region.free .any ops listed i && !kW W i &&
    reachP ops L late i listed (if late || L.isEmpty then ut ops.size true else reach ops i ops.size listed) && planOK ops W L late r (listed.setIfInBounds i true)
 | late,.q i r,listed=>(Region.ready .any ops listed).contains i && Region.free .any ops listed i && !kW W i && reachOK ops W i listed (reach ops i ops.size listed) && planOK ops W L late r (listed.setIfInBounds i true)
 | late,.e i r,listed=>(match Region.ready .any ops listed with
    | [j]=>zj j i
    | _=>false) && kW W i && planOK ops W L late r (listed.setIfInBounds i true)
 | _,.f i r,listed=>(match Region.ready .any ops listed with
    | [j]=>zj j i
    | _=>false) && kW W i && L.contains i && planOK ops W L true r (listed.setIfInBounds i true)
 | late,.two i a j b,listed=>(match Region.ready .any ops listed with
    | [x,y]=>zj x i && zj y j
    | _=>false) && kW W i && kW W j && zj a.len b.len && planOK ops W L late a (listed.setIfInBounds i true) && planOK ops W L late b (listed.setIfInBounds j true)
def planned (ops:Array Oper) (l:PTree):Bool:=Region.noSelect ops && planOK ops (effs l) (lates l) false l (ut ops.size false) && zj l.len ops.size
def findPlan (id:Nat):List (Nat×List Nat×List Tk)→Option (List Nat×PTree)
 | []=>none
 | (k,F,l) :: r=>if zj k id then some (F,PTree.of l) else findPlan id r
variable {C:Nat→Codec}
def frozen (tm:Tm):List Nat→List Nat
 | []=>[]
 | x :: r=>match xz x 1000000 with
   | true=>x :: frozen tm r
   | false=>match get tm (x - 1000000) with
     | .ptr c _ _=>c :: frozen tm r
     | _=>frozen tm r
def inL (k:Nat):List Nat→Bool
 | []=>false
 | x :: r=>zj x k || inL k r
def levF (P:Program) (tm:Tm) (m:List (Ck C)) (F:List Nat) (m0:List (Ck C)) (G:List Nat) (al:List (Nat×Bool)) (o:Op):Ans:=
 match o with
 | .load t a=>match ev tm m al a with
   | some (.ptr c i f)=>if inL c F && xz c m0.length then match loadSV P m0 t c i f with
      | some (ps,v)=>if SV.lt m0.length v then some (ps,v) else none
      | none=>none
     else if inL c G then loadSV P m t c i f else none
   | some (.gp g)=>match aggTy P t,(C g).gv with
     | some false,some v=>some ([],v)
     | _,_=>none
   | _=>none
 | _=>none
def stepC {P:Program} (E:Env P C) (ops:Array Oper) (F:List Nat) (m0:List (Ck C)) (G:List Nat) (o:Oper) (tm:Tm) (m:List (Ck C)) (K:Tm→Tr):Tr:=
 match gd ops tm o.guard with
 | .lost=>.no
 | .skip=>match put? E.n tm o.dst [] .undef with
   | some tm'=>K tm'
   | none=>.no
 | .run cs=>match pureP E tm m (alOf cs) o with
   | some (ps,v)=>match put? E.n tm o.dst cs v with
     | some tm'=>asks cs ps (K tm')
     | none=>.no
   | none=>match levF P tm m F m0 G (alOf cs) o.op with
     | some (ps,v)=>match put? E.n tm o.dst cs v with
       | some tm'=>asks cs ps (K tm')
       | none=>.no
     | none=>match cs with
       | []=>.no
       | _ :: _=>match put? E.n tm o.dst [] .undef with
         | some tm'=>asks cs [False] (K tm')
         | none=>.no
def stays (m0 m:List (Ck C)):List Nat→Tr→Tr
 | [],X=>X
 | c :: r,X=>.and (.lf (nth m c=nth m0 c)) (stays m0 m r X)
def inMem (F:List Nat) (m:List (Ck C)):Tr:=
 match memLt m.length m && F.all fun c=>xz c m.length with
 | true=>.yes
 | false=>.no
def stepL {P:Program} (E:Env P C) (ops:Array Oper) (o:Oper) (tm:Tm) (m:List (Ck C)) (K:Tm→List (Ck C)→Tr):Tr:=
 match gd ops tm o.guard with
 | .lost=>.no
 | .skip=>match put? E.n tm o.dst [] .undef with
   | some tm'=>K tm' m
   | none=>.no
 | .run cs=>match famOf P E.fams tm m (alOf cs) o.op with
   | some _=>famQ E ops o 8 tm m K
   | none=>match pureQ E tm m (alOf cs) o.op with
     | some (ps,v)=>match put? E.n tm o.dst cs v with
       | some tm'=>asks cs ps (K tm' m)
       | none=>.no
     | none=>.no
def famP {P:Program} (E:Env P C) (F:List Nat) (m0:List (Ck C)) (tm:Tm) (m:List (Ck C)) (o:Oper):Option (FamHit C):=
 match o.guard with
 | none=>match famOf P E.fams tm m [] o.op with
   | some h=>match inL h.c F && xz h.c m0.length with
     | true=>some h
     | false=>none
   | none=>none
 | some _=>none
def splanG {P:Program} (E:Env P C) (ops:Array Oper) (F:List Nat) (m0:List (Ck C)) (G:List Nat):PTree→Tm→List (Ck C)→(Tm→List (Ck C)→Tr)→Tr
 | .nil,tm,m,K=>K tm m
 | .p i r,tm,m,K=>match ops[i]? with
   | some o=>match famP E F m0 tm m o with
     | some h=>famT h tm m fun v m'=>match put? E.n tm o.dst [] v with
       | some tm'=>fTm1 tm' fun tm'=>splanG E ops F m0 (m.length :: G) r tm' m' K
       | none=>.no
     | none=>stepC E ops F m0 G o tm m fun tm'=>fTm1 tm' fun tm'=>splanG E ops F m0 G r tm' m K
   | none=>.no
 | .q i r,tm,m,K=>match ops[i]? with
   | some o=>stepL E ops o tm m fun tm' m'=>fTm1 tm' fun tm'=>splanG E ops F m0 [] r tm' m' K
   | none=>.no
 | .e i r,tm,m,K=>match ops[i]? with
   | some o=>stepP E ops o tm m fun tm' m'=>fTm1 tm' fun tm'=>fM m' fun m'=>stays m0 m' F (splanG E ops F m0 [] r tm' m' K)
   | none=>.no
 | .f i r,tm,m,K=>match ops[i]? with
   | some o=>stepP E ops o tm m fun tm' m'=>fTm1 tm' fun tm'=>fM m' fun m'=>splanG E ops [] m0 [] r tm' m' K
   | none=>.no
 | .two i a j b,tm,m,K=>match ops[i]?,ops[j]? with
   | some o,some o'=>.and (stepP E ops o tm m fun tm' m'=>fTm1 tm' fun tm'=>fM m' fun m'=>stays m0 m' F (splanG E ops F m0 [] a tm' m' K))
      (stepP E ops o' tm m fun tm' m'=>fTm1 tm' fun tm'=>fM m' fun m'=>stays m0 m' F (splanG E ops F m0 [] b tm' m' K))
   | _,_=>.no
def splan {P:Program} (E:Env P C) (ops:Array Oper) (F:List Nat) (m0:List (Ck C)) (l:PTree) (tm:Tm) (m:List (Ck C)) (K:Tm→List (Ck C)→Tr):Tr:=splanG E ops F m0 [] l tm m K
def Stay (F:List Nat) (m0:List (Ck C)) (w:World):Prop:=(∀ c,inL c F=true→c<m0.length→((nth m0 c).on=true→Ck.ok (ads m0) w (nth m0 c))∧∀ t x,(nth m0 c).cells.Has t x→(C t).good w x)∧∀ g v,(C g).gv=some v→w.cell? ⟨g,0,none⟩=some (v.va noAd)
theorem stays_ok {m0 m:List (Ck C)}:∀ {F:List Nat} {X:Tr},stays m0 m F X→X.holds∧∀ c,inL c F=true→nth m c=nth m0 c
 | [],X,h=>⟨h,fun c hc=>by simp [inL] at hc⟩
 | x :: r,X,h=>by
   obtain ⟨h1,h2⟩:=stays_ok h.2
   refine ⟨h1,fun c hc => ?_⟩
   simp only [inL,xw] at hc
   rcases hc with hc | hc
   · rw [← zp hc];exact h.1
   · exact h2 c hc
theorem Stay.of {S:Sx} {w0 w:World} {F:List Nat} {m0 m:List (Ck C)} (hm:MemOK S w0 w m) (hlt:memLt m0.length m0=true) (hs:∀ c,inL c F=true→nth m c=nth m0 c) (ha:∀ k,k<m0.length→ads m0 k=ads m k):Stay F m0 w:=by
 refine ⟨fun c hc hcl=>⟨fun hon => ?_,fun t x hl => ?_⟩,fun g v hv=>(hm.more.gv g v hv).1⟩
 rotate_left
 · have h1:=hs c hc
   rw [← h1] at hl
   exact (hm.more.deep _ (nth_mem (lt_of_alive (Cells.Has.alive hl))) t x hl).1
 have h1:=hs c hc
 cases hl:(nth m0 c).alive with
 | false=>unfold Ck.alive at hl;unfold Ck.ok;split at hl <;> simp_all
 | true=>
   have h2:=hm.ok _ (nth_mem (lt_of_alive (m:=m) (c:=c) (by rw [h1];exact hl))) (by rw [h1];exact hon)
   rw [h1] at h2
   exact Ck.ok_ads (fun k hk=>(ha k hk).symm) (memLt_mem hlt (nth_mem hcl)) h2
theorem loadSV_ck {P:Program} {w:World} {m:List (Ck C)} {c:Nat} (hc:(nth m c).on=true→Ck.ok (ads m) w (nth m c)) {t i f:Nat} {ps:List Prop} {r:SV} (h:loadSV P m t c i f=some (ps,r)) (hp:allOf ps):
 (loadVar t ((ads m c).at i f)).run P w=.ok (r.va (ads m)) w:=by
 exact loadSV_okc hc h hp
def GsOK (F:List Nat) (m0:List (Ck C)) (G:List Nat) (m:List (Ck C)):Prop:=∀ c,inL c G=true→c<m.length∧∀ w,Stay F m0 w→(nth m c).on=true→Ck.ok (ads m) w (nth m c)
theorem GsOK.nil {F:List Nat} {m0 m:List (Ck C)}:GsOK F m0 [] m:=fun c hc=>by simp [inL] at hc
theorem stepC_ok {P:Program} {E:Env P C} {ops:Array Oper} {F:List Nat} {m0:List (Ck C)} {G:List Nat} {o:Oper} {tm:Tm} {m:List (Ck C)} (hg:GlOK m) (hads:∀ k,k<m0.length→ads m0 k=ads m k) (hG:GsOK F m0 G m) {K:Tm→Tr} (hs:stepC E ops F m0 G o tm m K) {a:Act} (h:ActOK (ads m) E.n tm a):
 ∃ v tm',YieldsT P ops (Stay F m0) o v a∧K tm'∧ActOK (ads m) E.n tm' (a.put o.dst v):=by
 unfold stepC at hs
 split at hs <;> try (first | contradiction | exact False.elim hs)
 · rename_i hgd
   have hw:=gd_skip h hgd
   split at hs <;> try (first | contradiction | exact False.elim hs)
   rename_i tm' hp
   exact ⟨Go.undef,tm',.inr ⟨hw,rfl⟩,hs,put_ok h hp (by simp) _ rfl⟩
 · rename_i cs hgd
   obtain ⟨hw,hcs⟩:=gd_run h hgd
   have fin:∀ (ps:List Prop) (v:SV) (tm':Tm),put? E.n tm o.dst cs v=some tm'→asks cs ps (K tm')→(holds cs=true→allOf ps→∀ w,Stay F m0 w→(execOp a.eval o).run P w=.ok (.value (v.va (ads m))) w)→
    ∃ v tm',YieldsT P ops (Stay F m0) o v a∧K tm'∧ActOK (ads m) E.n tm' (a.put o.dst v):=by
    intro ps v tm' hp hs hr
    obtain ⟨hK,hps⟩:=asks_ok hs
    cases e:holds cs with
    | true=>
      refine ⟨v.va (ads m),tm',.inl ⟨by rw [hw,e],fun w hT=>hr e (hps e) w hT⟩,hK,put_ok h hp hcs _ ?_⟩
      cases cs with
      | nil=>rfl
      | cons c r=>simp [mkc,SV.va,e]
    | false=>
      refine ⟨Go.undef,tm',.inr ⟨by rw [hw,e],rfl⟩,hK,put_ok h hp hcs _ ?_⟩
      cases cs with
      | nil=>cases e
      | cons c r=>simp [mkc,SV.va,e]
   split at hs
   · rename_i ps v hpu
     split at hs <;> try (first | contradiction | exact False.elim hs)
     rename_i tm' hp
     exact fin ps v tm' hp hs fun e hps w _=>pureP_ok h hg (alOf_ok hcs e) hpu hps w
   · split at hs
     rotate_left
     · cases cs with
       | nil=>exact False.elim hs
       | cons c1 c2=>
         dsimp only at hs
         split at hs <;> try (first | contradiction | exact False.elim hs)
         rename_i tm' hp
         obtain ⟨hK,hno⟩:=asks_ok hs
         cases e:holds (c1 :: c2) with
         | true=>exact (hno e).1.elim
         | false=>exact ⟨Go.undef,tm',.inr ⟨by rw [hw,e],rfl⟩,hK,put_ok h hp (by simp) _ rfl⟩
     rename_i ps v hpu
     split at hs <;> try (first | contradiction | exact False.elim hs)
     rename_i tm' hp
     refine fin ps v tm' hp hs fun e hps w hT => ?_
     obtain ⟨dst,op,ty,pos,after,g⟩:=o
     simp only at hpu
     cases op <;> simp only [levF] at hpu <;> try contradiction
     rename_i t x
     split at hpu <;> try (first | contradiction | exact False.elim hpu)
     · rename_i c i f he
       split at hpu <;> try (first | contradiction | exact False.elim hpu)
       · rename_i hcF
         simp only [zn] at hcF
         have hcl:c<m0.length:=by simpa using hcF.2
         split at hpu <;> try (first | contradiction | exact False.elim hpu)
         rename_i ps' v' hld
         split at hpu <;> try (first | contradiction | exact False.elim hpu)
         rename_i hvl
         simp only [Option.some.injEq,Prod.mk.injEq] at hpu
         obtain ⟨rfl,rfl⟩:=hpu
         have h1:=ev_ok h hg (alOf_ok hcs e) _ _ he
         have h2:=loadSV_ck (hT.1 c hcF.1 hcl).1 hld hps
         rw [hads c hcl,SV.va_congr hads _ hvl] at h2
         simp [execOp,Instr.loadAt,h1,SV.va,Instr.sureAddr,h2]
       · split at hpu <;> try (first | contradiction | exact False.elim hpu)
         rename_i hcG
         have h1:=ev_ok h hg (alOf_ok hcs e) _ _ he
         have h2:=loadSV_ck ((hG c hcG).2 w hT) hpu hps
         simp [execOp,Instr.loadAt,h1,SV.va,Instr.sureAddr,h2]
     · rename_i g he
       have h1:=ev_ok h hg (alOf_ok hcs e) _ _ he
       split at hpu <;> try (first | contradiction | exact False.elim hpu)
       rename_i v' hag hv
       simp only [Option.some.injEq,Prod.mk.injEq] at hpu
       obtain ⟨_,rfl⟩:=hpu
       have hc:=hT.2 g v' hv
       rw [(C g).gflat v' hv noAd (ads m)] at hc
       have h2:=run_loadVar (P:=P) (w:=w) (a:=⟨g,0,none⟩) hag (vs:=[v'.va (ads m)]) 0 (fun h=>by cases h) (fun _=>by simp) (fun j u hj _ h2=>by
        have:j=0:=by simp at h2;omega
        subst this
        simp only [List.getElem?_cons_zero,Option.some.injEq] at hj
        subst hj
        simpa [Addr.add] using hc)
       simp [execOp,Instr.loadAt,h1,SV.va,Instr.sureAddr,h2]
theorem famS_ok {P:Program} {S:Sx} {w0:World} {E:Env P C} {ops:Array Oper} {F:List Nat} {m0:List (Ck C)} (hm0:memLt m0.length m0=true) {G:List Nat} {tm:Tm} {m:List (Ck C)} {a:Act} (h:ActOK (ads m) E.n tm a) (hg:GlOK m) (hads:∀ k,k<m0.length→ads m0 k=ads m k) (hst:∀ c,inL c F=true→c<m0.length∧nth m c=nth m0 c) (hG:GsOK F m0 G m) {o:Oper} {ht:FamHit C}
 (hf:famP E F m0 tm m o=some ht) {K:SV→List (Ck C)→Tr} (hK:(famT ht tm m K).holds):
 ∃ v m',YieldsT P ops (Stay F m0) o (v.va (ads m')) a∧(K v m').holds∧(∀ w,MemOK S w0 w m↔MemOK S w0 w m')∧ActOK (ads m') E.n tm a∧GlOK m'∧
   (m.length≤m'.length∧∀ k,k<m.length→ads m k=ads m' k∧nth m' k=nth m k)∧GsOK F m0 (m.length :: G) m':=by
 unfold famP at hf
 split at hf <;> try contradiction
 rename_i hgd
 split at hf <;> try contradiction
 rename_i ht' hf'
 split at hf <;> try contradiction
 rename_i hcF
 simp only [Option.some.injEq] at hf
 subst hf
 simp only [zn] at hcF
 obtain ⟨F0,c0,as0,x0⟩:=ht'
 simp only at hcF
 have hcl0:c0<m0.length:=by simpa using hcF.2
 have hst0:=(hst c0 hcF.1).2
 unfold famT at hK
 split at hK <;> try exact hK.elim
 rename_i hlt
 simp only [zn] at hlt
 obtain ⟨hp,hK⟩:=(conj_iff _ _).1 hK
 have hK:=hK _ rfl
 obtain ⟨hc,hon,hx,hrun⟩:=famOf_run h hg (al:=[]) (by intro p hp;cases hp) hf' hp
 simp only at hc hon hx hrun
 have hx':(∃ c∈m,c.cells.Has F0.te x0)∨x0=(C F0.te).dflt:=hx.imp (fun hx=>⟨_,nth_mem hc,hx⟩) id
 have hgood:∀ w,Stay F m0 w→Rw.ok (C F0.t) w (F0.get x0):=fun w hT=>by
  refine F0.good w _ ?_
  rcases hx with hx | hx
  · rw [hst0] at hx;exact (hT.1 _ hcF.1 hcl0).2 _ _ hx
  · rw [hx];exact (C F0.te).dflt_deep.2 w
 generalize hr:F0.get x0=r at hK hgood
 refine ⟨_,_,.inl ⟨?_,fun w hT => ?_⟩,hK,fun w=>⟨fun hm=>(hm.ghost hlt.1 F0 hx' hr).1,MemOK.dropO hlt.1⟩,h.ads (ads_append m _) hlt.2,trivial,⟨by simp,fun k hk=>⟨ads_append m _ k hk,by rw [nth_append,if_pos hk]⟩⟩,?_⟩
 · unfold Region.wanted;rw [hgd]
 · have hgd':=hgood w hT
   have hok:=(hT.1 _ hcF.1 hcl0).1 (by rw [← hst0];exact hon)
   have hok':Ck.ok (ads m) w (nth m c0):=by
    rw [hst0]
    exact Ck.ok_ads hads (memLt_mem hm0 (nth_mem hcl0)) hok
   rw [hrun w hok',hr,ghost_val r m fun ho=>by
    unfold Rw.ok at hgd'
    simp only [ho] at hgd'
    exact hgd']
 · intro k hk
   simp only [inL,xw] at hk
   rcases hk with hk | hk
   · obtain rfl:=zp hk
     refine ⟨by simp,fun w hT ho => ?_⟩
     have hgd:=hgood w hT
     have e:nth (m ++ [(⟨r.b,r.base,(C F0.t).sz,false,some r.on,.rows F0.t r.l⟩:Ck C)]) m.length=⟨r.b,r.base,(C F0.t).sz,false,some r.on,.rows F0.t r.l⟩:=by
      rw [nth_append,if_neg (Nat.lt_irrefl _),if_pos rfl]
     rw [e] at ho ⊢
     have ho:r.on=true:=ho
     unfold Rw.ok at hgd
     simp only [ho] at hgd
     refine ⟨rfl,fun i' hi' f' hf' => ?_⟩
     rw [enc_flat (C F0.t) _ noAd _ f' hf']
     exact hgd i' hi' f' hf'
   · obtain ⟨g1,g2⟩:=hG k hk
     refine ⟨by simp;omega,fun w hT ho => ?_⟩
     rw [nth_append,if_pos g1] at ho ⊢
     exact Ck.ok_ads (ads_append m _) (memLt_mem hlt.1 (nth_mem g1)) (g2 w hT ho)
theorem stepL_ok {P:Program} {S:Sx} {w0:World} {E:Env P C} {ops:Array Oper} {o:Oper} {tm:Tm} {m:List (Ck C)} (hg:GlOK m) {K:Tm→List (Ck C)→Tr} (hs:stepL E ops o tm m K) {a:Act} (h:ActOK (ads m) E.n tm a):
 ∃ v tm' m',YieldsIn P ops (fun w=>MemOK S w0 w m) o v a∧K tm' m'∧ActOK (ads m') E.n tm' (a.put o.dst v)∧(∀ w,MemOK S w0 w m↔MemOK S w0 w m')∧GlOK m'∧(m.length≤m'.length∧∀ k,k<m.length→ads m k=ads m' k∧nth m' k=nth m k):=by
 have same:(∀ w,MemOK S w0 w m↔MemOK S w0 w m)∧GlOK m∧(m.length≤m.length∧∀ k,k<m.length→ads m k=ads m k∧nth m k=nth m k):=⟨fun _=>Iff.rfl,hg,zx _,fun _ _=>⟨rfl,rfl⟩⟩
 unfold stepL at hs
 split at hs <;> try (first | contradiction | exact False.elim hs)
 · rename_i hgd
   have hw:=gd_skip h hgd
   split at hs <;> try (first | contradiction | exact False.elim hs)
   rename_i tm' hp
   exact ⟨Go.undef,tm',m,.inr ⟨hw,rfl⟩,hs,put_ok h hp (by simp) _ rfl,same⟩
 · rename_i cs hgd
   obtain ⟨hw,hcs⟩:=gd_run h hgd
   split at hs
   · obtain ⟨v,tm',m',hr,hK,h',hiff,hg',hl⟩:=famQ_ok (S:=S) (w0:=w0) hg 8 tm hs h
     refine ⟨v,tm',m',?_,hK,h',hiff,hg',hl⟩
     rcases hr with ⟨hw',hr⟩ | hr
     · refine .inl ⟨hw',fun w hm => ?_⟩
       unfold Oper.quietAt;rw [hr w hm];exact ⟨rfl,rfl⟩
     · exact .inr hr
   split at hs <;> try (first | contradiction | exact False.elim hs)
   rename_i ps v hpu
   split at hs <;> try (first | contradiction | exact False.elim hs)
   rename_i tm' hp
   obtain ⟨hK,hps⟩:=asks_ok hs
   cases e:holds cs with
   | true=>
     refine ⟨v.va (ads m),tm',m,.inl ⟨by rw [hw,e],fun w hm => ?_⟩,hK,put_ok h hp hcs _ ?_,same⟩
     · rcases pureQ_ok (S:=S) (w0:=w0) h (alOf_ok hcs e) hpu (hps e) w hm with hr | ⟨f,vals,hr,hc⟩
       · unfold Oper.quietAt;rw [hr];exact ⟨rfl,rfl⟩
       · unfold Oper.quietAt;rw [hr];exact ⟨rfl,hc⟩
     · cases cs with
       | nil=>rfl
       | cons c r=>simp [mkc,SV.va,e]
   | false=>
     refine ⟨Go.undef,tm',m,.inr ⟨by rw [hw,e],rfl⟩,hK,put_ok h hp hcs _ ?_,same⟩
     cases cs with
     | nil=>cases e
     | cons c r=>simp [mkc,SV.va,e]
theorem allIx_ok {ops:Array Oper} {f:Nat→Bool} (h:allIx ops f=true):∀ j,j<ops.size→f j=true:=by
 intro j hj
 exact List.all_eq_true.1 h j (List.mem_range.2 hj)
def TT (L:List Nat) (F:List Nat) (m0:List (Ck C)) (l:Array Bool) (w:World):Prop:=((∃ f∈L,l.getD f false=true)∨Stay F m0 w)∧Stay [] m0 w
theorem reachP_ok {ops:Array Oper} {L:List Nat} {late:Bool} {i:Nat} {listed Z:Array Bool} (hsz:listed.size=ops.size) (h:reachP ops L late i listed Z=true):
 (∀ j oj,ops[j]? = some oj→j≠i→Z.getD j false=false→∃ e∈oj.after,Region.binds .any e=true∧Z.getD e.on false=false)∧
 (∀ j,listed.getD j false=true→Z.getD j false=true)∧(late=true∨∀ f∈L,Z.getD f false=false)∧i∉L:=by
 unfold reachP at h
 simp only [zn,xw,yp,uw] at h
 obtain ⟨⟨⟨h1,h2⟩,h3⟩,h4⟩:=h
 refine ⟨?_,?_,h3,by simpa using h4⟩
 · intro j oj hoj hji hz
   have hj:j<ops.size:=(Array.getElem?_eq_some_iff.1 hoj).1
   have:=allIx_ok h1 j hj
   simp only [hoj,hz,sw,yk,xy,xw] at this
   rcases this with this | this
   · exact absurd (zp this) hji
   · obtain ⟨e,he,hb⟩:=Array.any_eq_true'.1 this
     simp only [zn,yp] at hb
     exact ⟨e,he,hb.1,hb.2⟩
 · intro j hj
   have hjl:j<ops.size:=by
    rcases vu j ops.size with h' | h'
    · exact h'
    · simp [wg (by omega:listed.size≤j)] at hj
   have:=allIx_ok h2 j hjl
   rw [hj] at this
   simpa using this
theorem TT_set {L F:List Nat} {m0:List (Ck C)} {i:Nat} (hi:i∉L) (l:Array Bool) (w:World) (h:TT L F m0 (l.setIfInBounds i true) w):TT L F m0 l w:=by
 refine ⟨?_,h.2⟩
 rcases h.1 with ⟨f,hf,h⟩ | h
 · refine .inl ⟨f,hf,?_⟩
   rw [getD_set_ne false (fun e=>hi (by rw [e];exact hf))] at h
   exact h
 · exact .inr h
theorem Stay.none {S:Sx} {w0 w:World} {m0 m:List (Ck C)} (hm:MemOK S w0 w m):Stay [] m0 w:=⟨fun c hc=>by simp [inL] at hc,fun g v hv=>(hm.more.gv g v hv).1⟩
theorem splan_ok {P:Program} {S:Sx} {w0:World} {E:Env P C} {ops:Array Oper} {W L F0:List Nat} {m0:List (Ck C)} (hm0:memLt m0.length m0=true) {Q:Exit→Act→World→Prop} (hQ:∀ c a w,¬ Q (.panic c) a w) (hns:Region.noSelect ops=true):
 ∀ (l:PTree) (late:Bool) (F G:List Nat) (listed:Array Bool) (tm:Tm) (m:List (Ck C)) (K:Tm→List (Ck C)→Tr) (a:Act),listed.size=ops.size→planOK ops W L late l listed=true→splanG E ops F m0 G l tm m K→GsOK F m0 G m→ActOK (ads m) E.n tm a→GlOK m→
 (∀ k,k<m0.length→ads m0 k=ads m k)→m0.length≤m.length→(∀ c,inL c F=true→c<m0.length∧nth m c=nth m0 c)→(if late then F=[]∧∃ f∈L,listed.getD f false=true else F=F0)→
 (∀ tm' m' a' w',K tm' m'→ActOK (ads m') E.n tm' a'→MemOK S w0 w' m'→(m0.length≤m'.length∧∀ k,k<m0.length→ads m0 k=ads m' k)→Q .normal a' w')→Hy P ops (kW W) (TT L F0 m0) (fun w=>MemOK S w0 w m) Q l.len listed a
 | .nil,late,F,G,listed,tm,m,K,a,_,hp,hs,_,h,_,hads,hle,_,_,hq=>by
   simp only [planOK,List.isEmpty_iff] at hp
   exact ⟨hp,fun w hm=>hq _ _ _ _ hs h hm ⟨hle,hads⟩⟩
 | .p i r,late,F,G,listed,tm,m,K,a,hsz,hp,hs,hG,h,hg,hads,hle,hst,hlt,hq=>by
   simp only [planOK,zn,yp] at hp
   obtain ⟨⟨⟨⟨h1,h2⟩,h3⟩,h5⟩,h4⟩:=hp
   generalize (if (late || L.isEmpty)=true then ut ops.size true else reach ops i ops.size listed)=Z at h5
   obtain ⟨hZ,hLZ,hLL,hiL⟩:=reachP_ok hsz h5
   simp only [splanG] at hs
   split at hs <;> try (first | contradiction | exact False.elim hs)
   rename_i o ho
   have hlt':if late then F=[]∧∃ f∈L,(listed.setIfInBounds i true).getD f false=true else F=F0:=by
    cases late with
    | false=>exact hlt
    | true=>exact ⟨hlt.1,hlt.2.elim fun f hf=>⟨f,hf.1,getD_set_le hf.2⟩⟩
   have hall:∀ (l:Array Bool) (w:World),(∀ k,l.getD k false=true→Z.getD k false=true)→TT L F0 m0 l w→Stay F m0 w:=by
    intro l w hl hT
    cases late with
    | true=>
      obtain ⟨rfl,_⟩:=hlt
      exact hT.2
    | false=>
      simp only [we,if_false] at hlt
      subst hlt
      rcases hT.1 with ⟨f,hf,hT⟩ | hT
      · rcases hLL with hLL | hLL
        · cases hLL
        · have:=hl f hT
          rw [hLL f hf] at this;cases this
      · exact hT
   split at hs
   · rename_i ht hfp
     obtain ⟨v,m',hy,hK,hiff,h',hg',hl,hG'⟩:=famS_ok (S:=S) (w0:=w0) (ops:=ops) hm0 h hg hads hst hG hfp hs
     split at hK <;> try (first | contradiction | exact False.elim hK)
     rename_i tm' hpt
     rw [fTm1_eq] at hK
     have hnext:=splan_ok (S:=S) (w0:=w0) (a:=a.put o.dst (v.va (ads m'))) hm0 hQ hns r late F _ _ tm' m' K (by simp [hsz]) h4 hK hG' (put_ok h' hpt (by simp) _ rfl) hg' (fun k hk=>(hads k hk).trans (hl.2 k (by omega)).1) (by omega) (fun c hc=>⟨(hst c hc).1,(hl.2 c (by have:=(hst c hc).1;omega)).2.trans (hst c hc).2⟩) hlt' hq
     rw [← memEq hiff] at hnext
     exact Hy_first_P (fun w hm=>Stay.of hm hm0 (fun c hc=>(hst c hc).2) hads) Z hZ hall (TT_set hiL) ho (Region.noSelect_spec hns) h3 (fun c a w hc=>absurd hc (hQ _ _ _)) r.len listed a (Region.free_spec ho h2) hLZ (by simpa using h1) hy hnext
   obtain ⟨v,tm',hy,hK,h'⟩:=stepC_ok hg hads hG hs h
   rw [fTm1_eq] at hK
   exact Hy_first_P (fun w hm=>Stay.of hm hm0 (fun c hc=>(hst c hc).2) hads) Z hZ hall (TT_set hiL) ho (Region.noSelect_spec hns) h3 (fun c a w hc=>absurd hc (hQ _ _ _)) r.len listed a (Region.free_spec ho h2) hLZ (by simpa using h1) hy
    (splan_ok hm0 hQ hns r late F _ _ tm' m K _ (by simp [hsz]) h4 hK hG h' hg hads hle hst hlt' hq)
 | .q i r,late,F,G,listed,tm,m,K,a,hsz,hp,hs,hG,h,hg,hads,hle,hst,hlt,hq=>by
   simp only [planOK,zn,yp] at hp
   obtain ⟨⟨⟨⟨h1,h2⟩,h3⟩,h56⟩,h4⟩:=hp
   generalize reach ops i ops.size listed=Z at h56
   unfold reachOK at h56
   obtain ⟨h5,h6⟩:=Bool.and_eq_true_iff.1 h56
   simp only [splanG] at hs
   split at hs <;> try (first | contradiction | exact False.elim hs)
   rename_i o ho
   obtain ⟨v,tm',m',hy,hK,h',hiff,hg',hle',hads'⟩:=stepL_ok (S:=S) (w0:=w0) hg hs h
   rw [fTm1_eq] at hK
   have hlt':if late then F=[]∧∃ f∈L,(listed.setIfInBounds i true).getD f false=true else F=F0:=by
    cases late with
    | false=>exact hlt
    | true=>exact ⟨hlt.1,hlt.2.elim fun f hf=>⟨f,hf.1,getD_set_le hf.2⟩⟩
   have hnext:=splan_ok (S:=S) (w0:=w0) hm0 hQ hns r late F _ _ tm' m' K _ (by simp [hsz]) h4 hK GsOK.nil h' hg' (fun k hk=>(hads k hk).trans (hads' k (by omega)).1) (by omega) (fun c hc=>⟨(hst c hc).1,(hads' c (by have:=(hst c hc).1;omega)).2.trans (hst c hc).2⟩) hlt' hq
   rw [← memEq hiff] at hnext
   refine Hy_first_Q ho (Region.noSelect_spec hns) h3 Z ?_ r.len listed a (Region.free_spec ho h2) ?_ ?_ (by simpa using h1) hy hnext
   · intro j oj hoj hji hz
     have hj:j<ops.size:=(Array.getElem?_eq_some_iff.1 hoj).1
     have:=allIx_ok h5 j hj
     simp only [hoj,hz,sw,yk,xy,xw] at this
     rcases this with this | this
     · exact absurd (zp this) hji
     · obtain ⟨e,he,hb⟩:=Array.any_eq_true'.1 this
       simp only [zn,yp] at hb
       exact ⟨e,he,hb.1,hb.2⟩
   · intro j hj
     have hjl:j<ops.size:=by
      rcases vu j ops.size with h' | h'
      · exact h'
      · simp [wg (by omega:listed.size≤j)] at hj
     have:=(Bool.and_eq_true_iff.1 (allIx_ok h6 j hjl)).1
     rw [hj] at this
     simpa using this
   · intro j hj hz
     have hjl:j<ops.size:=by
      rcases vu j ops.size with h' | h'
      · exact h'
      · simp [wg (by omega:listed.size≤j)] at hj
     have:=(Bool.and_eq_true_iff.1 (allIx_ok h6 j hjl)).2
     rw [hj,hz] at this
     simpa using this
 | .e i r,late,F,G,listed,tm,m,K,a,hsz,hp,hs,hG,h,hg,hads,hle,hst,hlt,hq=>by
   simp only [planOK,zn] at hp
   obtain ⟨⟨h1,h2⟩,h4⟩:=hp
   have hr:Region.ready .any ops listed=[i]:=by
    split at h1
    · rename_i j hj;rw [hj,zp h1]
    · cases h1
   simp only [splanG] at hs
   split at hs <;> try (first | contradiction | exact False.elim hs)
   rename_i o ho
   have hlt':if late then F=[]∧∃ f∈L,(listed.setIfInBounds i true).getD f false=true else F=F0:=by
    cases late with
    | false=>exact hlt
    | true=>exact ⟨hlt.1,hlt.2.elim fun f hf=>⟨f,hf.1,getD_set_le hf.2⟩⟩
   refine ⟨fun h0=>(by rw [hr] at h0;cases h0),fun j hj => ?_⟩
   rw [hr] at hj
   have hji:j=i:=by simpa using hj
   subst hji
   rw [if_pos h2]
   intro w hm
   obtain ⟨g1,g2⟩:=stepP_ok (Q:=Q) (next:=wpAT P ops (TT L F0 m0) Q r.len (listed.setIfInBounds j true)) hs h hm
    (fun tm' m' a' w' hk h' hm' hads'=>by
      simp only [fTm1_eq,fM_eq] at hk
      obtain ⟨hk',hst'⟩:=stays_ok hk
      have hads2:∀ k,k<m0.length→ads m0 k=ads m' k:=fun k hkl=>(hads k hkl).trans (hads'.2 k (by omega))
      refine Hy_sound _ _ _ _ ?_ (splan_ok hm0 hQ hns r late F _ _ tm' m' K a' (by simp [hsz]) h4 hk' GsOK.nil h' hm'.glob hads2 (xk hle hads'.1) (fun c hc=>⟨(hst c hc).1,hst' c hc⟩) hlt' hq) hm'
      intro l w hl hm
      cases late with
      | true=>
        obtain ⟨_,f,hf,hff⟩:=hlt'
        exact ⟨.inl ⟨f,hf,hl f hff⟩,Stay.none hm⟩
      | false=>
        simp only [we,if_false] at hlt
        subst hlt
        exact ⟨.inr (Stay.of hm hm0 hst' hads2),Stay.none hm⟩)
   unfold wpOp
   simp only [ho]
   split
   · rename_i hw;exact .inl (g1 hw)
   · rename_i hw;exact g2 (by simpa using hw)
 | .f i r,late,F,G,listed,tm,m,K,a,hsz,hp,hs,hG,h,hg,hads,hle,hst,hlt,hq=>by
   simp only [planOK,zn] at hp
   obtain ⟨⟨⟨h1,h2⟩,h3⟩,h4⟩:=hp
   have hr:Region.ready .any ops listed=[i]:=by
    split at h1
    · rename_i j hj;rw [hj,zp h1]
    · cases h1
   simp only [splanG] at hs
   split at hs <;> try (first | contradiction | exact False.elim hs)
   rename_i o ho
   have hil:i<listed.size:=by rw [hsz];exact (Array.getElem?_eq_some_iff.1 ho).1
   have hlt':∃ f∈L,(listed.setIfInBounds i true).getD f false=true:=⟨i,by simpa using h3,by simp [hil]⟩
   refine ⟨fun h0=>(by rw [hr] at h0;cases h0),fun j hj => ?_⟩
   rw [hr] at hj
   have hji:j=i:=by simpa using hj
   subst hji
   rw [if_pos h2]
   intro w hm
   obtain ⟨g1,g2⟩:=stepP_ok (Q:=Q) (next:=wpAT P ops (TT L F0 m0) Q r.len (listed.setIfInBounds j true)) hs h hm
    (fun tm' m' a' w' hk h' hm' hads'=>by
      simp only [fTm1_eq,fM_eq] at hk
      have hads2:∀ k,k<m0.length→ads m0 k=ads m' k:=fun k hkl=>(hads k hkl).trans (hads'.2 k (by omega))
      refine Hy_sound _ _ _ _ ?_ (splan_ok hm0 hQ hns r true [] _ _ tm' m' K a' (by simp [hsz]) h4 hk GsOK.nil h' hm'.glob hads2 (xk hle hads'.1) (fun c hc=>by simp [inL] at hc) ⟨rfl,hlt'⟩ hq) hm'
      intro l w hl hm
      obtain ⟨f,hf,hff⟩:=hlt'
      exact ⟨.inl ⟨f,hf,hl f hff⟩,Stay.none hm⟩)
   unfold wpOp
   simp only [ho]
   split
   · rename_i hw;exact .inl (g1 hw)
   · rename_i hw;exact g2 (by simpa using hw)
 | .two i a' j b',late,F,G,listed,tm,m,K,a,hsz,hp,hs,hG,h,hg,hads,hle,hst,hlt,hq=>by
   simp only [planOK,zn] at hp
   obtain ⟨⟨⟨⟨⟨h1,h2⟩,h2'⟩,h5⟩,h4⟩,h4'⟩:=hp
   have h5:=zp h5
   have hr:Region.ready .any ops listed=[i,j]:=by
    split at h1
    · rename_i x y hj
      simp only [zn] at h1
      rw [hj,zp h1.1,zp h1.2]
    · cases h1
   simp only [splanG] at hs
   split at hs <;> try (first | contradiction | exact False.elim hs)
   rename_i o o' ho ho'
   have one:∀ (k:Nat) (ok:Oper) (t:PTree),ops[k]? = some ok→planOK ops W L late t (listed.setIfInBounds k true)=true→
    (stepP E ops ok tm m fun tm' m'=>fTm1 tm' fun tm'=>fM m' fun m'=>stays m0 m' F (splanG E ops F m0 [] t tm' m' K)).holds→
    (∀ (tm':Tm) (m':List (Ck C)) (a2:Act),(splanG E ops F m0 [] t tm' m' K).holds→ActOK (ads m') E.n tm' a2→GlOK m'→(∀ k,k<m0.length→ads m0 k=ads m' k)→m0.length≤m'.length→(∀ c,inL c F=true→c<m0.length∧nth m' c=nth m0 c)→
      (if late then F=[]∧∃ f∈L,(listed.setIfInBounds k true).getD f false=true else F=F0)→Hy P ops (kW W) (TT L F0 m0) (fun w=>MemOK S w0 w m') Q t.len (listed.setIfInBounds k true) a2)→
    ∀ w,MemOK S w0 w m→wpOp P ops Q k (wpAT P ops (TT L F0 m0) Q t.len (listed.setIfInBounds k true)) a w:=by
    intro k ok t ho hp4 hs ih w hm
    have hlt':if late then F=[]∧∃ f∈L,(listed.setIfInBounds k true).getD f false=true else F=F0:=by
     cases late with
     | false=>exact hlt
     | true=>exact ⟨hlt.1,hlt.2.elim fun f hf=>⟨f,hf.1,getD_set_le hf.2⟩⟩
    obtain ⟨g1,g2⟩:=stepP_ok (Q:=Q) (next:=wpAT P ops (TT L F0 m0) Q t.len (listed.setIfInBounds k true)) hs h hm
     (fun tm' m' a' w' hk h' hm' hads'=>by
       simp only [fTm1_eq,fM_eq] at hk
       obtain ⟨hk',hst'⟩:=stays_ok hk
       have hads2:∀ k,k<m0.length→ads m0 k=ads m' k:=fun k hkl=>(hads k hkl).trans (hads'.2 k (by omega))
       refine Hy_sound _ _ _ _ ?_ (ih tm' m' a' hk' h' hm'.glob hads2 (xk hle hads'.1) (fun c hc=>⟨(hst c hc).1,hst' c hc⟩) hlt') hm'
       intro l w hl hm
       cases late with
       | true=>
         obtain ⟨_,f,hf,hff⟩:=hlt'
         exact ⟨.inl ⟨f,hf,hl f hff⟩,Stay.none hm⟩
       | false=>
         simp only [we,if_false] at hlt
         subst hlt
         exact ⟨.inr (Stay.of hm hm0 hst' hads2),Stay.none hm⟩)
    unfold wpOp
    simp only [ho]
    split
    · rename_i hw;exact .inl (g1 hw)
    · rename_i hw;exact g2 (by simpa using hw)
   refine ⟨fun h0=>(by rw [hr] at h0;cases h0),fun k hk => ?_⟩
   rw [hr] at hk
   simp only [List.mem_cons,List.not_mem_nil,or_false] at hk
   rcases hk with rfl | rfl
   · rw [if_pos h2]
     exact one k o a' ho h4 hs.1 fun tm' m' a2 g1 g2 g3 g4 g5 g6 g7=>splan_ok hm0 hQ hns a' late F _ _ tm' m' K a2 (by simp [hsz]) h4 g1 GsOK.nil g2 g3 g4 g5 g6 g7 hq
   · rw [if_pos h2']
     have e:a'.len=b'.len:=h5
     show ∀ w,MemOK S w0 w m→wpOp P ops Q k (wpAT P ops (TT L F0 m0) Q a'.len (listed.setIfInBounds k true)) a w
     rw [e]
     exact one k o' b' ho' h4' hs.2 fun tm' m' a2 g1 g2 g3 g4 g5 g6 g7=>splan_ok hm0 hQ hns b' late F _ _ tm' m' K a2 (by simp [hsz]) h4' g1 GsOK.nil g2 g3 g4 g5 g6 g7 hq
theorem inMem_ok {F:List Nat} {m:List (Ck C)} (h:inMem F m):memLt m.length m=true∧∀ c,inL c F=true→c<m.length:=by
 unfold inMem at h
 split at h
 · rename_i hc
   obtain ⟨h1,h2⟩:=Bool.and_eq_true_iff.1 hc
   refine ⟨h1,fun c hc => ?_⟩
   rw [uw] at h2
   have inl:∀ (F:List Nat),inL c F=true→c∈F:=by
    intro F
    induction F with
    | nil=>intro h;cases h
    | cons x r ih=>
      intro h
      simp only [inL,xw] at h
      rcases h with h | h
      · rw [zp h];simp
      · exact yv _ (ih h)
   have hmem:=inl F hc
   simpa using h2 c hmem
 · exact h.elim
theorem draw_ok {P:Program} (hmix:P.follows .mixedOrders=true) {S:Sx} {w0 w:World} {E:Env P C} {ops:Array Oper} {id:Nat} {Q:Exit→Act→World→Prop} {tm:Tm} {m:List (Ck C)} {K:Tm→List (Ck C)→Tr} {a:Act}
 {F:List Nat} {pl:PTree} (hp:planned ops pl=true) (hin:inMem F m) (hs:splan E ops F m pl tm m K) (h:ActOK (ads m) E.n tm a) (hm:MemOK S w0 w m)
 (hq:∀ tm' m' a' w',K tm' m'→ActOK (ads m') E.n tm' a'→MemOK S w0 w' m'→Q .normal a' w'):(Code.region id ops true).wp P Q a w:=by
 unfold planned at hp
 simp only [zn] at hp
 obtain ⟨⟨h1,h2⟩,h3⟩:=hp
 have h3:=zp h3
 obtain ⟨hm0,hF⟩:=inMem_ok hin
 have key:(Code.region id ops true).wp P (fun e a w=>match e with | .normal=>Q .normal a w | _=>False) a w:=by
  refine wp_region_any hmix ?_
  have:=splan_ok (S:=S) (w0:=w0) hm0 (Q:=fun e a w=>match e with | .normal=>Q .normal a w | _=>False) (fun c a w hc=>hc) (L:=lates pl) (F0:=F) h1 pl false F [] _ tm m K a (by simp) h2 hs GsOK.nil h hm.glob (fun _ _=>rfl) (zx _) (fun c hc=>⟨hF c hc,rfl⟩) rfl (fun tm' m' a' w' hk h' hm' _=>hq _ _ _ _ hk h' hm')
  rw [h3] at this
  exact wpAT_any _ _ _ _ (Hy_sound _ _ _ _ (fun l w _ hm=>⟨.inr (Stay.of hm hm0 (fun _ _=>rfl) (fun _ _=>rfl)),Stay.none hm⟩) this hm.drew)
 refine wp_mono key fun e a w he => ?_
 cases e <;> first | exact he | exact he.elim
end Go.Vx
namespace Go.Vx
open Go
variable {C:Nat→Codec}
theorem sops_ok {P:Program} {S:Sx} {w0:World} {E:Env P C} {ops:Array Oper} {Q:Exit→Act→World→Prop}:∀ {l:List Oper} {tm:Tm} {m:List (Ck C)} {K:Tm→List (Ck C)→Tr} {a:Act} {w:World},
 sops E ops l tm m K→ActOK (ads m) E.n tm a→MemOK S w0 w m→(∀ tm' m' a' w',K tm' m'→ActOK (ads m') E.n tm' a'→MemOK S w0 w' m'→Q .normal a' w')→wpList P ops Q l a w
 | [],tm,m,K,a,w,hs,h,hm,hq=>hq _ _ _ _ hs h hm
 | o :: r,tm,m,K,a,w,hs,h,hm,hq=>by
   obtain ⟨h1,h2⟩:=stepP_ok (Q:=Q) (next:=wpList P ops Q r) hs h hm (fun tm' m' a' w' hk h' hm' _=>by simp only [fTm1_eq,fM_eq] at hk;exact sops_ok hk h' hm' hq)
   unfold wpList
   split
   · rename_i hw;exact .inl (h1 hw)
   · rename_i hw;exact h2 (by simpa using hw)
def stepQ {P:Program} (E:Env P C) (ops:Array Oper) (o:Oper) (tm:Tm) (m:List (Ck C)) (K:Tm→List (Ck C)→Tr):Tr:=
 match gd ops tm o.guard with
 | .lost=>.no
 | .skip=>match put? E.n tm o.dst [] .undef with
   | some tm'=>K tm' m
   | none=>.no
 | .run cs=>match pureP E tm m (alOf cs) o with
   | some (ps,v)=>match put? E.n tm o.dst cs v with
     | some tm'=>asks cs ps (K tm' m)
     | none=>.no
   | none=>match famOf P E.fams tm m (alOf cs) o.op with
     | some _=>famQ E ops o 8 tm m K
     | none=>match pureQ E tm m (alOf cs) o.op with
       | some (ps,v)=>match put? E.n tm o.dst cs v with
         | some tm'=>asks cs ps (K tm' m)
         | none=>.no
       | none=>match cs with
         | []=>.no
         | _ :: _=>match put? E.n tm o.dst [] .undef with
           | some tm'=>asks cs [False] (K tm' m)
           | none=>.no
def sopsQ {P:Program} (E:Env P C) (ops:Array Oper):List Oper→Tm→List (Ck C)→(Tm→List (Ck C)→Tr)→Tr
 | [],tm,m,K=>K tm m
 | o :: r,tm,m,K=>stepQ E ops o tm m fun tm' m'=>fTm1 tm' fun tm'=>sopsQ E ops r tm' m' K
theorem sopsQ_ok {P:Program} {S:Sx} {w0:World} {E:Env P C} {ops:Array Oper} {Q:Act→Prop}:∀ {l:List Oper} {tm:Tm} {m:List (Ck C)} {K:Tm→List (Ck C)→Tr} {a:Act},GlOK m→
 sopsQ E ops l tm m K→ActOK (ads m) E.n tm a→(∀ tm' m' a',K tm' m'→ActOK (ads m') E.n tm' a'→(∀ w,MemOK S w0 w m↔MemOK S w0 w m')→(m.length≤m'.length∧∀ k,k<m.length→ads m k=ads m' k)→Q a')→wpQuiet P ops (fun w=>MemOK S w0 w m) Q l a
 | [],tm,m,K,a,hg,hs,h,hq=>hq _ _ _ hs h (fun _=>Iff.rfl) ⟨zx _,fun _ _=>rfl⟩
 | o :: r,tm,m,K,a,hg,hs,h,hq=>by
   unfold wpQuiet
   simp only [sopsQ] at hs
   unfold stepQ at hs
   split at hs <;> try (first | contradiction | exact False.elim hs)
   · rename_i hgd
     have hw:=gd_skip h hgd
     split at hs <;> try (first | contradiction | exact False.elim hs)
     rename_i tm' hp
     rw [if_neg (by simp [hw])]
     dsimp only at hs
     rw [fTm1_eq] at hs
     exact sopsQ_ok hg hs (put_ok h hp (by simp) _ rfl) hq
   · rename_i cs hgd
     obtain ⟨hw,hcs⟩:=gd_run h hgd
     have fin:∀ (ps:List Prop) (v:SV) (tm':Tm),put? E.n tm o.dst cs v=some tm'→asks cs ps (fTm1 tm' fun tm'=>sopsQ E ops r tm' m K)→
      (holds cs=true→allOf ps→∀ w,MemOK S w0 w m→o.quietAt P a (fun w=>MemOK S w0 w m) w (v.va (ads m)))→
      (if Region.wanted o (yielded ops a.tmps) then o.quiet P a (fun w=>MemOK S w0 w m) (wpQuiet P ops (fun w=>MemOK S w0 w m) Q r) else wpQuiet P ops (fun w=>MemOK S w0 w m) Q r (a.put o.dst Go.undef)):=by
      intro ps v tm' hp hs hr
      obtain ⟨hK,hps⟩:=asks_ok hs
      rw [fTm1_eq] at hK
      cases e:holds cs with
      | true=>
        rw [if_pos (by rw [hw,e])]
        refine ⟨v.va (ads m),hr e (hps e),sopsQ_ok hg hK (put_ok h hp hcs _ ?_) hq⟩
        cases cs with
        | nil=>rfl
        | cons c r=>simp [mkc,SV.va,e]
      | false=>
        rw [if_neg (by rw [hw,e];simp)]
        refine sopsQ_ok hg hK (put_ok h hp hcs _ ?_) hq
        cases cs with
        | nil=>cases e
        | cons c r=>simp [mkc,SV.va,e]
     split at hs
     · rename_i ps v hpu
       split at hs <;> try (first | contradiction | exact False.elim hs)
       rename_i tm' hp
       refine fin ps v tm' hp hs fun e hps w hm => ?_
       have hr:=pureP_ok h hg (alOf_ok hcs e) hpu hps w
       unfold Oper.quietAt;rw [hr];exact ⟨rfl,rfl⟩
     split at hs
     · obtain ⟨v,tm',m',hr,hK,h',hiff,hg',hle,hads⟩:=famQ_ok (S:=S) (w0:=w0) hg 8 tm hs h
       rw [fTm1_eq] at hK
       have hnext:=sopsQ_ok (S:=S) (w0:=w0) (Q:=Q) hg' hK h' (fun tm2 m2 a2 k1 k2 k3 k4=>hq tm2 m2 a2 k1 k2 (fun w=>(hiff w).trans (k3 w)) ⟨xk hle k4.1,fun k hk=>(hads k hk).1.trans (k4.2 k (by omega))⟩)
       rw [← memEq hiff] at hnext
       rcases hr with ⟨hw',hr⟩ | ⟨hw',rfl⟩
       · rw [if_pos hw']
         refine ⟨v,fun w hm => ?_,hnext⟩
         unfold Oper.quietAt;rw [hr w hm];exact ⟨rfl,rfl⟩
       · rw [if_neg (by simp [hw'])]
         exact hnext
     · split at hs
       rotate_left
       · cases cs with
         | nil=>exact False.elim hs
         | cons c1 c2=>
           dsimp only at hs
           split at hs <;> try (first | contradiction | exact False.elim hs)
           rename_i tm' hp
           obtain ⟨hK,hno⟩:=asks_ok hs
           rw [fTm1_eq] at hK
           cases e:holds (c1 :: c2) with
           | true=>exact (hno e).1.elim
           | false=>
             rw [if_neg (by rw [hw,e];simp)]
             exact sopsQ_ok hg hK (put_ok h hp (by simp) _ rfl) hq
       rename_i ps v hpu
       split at hs <;> try (first | contradiction | exact False.elim hs)
       rename_i tm' hp
       refine fin ps v tm' hp hs fun e hps w hm => ?_
       rcases pureQ_ok (S:=S) (w0:=w0) h (alOf_ok hcs e) hpu hps w hm with hr | ⟨f,vals,hr,hc⟩
       · unfold Oper.quietAt;rw [hr];exact ⟨rfl,rfl⟩
       · unfold Oper.quietAt;rw [hr];exact ⟨rfl,hc⟩
inductive Ex where
 | nor
 | exit (id:Nat)
 | ret
def Ex.of:Ex→Exit
 | .nor=>.normal
 | .exit i=>.exit i
 | .ret=>.ret
def firstId:Code→Nat
 | .region id _ _=>id
 | .seq a b=>match firstId a with
   | 0=>firstId b
   | n=>n
 | .block _ c=>firstId c
 | .loop c=>firstId c
 | .scope c=>firstId c
 | _=>0
def writes:Code→List Nat
 | .region _ ops _=>ops.toList.filterMap (·.dst)
 | .seq a b=>writes a ++ writes b
 | .cond _ a b=>writes a ++ writes b
 | .block _ c=>writes c
 | .loop c=>writes c
 | .scope c=>writes c
 | _=>[]
def inList (k:Nat):List Nat→Bool
 | []=>false
 | x :: r=>zj x k || inList k r
def keepTm (ws:List Nat):Tm→Tm
 | []=>[]
 | (k,v) :: r=>match inList k ws with
   | true=>keepTm ws r
   | false=>match v with
     | .cnd _ _=>keepTm (k :: ws) r
     | v=>(k,v) :: keepTm (k :: ws) r
structure Inv' (C:Nat→Codec) where
 id:Nat
 X:Type
 tm:X→Tm
 mem:X→List (Ck C)→List (Ck C)
 inv:X→Prop
 meas:X→Nat
def findInvs (id:Nat):List (Inv' C)→List (Inv' C)
 | []=>[]
 | x :: r=>if zj x.id id then x :: findInvs id r else findInvs id r
def allI:List (Inv' C)→(Inv' C→Tr)→Tr
 | [],_=>.yes
 | I :: r,f=>.and (f I) (allI r f)
theorem allI_ok:∀ {l:List (Inv' C)} {f:Inv' C→Tr},(allI l f).holds→∀ I∈l,(f I).holds
 | [],_,_,I,hI=>by cases hI
 | J :: r,f,h,I,hI=>by
   rcases List.mem_cons.1 hI with rfl | hI
   · exact h.1
   · exact allI_ok h.2 I hI
def Stands (l:List (Inv' C)) (f:(I:Inv' C)→I.X→Prop):Prop:=∃ I∈l,∃ x,f I x
theorem Stands.one {I:Inv' C} {r:List (Inv' C)} {f:(I:Inv' C)→I.X→Prop} (x:I.X) (h:f I x):Stands (I :: r) f:=⟨I,xe ..,x,h⟩
theorem Stands.next {I:Inv' C} {r:List (Inv' C)} {f:(I:Inv' C)→I.X→Prop} (h:Stands r f):Stands (I :: r) f:=by
 obtain ⟨J,hJ,x,h⟩:=h
 exact ⟨J,yv _ hJ,x,h⟩
mutual
def unif:SV→SV→List (Nat×Nat)
 | .ptr c _ _,.ptr c' _ _=>[(c,c')]
 | .sl c _ _ _,.sl c' _ _ _=>[(c,c')]
 | .sl c _ _ _,.nils=>[(c,200)]
 | .mp c,.mp c'=>[(c,c')]
 | .agg a,.agg b=>unifs a b
 | .tup a,.tup b=>unifs a b
 | .ifc _ v,.ifc _ v'=>unif v v'
 | .fn _ a b,.fn _ a' b'=>unifs a a' ++ unifs b b'
 | _,_=>[]
def unifs:List SV→List SV→List (Nat×Nat)
 | a :: r,b :: s=>unif a b ++ unifs r s
 | _,_=>[]
end
def look:List (Nat×Nat)→Nat→Nat
 | [],k=>k
 | (a,b) :: r,k=>if zj a k then b else look r k
def unifTm (tm:Tm):Tm→List (Nat×Nat)
 | []=>[]
 | (k,v) :: r=>unif v (get tm k) ++ unifTm tm r
def unifMem (m:List (Ck C)):Nat→List (Ck C)→List (Nat×Nat)→List (Nat×Nat)
 | _,[],acc=>acc
 | k,a :: r,acc=>unifMem m (k+1) r (match a.cells,(nth m (look acc k)).cells with
   | .one vs,.one vs'=>acc ++ unifs vs vs'
   | .it c _ _,.it c' _ _=>acc ++ [(c,c')]
   | _,_=>acc)
def namesOf (acc:List (Nat×Nat)):Nat→List (Ck C)→List Nat
 | _,[]=>[]
 | k,_ :: r=>look acc k :: namesOf acc (k+1) r
def tmSub (N:Nat) (ρ:List Nat) (tm:Tm):Tm→Option (List Prop)
 | []=>some []
 | (k,v) :: r=>match isJunk v with
   | true=>tmSub N ρ tm r
   | false=>match eqv N (get tm k) (v.ren ρ),tmSub N ρ tm r with
     | some p,some q=>some (p ++ q)
     | _,_=>none
def once:List Nat→Tm→Bool
 | _,[]=>true
 | ks,(k,_) :: r=>!(inList k ks) && once (k :: ks) r
def fP:List (Nat×Nat)→(List (Nat×Nat)→Tr)→Tr
 | [],K=>K []
 | (a,b) :: r,K=>fP r fun r=>K ((a,b) :: r)
theorem fP_eq:∀ (l:List (Nat×Nat)) (K:List (Nat×Nat)→Tr),fP l K=K l
 | [],_=>rfl
 | (a,b) :: r,K=>by simp only [fP,fP_eq r]
def fNat (n:Nat):(Nat→Tr)→Tr:=
 Nat.rec (motive:=fun _=>(Nat→Tr)→Tr) (fun K=>K 0) (fun _ ih K=>ih fun n=>K (n+1)) n
theorem fNat_eq:∀ (n:Nat) (K:Nat→Tr),fNat n K=K n
 | 0,_=>rfl
 | n+1,K=>by
   show fNat n (fun n=>K (n+1))=K (n+1)
   rw [fNat_eq n]
def fNames:List Nat→(List Nat→Tr)→Tr
 | [],K=>K []
 | x :: r,K=>fNat x fun x=>fNames r fun r=>K (x :: r)
theorem fNames_eq:∀ (l:List Nat) (K:List Nat→Tr),fNames l K=K l
 | [],_=>rfl
 | x :: r,K=>by simp only [fNames,fNat_eq,fNames_eq r]
def unifMemK (m:List (Ck C)):Nat→List (Ck C)→List (Nat×Nat)→(List (Nat×Nat)→Tr)→Tr
 | _,[],acc,K=>K acc
 | k,a :: r,acc,K=>fP (match a.cells,(nth m (look acc k)).cells with
   | .one vs,.one vs'=>acc ++ unifs vs vs'
   | .it c _ _,.it c' _ _=>acc ++ [(c,c')]
   | _,_=>acc) fun acc'=>unifMemK m (k+1) r acc' K
theorem unifMemK_eq (m:List (Ck C)):∀ (r:List (Ck C)) (k:Nat) (acc:List (Nat×Nat)) (K:List (Nat×Nat)→Tr),unifMemK m k r acc K=K (unifMem m k r acc)
 | [],_,_,_=>rfl
 | a :: r,k,acc,K=>by simp only [unifMemK,unifMem,fP_eq,unifMemK_eq m r]
def subR (tm:Tm) (m:List (Ck C)) (tm':Tm) (m':List (Ck C)) (ρ:List Nat):Tr:=
 match memLt m.length m && tmLt m.length tm && memLt m'.length m' && tmLt m'.length tm' && once [] tm' with
 | false=>.no
 | true=>withOffs m ρ m' fun ρ M=>match apartB ρ m' with
   | false=>.no
   | true=>match cksEq m.length ρ M ρ m',tmSub m.length ρ tm tm' with
     | some ps,some qs=>allLf (ps ++ qs)
     | _,_=>.no
def subP (tm:Tm) (m:List (Ck C)) (tm':Tm) (m':List (Ck C)) (acc:List (Nat×Nat)):Tr:=
 fP acc fun acc=>unifMemK m 0 m' acc fun A=>fNames (namesOf A 0 m') fun ρ=>subR tm m tm' m' ρ
theorem subP_eq (tm:Tm) (m:List (Ck C)) (tm':Tm) (m':List (Ck C)) (acc:List (Nat×Nat)):subP tm m tm' m' acc=subR tm m tm' m' (namesOf (unifMem m 0 m' acc) 0 m'):=by
 simp only [subP,fP_eq,unifMemK_eq,fNames_eq]
theorem MemOK.sub {S:Sx} {w0 w:World} {M:List (Ck C)} (h:MemOK S w0 w M) {N:Nat} (hN:∀ c,N≤c→(ads M c).on=false) {ρ:List Nat} {m:List (Ck C)} (hlt:memLt m.length m=true)
 (hk:∀ k,k<m.length→rn ρ k<M.length∧CkEq N ρ (nth m k) (nth M (rn ρ k))) (hap:∀ i j,i<m.length→j<m.length→i≠j→(nth m i).wr=true→rn ρ i≠rn ρ j):
 MemOK S w0 w m∧∀ c,c<m.length→ads m c=ads M (rn ρ c):=by
 obtain ⟨⟨p1,p2,p3,p4⟩,hads⟩:=h.enterP hN hlt hk hap
 have hmore:More S w0 w m:=by
  refine h.more.mono h.inS (fun _ _ _=>rfl) (fun x hx hxl => ?_) h.size (zx _) (fun x hx t y hy => ?_)
  · obtain ⟨j,hjl,rfl⟩:=mem_nth hx
    obtain ⟨h1,h2⟩:=hk j hjl
    exact .inl ⟨_,nth_mem h1,h2.live hxl,h2.block.symm,h2.wr⟩
  · obtain ⟨j,hjl,rfl⟩:=mem_nth hx
    obtain ⟨h1,h2⟩:=hk j hjl
    exact .inl ⟨_,nth_mem h1,h2.has hy,fun _=>h2.wr⟩
 refine ⟨⟨h.os,h.tape,h.output,h.size,h.keep,?_,p1,p2,p3,p4,hmore⟩,hads⟩
 intro c hc hw ho hb
 obtain ⟨k,hkl,rfl⟩:=mem_nth hc
 obtain ⟨h1,h2⟩:=hk k hkl
 rw [h2.block] at hb ⊢
 exact h.inS _ (nth_mem h1) (h2.wr hw) (by rw [← h2.on];exact ho) hb
theorem get_mem:∀ (tm:Tm) (k:Nat),get tm k=.junk∨(k,get tm k)∈tm
 | [],k=>.inl rfl
 | (j,u) :: r,k=>by
   rw [get_put]
   split
   · rename_i e;subst e;exact .inr (by simp)
   · rcases get_mem r k with h | h
     · exact .inl h
     · exact .inr (by simp [h])
theorem tmSub_ok {N:Nat} {ρ:List Nat} {tm:Tm}:∀ {tm':Tm} {ps:List Prop},tmSub N ρ tm tm'=some ps→allOf ps→∀ k v,(k,v)∈tm'→v≠.junk→∃ qs,eqv N (get tm k) (v.ren ρ)=some qs∧allOf qs
 | [],_,_,_,k,v,hk,_=>by cases hk
 | (j,u) :: r,ps,h,hp,k,v,hk,hv=>by
   simp only [tmSub] at h
   split at h
   · rename_i hj
     rcases List.mem_cons.1 hk with e | hk
     · simp only [Prod.mk.injEq] at e
       obtain ⟨rfl,rfl⟩:=e
       cases v <;> simp [isJunk] at hj;exact absurd rfl hv
     · exact tmSub_ok h hp k v hk hv
   · split at h <;> try (first | contradiction | exact False.elim h)
     rename_i p q hp' hq'
     simp only [Option.some.injEq] at h;subst h
     have hpq:=(allOf_append p q).1 hp
     rcases List.mem_cons.1 hk with e | hk
     · simp only [Prod.mk.injEq] at e
       obtain ⟨rfl,rfl⟩:=e
       exact ⟨p,hp',hpq.1⟩
     · exact tmSub_ok hq' hpq.2 k v hk hv
theorem subR_ok {S:Sx} {w0 w:World} {n:Nat} {tm tm':Tm} {m m':List (Ck C)} {ρ0:List Nat} (h:subR tm m tm' m' ρ0) {a:Act} (ha:ActOK (ads m) n tm a) (hm:MemOK S w0 w m):
 (ActOK (ads m') n tm' a∧MemOK S w0 w m')∧(allLt m.length ρ0=true→∀ c,c<m'.length→ads m' c=ads m (rn ρ0 c)):=by
 unfold subR at h
 split at h <;> try (first | contradiction | exact False.elim h)
 rename_i hc
 simp only [zn] at hc
 obtain ⟨⟨⟨⟨c0,c0'⟩,c1⟩,c2⟩,c4⟩:=hc
 obtain ⟨ρ,o,h,ho,hlM,hsame⟩:=withOffs_ok h c0
 obtain ⟨M,hMe⟩:∃ M,M=m ++ o:=⟨_,rfl⟩
 have hmM:=hm.withO c0 ho
 obtain ⟨hadsP,hN⟩:=ads_offs (m:=m) (o:=o) (fun x hx=>(ho x hx).1)
 rw [← hMe] at h hlM hmM hadsP hN
 have haM:ActOK (ads M) n tm a:=ha.ads hadsP c0'
 split at h <;> try (first | contradiction | exact False.elim h)
 rename_i c3
 split at h <;> try (first | contradiction | exact False.elim h)
 rename_i ps qs hps hqs
 obtain ⟨hps',hqs'⟩:=(allOf_append _ _).1 (allLf_ok h)
 obtain ⟨hlen,hk⟩:=cksEq_ok hps hps'
 have hk':∀ k,k<m'.length→rn ρ k<M.length∧CkEq m.length ρ (nth m' k) (nth M (rn ρ k)):=fun k hkl=>by
  obtain ⟨h1,qs,h2,h3⟩:=hk k hkl
  exact ⟨h1,ckEq_ok h2 h3⟩
 obtain ⟨hm',hads⟩:=hmM.sub hN c1 hk' (apartB_ok c3 hlen)
 refine ⟨⟨⟨ha.defers,ha.size,fun t => ?_,?_⟩,hm'⟩,fun hall c hc => ?_⟩
 · by_cases hj:get tm' t=.junk
   · exact .inl hj
   · right
     rcases get_mem tm' t with h1 | h1
     · exact absurd h1 hj
     · obtain ⟨rs,hr1,hr2⟩:=tmSub_ok hqs hqs' t _ h1 hj
       have e:=eqv_ok hN _ _ rs hr1 hr2
       rcases haM.tmps t with h2 | h2
       · rw [h2] at hr1
         simp [eqv] at hr1
       · rw [h2,e,SV.va_ren hads _ (tmLt_get c2 t)]
 · intro t cs v hg c hc b hb
   exfalso
   have hj:get tm' t≠.junk:=by rw [hg];simp
   rcases get_mem tm' t with h1 | h1
   · exact hj h1
   · obtain ⟨rs,hr1,_⟩:=tmSub_ok hqs hqs' t _ h1 hj
     rw [hg] at hr1
     simp only [SV.ren] at hr1
     unfold eqv at hr1
     split at hr1 <;> simp_all
 · obtain ⟨e1,e2⟩:=hsame hall
   subst e1 e2
   rw [hads c hc,hMe,List.append_nil]
theorem subP_ok {S:Sx} {w0 w:World} {n:Nat} {tm tm':Tm} {m m':List (Ck C)} {acc:List (Nat×Nat)} (h:subP tm m tm' m' acc) {a:Act} (ha:ActOK (ads m) n tm a) (hm:MemOK S w0 w m):
 ActOK (ads m') n tm' a∧MemOK S w0 w m':=by
 rw [subP_eq] at h
 obtain ⟨ρ,hρ⟩:∃ ρ,ρ=namesOf (unifMem m 0 m' acc) 0 m':=⟨_,rfl⟩
 rw [← hρ] at h
 exact (subR_ok h ha hm).1
theorem wp_loop' {P:Program} {Q:Exit→Act→World→Prop} {a:Act} {w:World} {c:Code} (I:Nat→Act→World→Prop) (n:Nat) (h₀:I n a w)
 (round:∀ n a w,I n a w→c.wp P (Exit.then (fun a' w'=>∃ n',n'<n∧I n' a' w') Q) a w):(Code.loop c).wp P Q a w:=by
 intro b k cs
 have key:∀ n a w,I n a w→∃ e a' w',Q e a' w'∧Arrives P (lone (b.at a (.code c :: .inLoop c :: k)) cs w) b k cs e a' w':=by
  intro n
  induction n using Nat.strongRecOn with
  | _ n ih=>
    intro a w hI
    obtain ⟨e,a₁,w₁,hq,harr⟩:=round n a w hI b (.inLoop c :: k) cs
    cases e with
    | normal=>
      obtain ⟨n',hlt,hI₁⟩:=hq
      obtain ⟨e₂,a₂,w₂,hq₂,harr₂⟩:=ih n' hlt a₁ w₁ hI₁
      exact ⟨e₂,a₂,w₂,hq₂,.of_steps (Steps.trans harr (.one step_inLoop)) harr₂⟩
    | exit id=>exact ⟨_,a₁,w₁,hq,.pass (x:=.inLoop c) rfl (fun _ _=>.inl (by simp)) harr⟩
    | goto l=>exact ⟨_,a₁,w₁,hq,.pass (x:=.inLoop c) rfl (fun _ _=>.inl (by simp)) harr⟩
    | ret=>exact ⟨_,a₁,w₁,hq,.pass (x:=.inLoop c) rfl (fun _ _=>.inl (by simp)) harr⟩
    | panic ch=>exact ⟨_,a₁,w₁,hq,.pass (x:=.inLoop c) rfl (fun _ _=>.inl (by simp)) harr⟩
    | outgrown=>exact ⟨_,a₁,w₁,hq,.pass (x:=.inLoop c) rfl (fun _ _=>.inl (by simp)) harr⟩
 obtain ⟨e,a',w',hq,harr⟩:=key n a w h₀
 exact ⟨e,a',w',hq,.of_steps (.one step_loop) harr⟩
def keysOf:Tm→List Nat
 | []=>[]
 | (k,_) :: r=>k :: keysOf r
def sreg {P:Program} (E:Env P C) (id:Nat) (ops:Array Oper) (draw:Bool) (tm:Tm) (m:List (Ck C)) (K:Tm→List (Ck C)→Tr):Tr:=
 match draw with
 | false=>sops E ops ops.toList tm m K
 | true=>match findPlan id E.plans with
   | none=>.and (.lf (Region.lexB .any ops=true)) (sopsQ E ops ops.toList tm m K)
   | some (F,pl)=>.and (.lf (planned ops pl=true)) (.and (inMem (frozen tm F) m) (splan E ops (frozen tm F) m pl tm m K))
def unlike:SV→SV→Bool
 | .nils,.sl _ _ _ _=>true
 | .sl _ _ _ _,.nils=>true
 | .nilp,.ptr _ _ _=>true
 | .ptr _ _ _,.nilp=>true
 | .nili,.ifc _ _=>true
 | .ifc _ _,.nili=>true
 | _,_=>false
def linkP (ws:List Nat) (tm:Tm):Tm→List Prop
 | []=>[]
 | (k,v) :: r=>match inList k ws with
   | true=>linkP ws tm r
   | false=>match unlike (get tm k) v with
     | true=>False :: linkP ws tm r
     | false=>match get tm k with
       | .int _ a=>match v with
         | .int _ b=>(a=b) :: linkP ws tm r
         | _=>linkP ws tm r
       | _=>linkP ws tm r
def linkNo (ws:List Nat) (tm:Tm):Tm→Bool
 | []=>false
 | (k,v) :: r=>match inList k ws with
   | true=>linkNo ws tm r
   | false=>match unlike (get tm k) v with
     | true=>true
     | false=>linkNo ws tm r
theorem linkNo_ok {ws:List Nat} {tm:Tm}:∀ {l:Tm},linkNo ws tm l=true→¬ allOf (linkP ws tm l)
 | [],h,_=>by cases h
 | (k,v) :: r,h,ha=>by
   simp only [linkNo] at h
   simp only [linkP] at ha
   cases hk:inList k ws with
   | true=>rw [hk] at h ha;exact linkNo_ok h ha
   | false=>
     rw [hk] at h ha
     simp only at h ha
     cases hu:unlike (get tm k) v with
     | true=>rw [hu] at ha;exact ha.1
     | false=>
       rw [hu] at h ha
       simp only at h ha
       split at ha
       · split at ha
         · exact linkNo_ok h ha.2
         · exact linkNo_ok h ha
       · exact linkNo_ok h ha
def ifNo (b:Bool) (X:Tr):Tr:=match b with
 | true=>.yes
 | false=>X
theorem ifNo_h {b:Bool} {X:Tr} (h:(ifNo b X).holds):b=true∨X.holds:=by
 cases b with
 | true=>exact .inl rfl
 | false=>exact .inr h
def notApp:List (Ck C)→List (Ck C)→Bool
 | _ :: _,_=>false
 | [],[]=>false
 | [],_ :: _=>true
def noP (a m:List (Ck C)):List Prop:=match notApp a m with
 | true=>[False]
 | false=>[]
theorem noP_ok {a m:List (Ck C)} {l:List Prop} (h:allOf (noP a m ++ l)):notApp a m=false∧allOf l:=by
 unfold noP at h
 split at h
 · exact h.1.elim
 · rename_i e;exact ⟨e,h⟩
def linked:List Prop→Tr→Tr
 | [],X=>X
 | p :: r,X=>.and (.lf p) (linked r X)
def linkT:List Prop→Tr→Tr
 | [],X=>X
 | p :: r,X=>.imp p (linkT r X)
theorem linked_ok:∀ {l:List Prop} {X:Tr},(linked l X).holds→allOf l∧X.holds
 | [],_,h=>⟨trivial,h⟩
 | _ :: _,_,h=>⟨⟨h.1,(linked_ok h.2).1⟩,(linked_ok h.2).2⟩
theorem linkT_ok:∀ {l:List Prop} {X:Tr},(linkT l X).holds→allOf l→X.holds
 | [],_,h,_=>h
 | _ :: _,_,h,hl=>linkT_ok (h hl.1) hl.2
def hasJ:List (Inv' C)→Bool
 | []=>false
 | x :: r=>match xz 999999 x.id with
   | true=>true
   | false=>hasJ r
def findJ (b:Code) (L:List (Inv' C)):List (Inv' C):=match hasJ L with
 | false=>[]
 | true=>findInvs (1000000+firstId b) L
def sexec {P:Program} (E:Env P C) (L:List (Inv' C)):Code→Tm→List (Ck C)→(Ex→Tm→List (Ck C)→Tr)→Tr
 | .skip,tm,m,K=>K .nor tm m
 | .region id ops draw,tm,m,K=>sreg E id ops draw tm m fun tm' m'=>K .nor tm' m'
 | .seq a b,tm,m,K=>match findJ b L with
   | []=>sexec E L a tm m fun e tm' m'=>match e with
     | .nor=>sexec E L b tm' m' K
     | e=>K e tm' m'
   | I0 :: Ir=>fL (I0 :: Ir) fun Is=>fLN (writes a) fun ws=>
     .and (sexec E L a tm m fun e tm' m'=>match e with
      | .nor=>Tr.lf (Stands Is fun I' x'=>I'.inv x'∧(linked (noP (I'.mem x' m) m ++ linkP ws tm (I'.tm x')) (subP tm' m' (I'.tm x' ++ keepTm (keysOf (I'.tm x') ++ ws) tm) (I'.mem x' m) (unifTm tm' (I'.tm x')))).holds)
      | e=>K e tm' m')
      (allI Is fun I=>.all fun x=>ifNo (linkNo ws tm (I.tm x)) (ifNo (notApp (I.mem x m) m) (.imp (I.inv x) (linkT (linkP ws tm (I.tm x)) (fTm (I.tm x ++ keepTm (keysOf (I.tm x) ++ ws) tm) fun tmL=>fM (I.mem x m) fun mL=>sexec E L b tmL mL K)))))
 | .cond c x y,tm,m,K=>match ev tm m [] c with
   | some (.bool .t)=>sexec E L x tm m K
   | some (.bool .f)=>sexec E L y tm m K
   | some (.bool (.tm b))=>.and (.imp (b=true) (sexec E L x tm m K)) (.imp (b=false) (sexec E L y tm m K))
   | _=>.no
 | .block id c,tm,m,K=>sexec E L c tm m fun e tm' m'=>match e with
   | .exit i=>match zj i id with
     | true=>K .nor tm' m'
     | false=>K (.exit i) tm' m'
   | e=>K e tm' m'
 | .loop c,tm,m,K=>fL (findInvs (firstId c) L) fun Is=>fLN (writes c) fun ws=>
    .and (.lf (Stands Is fun I x0=>I.inv x0∧(linked (noP (I.mem x0 m) m ++ linkP ws tm (I.tm x0)) (subP tm m (I.tm x0 ++ keepTm (keysOf (I.tm x0) ++ ws) tm) (I.mem x0 m) (unifTm tm (I.tm x0)))).holds))
     (allI Is fun I=>.all fun x=>ifNo (linkNo ws tm (I.tm x)) (ifNo (notApp (I.mem x m) m) (.imp (I.inv x) (linkT (linkP ws tm (I.tm x)) (fTm (I.tm x ++ keepTm (keysOf (I.tm x) ++ ws) tm) fun tmL=>fM (I.mem x m) fun mL=>sexec E L c tmL mL fun e tm' m'=>match e with
       | .nor=>Tr.lf (Stands Is fun I' x'=>I'.inv x'∧I'.meas x'<I.meas x∧(linked (noP (I'.mem x' m) m ++ linkP ws tm (I'.tm x')) (subP tm' m' (I'.tm x' ++ keepTm (keysOf (I'.tm x') ++ ws) tm) (I'.mem x' m) (unifTm tm' (I'.tm x')))).holds)
       | e=>K e tm' m')))))
 | .exit id,tm,m,K=>K (.exit id) tm m
 | .ret,tm,m,K=>K .ret tm m
 | _,_,_,_=>.no
theorem sexec_ok {P:Program} (hmix:P.follows .mixedOrders=true) {S:Sx} {w0:World} {E:Env P C} {L:List (Inv' C)}:∀ {c:Code} {tm:Tm} {m:List (Ck C)} {K:Ex→Tm→List (Ck C)→Tr} {a:Act} {w:World} {Q:Exit→Act→World→Prop},
 sexec E L c tm m K→ActOK (ads m) E.n tm a→MemOK S w0 w m→(∀ e tm' m' a' w',K e tm' m'→ActOK (ads m') E.n tm' a'→MemOK S w0 w' m'→Q e.of a' w')→c.wp P Q a w:=by
 intro c
 induction c with
 | skip=>intro tm m K a w Q hs h hm hq;exact wp_skip (hq _ _ _ _ _ hs h hm)
 | region id ops draw=>
   intro tm m K a w Q hs h hm hq
   simp only [sexec,sreg] at hs
   cases draw with
   | false=>exact wp_region_list (sops_ok hs h hm (fun tm' m' a' w' hk h' hm'=>hq _ _ _ _ _ hk h' hm'))
   | true=>
     simp only at hs
     split at hs
     rotate_left
     · exact draw_ok hmix hs.1 hs.2.1 hs.2.2 h hm (fun tm' m' a' w' hk h' hm'=>hq _ _ _ _ _ hk h' hm')
     obtain ⟨hB,hs⟩:=hs
     exact wp_region_quiet (C:=fun w=>MemOK S w0 w m) hmix hB hm.drew (sopsQ_ok hm.glob hs h (fun tm' m' a' hk h' hiff _ w' hm'=>hq _ _ _ _ _ hk h' ((hiff w').1 hm')))
 | seq x y ihx ihy=>
   intro tm m K a w Q hs h hm hq
   simp only [sexec] at hs
   split at hs
   · refine wp_seq (ihx hs h hm fun e tm' m' a' w' hk h' hm' => ?_)
     cases e with
     | nor=>exact ihy hk h' hm' hq
     | exit i=>exact hq _ _ _ _ _ hk h' hm'
     | ret=>exact hq _ _ _ _ _ hk h' hm'
   · rename_i I0 Ir _
     simp only [fL_eq,fLN_eq] at hs
     obtain ⟨hs,hround⟩:=hs
     have hround:=allI_ok hround
     refine wp_seq (ihx hs h hm fun e tm' m' a' w' hk h' hm' => ?_)
     cases e with
     | nor=>
       obtain ⟨I,hI,x,hix,hs'⟩:=hk
       obtain ⟨hlx,hs'⟩:=linked_ok hs'
       obtain ⟨hna,hlx⟩:=noP_ok hlx
       obtain ⟨ha',hm''⟩:=subP_ok hs' h' hm'
       have hro:=(ifNo_h (hround I hI x)).resolve_left (fun hno=>linkNo_ok hno hlx)
       have hro:=(ifNo_h hro).resolve_left (fun hno=>by rw [hna] at hno;cases hno)
       have hro:=linkT_ok (hro hix) hlx
       simp only [fTm_eq,fM_eq] at hro
       exact ihy hro ha' hm'' hq
     | exit i=>exact hq _ _ _ _ _ hk h' hm'
     | ret=>exact hq _ _ _ _ _ hk h' hm'
 | cond c x y ihx ihy=>
   intro tm m K a w Q hs h hm hq
   have hnil:AlOK tm []:=by intro p hp;cases hp
   simp only [sexec] at hs
   split at hs <;> try (first | contradiction | exact False.elim hs)
   · rename_i hc
     exact wp_cond (t:=true) (ev_ok h hm.glob hnil _ _ hc) (ihx hs h hm hq)
   · rename_i hc
     exact wp_cond (t:=false) (ev_ok h hm.glob hnil _ _ hc) (ihy hs h hm hq)
   · rename_i b hc
     cases b with
     | true=>exact wp_cond (t:=true) (ev_ok h hm.glob hnil _ _ hc) (ihx (hs.1 rfl) h hm hq)
     | false=>exact wp_cond (t:=false) (ev_ok h hm.glob hnil _ _ hc) (ihy (hs.2 rfl) h hm hq)
 | block id c ih=>
   intro tm m K a w Q hs h hm hq
   refine wp_block (ih hs h hm fun e tm' m' a' w' hk h' hm' => ?_)
   cases e with
   | nor=>exact hq _ _ _ _ _ hk h' hm'
   | exit i=>
     simp only [Ex.of,Exit.inBlock]
     simp only at hk
     split at hk
     · rename_i hb
       rw [if_pos (zp hb)]
       exact hq _ _ _ _ _ hk h' hm'
     · rename_i hb
       rw [if_neg (xl hb)]
       exact hq _ _ _ _ _ hk h' hm'
   | ret=>exact hq _ _ _ _ _ hk h' hm'
 | loop c ih=>
   intro tm m K a w Q hs h hm hq
   simp only [sexec,fL_eq,fLN_eq] at hs
   obtain ⟨⟨I0,hI0,x0,hi0,hs0⟩,hround⟩:=hs
   have hround:=allI_ok hround
   obtain ⟨hl0,hs0⟩:=linked_ok hs0
   obtain ⟨hn0,hl0⟩:=noP_ok hl0
   obtain ⟨ha0,hm0⟩:=subP_ok hs0 h hm
   refine wp_loop' (fun n a w=>∃ I∈findInvs (firstId c) L,∃ x,(I.inv x∧notApp (I.mem x m) m=false∧allOf (linkP (writes c) tm (I.tm x)))∧I.meas x=n∧ActOK (ads (I.mem x m)) E.n (I.tm x ++ keepTm (keysOf (I.tm x) ++ writes c) tm) a∧MemOK S w0 w (I.mem x m)) (I0.meas x0) ⟨I0,hI0,x0,⟨hi0,hn0,hl0⟩,rfl,ha0,hm0⟩ ?_
   rintro n a1 w1 ⟨I,hI,x,⟨hix,hna,hlx⟩,rfl,hax,hmx⟩
   have hro:=(ifNo_h (hround I hI x)).resolve_left (fun hno=>linkNo_ok hno hlx)
   have hro:=(ifNo_h hro).resolve_left (fun hno=>by rw [hna] at hno;cases hno)
   have hro:=linkT_ok (hro hix) hlx
   simp only [fTm_eq,fM_eq] at hro
   refine ih hro hax hmx fun e tm' m' a' w' hk h' hm' => ?_
   cases e with
   | nor=>
     obtain ⟨I',hI',x',hi',hlt,hs'⟩:=hk
     obtain ⟨hl',hs'⟩:=linked_ok hs'
     obtain ⟨hn',hl'⟩:=noP_ok hl'
     obtain ⟨ha',hm''⟩:=subP_ok hs' h' hm'
     exact ⟨I'.meas x',hlt,I',hI',x',⟨hi',hn',hl'⟩,rfl,ha',hm''⟩
   | exit i=>exact hq _ _ _ _ _ hk h' hm'
   | ret=>exact hq _ _ _ _ _ hk h' hm'
 | exit id=>intro tm m K a w Q hs h hm hq;exact wp_exit (hq _ _ _ _ _ hs h hm)
 | ret=>intro tm m K a w Q hs h hm hq;exact wp_ret (hq _ _ _ _ _ hs h hm)
 | rangeFunc _ _ _ _=>intro tm m K a w Q hs;exact False.elim hs
 | scope _ _=>intro tm m K a w Q hs;exact False.elim hs
 | label _=>intro tm m K a w Q hs;exact False.elim hs
 | goto _=>intro tm m K a w Q hs;exact False.elim hs
 | refuse _=>intro tm m K a w Q hs;exact False.elim hs
end Go.Vx
namespace Go.Vx
open Go
variable {C:Nat→Codec}
def initTm:Nat→List SV→Tm
 | _,[]=>[]
 | k,v :: r=>(k,v) :: initTm (k+1) r
def retOne (P:Program) (tm:Tm) (m:List (Ck C)):ResultVar→Ans
 | .tmp t=>match get tm t with
   | .junk=>none
   | .cnd _ _=>none
   | v=>some ([],v)
 | .cell a t=>match get tm a with
   | .ptr c i f=>loadSV P m t c i f
   | _=>none
def retAll (P:Program) (tm:Tm) (m:List (Ck C)):List ResultVar→Option (List Prop×List SV)
 | []=>some ([],[])
 | x :: r=>match retOne P tm m x,retAll P tm m r with
   | some (p,v),some (q,vs)=>some (p ++ q,v :: vs)
   | _,_=>none
def retSV (P:Program) (fn:Func) (tm:Tm) (m:List (Ck C)):Ans:=
 match fn.results.toList with
 | [x]=>retOne P tm m x
 | l=>(retAll P tm m l).map fun (p,vs)=>(p,.tup vs)
def readRes (tmps:Array Value):ResultVar→Sem Value
 | .tmp t=>pure (tmps.getD t Go.undef)
 | .cell b t=>do loadVar t (← asAddr (tmps.getD b Go.undef))
theorem retOne_ok {P:Program} {S:Sx} {w0 w:World} {n:Nat} {tm:Tm} {m:List (Ck C)} {a:Act} (h:ActOK (ads m) n tm a) (hm:MemOK S w0 w m) {x:ResultVar} {ps:List Prop} {r:SV}
 (hr:retOne P tm m x=some (ps,r)) (hp:allOf ps):
 (readRes a.tmps x).run P w=.ok (r.va (ads m)) w:=by
 cases x with
 | tmp t=>
   simp only [retOne] at hr
   have key:∀ v,get tm t=v→v≠.junk→(a.tmps.getD t Go.undef)=v.va (ads m):=by
    intro v hv hj
    rcases h.tmps t with h1 | h1
    · exact absurd (hv.symm.trans h1) hj
    · simp [h1,hv]
   split at hr <;> try (first | contradiction | exact False.elim hr)
   rename_i h1 h2
   simp only [Option.some.injEq,Prod.mk.injEq] at hr
   obtain ⟨rfl,rfl⟩:=hr
   simp only [readRes,Sem.run_pure]
   rw [key _ rfl h1]
 | cell b t=>
   simp only [retOne] at hr
   split at hr <;> try (first | contradiction | exact False.elim hr)
   rename_i c i f hg
   have hl:=loadSV_ok hm hr hp
   rcases h.tmps b with h1 | h1
   · rw [hg] at h1;cases h1
   · rw [hg] at h1
     simp [readRes,h1,SV.va,asAddr,hl]
theorem retSV_ok {P:Program} {S:Sx} {w0 w:World} {n:Nat} {tm:Tm} {m:List (Ck C)} {a:Act} (h:ActOK (ads m) n tm a) (hm:MemOK S w0 w m) {fn:Func} {ps:List Prop} {r:SV}
 (hr:retSV P fn tm m=some (ps,r)) (hp:allOf ps):(results fn a.tmps).run P w=.ok (r.va (ads m)) w:=by
 have hall:∀ (l:List ResultVar) (ps:List Prop) (vs:List SV),retAll P tm m l=some (ps,vs)→allOf ps→
  (l.mapM (readRes a.tmps)).run P w=.ok (SV.vas (ads m) vs) w:=by
  intro l
  induction l with
  | nil=>intro ps vs hr _;simp [retAll] at hr;obtain ⟨rfl,rfl⟩:=hr;rfl
  | cons x l ih=>
    intro ps vs hr hp
    simp only [retAll] at hr
    split at hr <;> try (first | contradiction | exact False.elim hr)
    rename_i p v q vs' h1 h2
    simp only [Option.some.injEq,Prod.mk.injEq] at hr
    obtain ⟨rfl,rfl⟩:=hr
    have hpq:=(allOf_append p q).1 hp
    have e1:=retOne_ok h hm h1 hpq.1
    have e2:=ih _ _ h2 hpq.2
    simp only [ou,Sem.run_bind,e1,Result.andThen_ok,e2,Sem.run_pure,SV.vas]
 have hres:results fn a.tmps=(do
  let vs ← fn.results.mapM (readRes a.tmps)
  pure (if h:vs.size=1 then vs[0] else .tuple vs)):=by
  unfold results
  congr 1
 have hmap:∀ vs,(fn.results.toList.mapM (readRes a.tmps)).run P w=.ok vs w→
  (fn.results.mapM (readRes a.tmps)).run P w=.ok vs.toArray w:=by
  intro vs hvs
  rw [← Array.toArray_toList (xs:=fn.results),List.mapM_toArray]
  simp only [Sem.run_map,hvs,Result.andThen_ok]
 rw [hres]
 unfold retSV at hr
 split at hr
 · rename_i x hx
   have e1:=retOne_ok h hm hr hp
   have:=hmap [r.va (ads m)] (by rw [hx];simp only [ou,List.mapM_nil,Sem.run_bind,e1,Result.andThen_ok,Sem.run_pure])
   simp only [Sem.run_bind,this,Result.andThen_ok,Sem.run_pure]
   simp
 · rename_i hne
   cases hra:retAll P tm m fn.results.toList with
   | none=>simp [hra] at hr
   | some q=>
     obtain ⟨p,vs⟩:=q
     simp only [hra,yk,Option.some.injEq,Prod.mk.injEq] at hr
     obtain ⟨rfl,rfl⟩:=hr
     have:=hmap _ (hall _ _ _ hra hp)
     have hlen:∀ (l:List ResultVar) (ps:List Prop) (vs:List SV),retAll P tm m l=some (ps,vs)→vs.length=l.length:=by
      intro l
      induction l with
      | nil=>intro ps vs hr;simp [retAll] at hr;obtain ⟨rfl,rfl⟩:=hr;rfl
      | cons x l ih=>
        intro ps vs hr
        simp only [retAll] at hr
        split at hr <;> try (first | contradiction | exact False.elim hr)
        rename_i p v q vs' h1 h2
        simp only [Option.some.injEq,Prod.mk.injEq] at hr
        obtain ⟨rfl,rfl⟩:=hr
        simp [ih _ _ h2]
     have hl:=hlen _ _ _ hra
     have h1:vs.length≠1:=by
      intro e
      rw [hl] at e
      obtain ⟨x,hx⟩:=List.length_eq_one_iff.1 e
      exact hne x hx
     simp only [Sem.run_bind,this,Result.andThen_ok,Sem.run_pure,SV.va]
     rw [dif_neg (by simp [SV.vas_eq,h1])]
def fexec {P:Program} (E:Env P C) (L:List (Inv' C)) (fn:Func) (c:Code) (args:List SV) (mem:List (Ck C)) (G:SV→List (Ck C)→Tr):Tr:=
 fTm (initTm 0 args) fun tm0=>fM mem fun mem0=>sexec E L c tm0 mem0 fun e tm m=>match e with
  | .exit _=>.no
  | _=>match retSV P fn tm m with
    | some (ps,r)=>conj ps (fSV r fun r=>fM m fun m=>G r m)
    | none=>.no
theorem get_init:∀ (args:List SV) (k t:Nat),get (initTm k args) t=.junk∨(k≤t∧∃ v,args[t - k]? = some v∧get (initTm k args) t=v)
 | [],_,_=>.inl rfl
 | v :: r,k,t=>by
   simp only [initTm]
   rw [get_put]
   split
   · rename_i e;subst e;exact .inr ⟨zx _,v,by simp,rfl⟩
   · rename_i e
     rcases get_init r (k+1) t with h | ⟨h1,u,h2,h3⟩
     · exact .inl h
     · exact .inr ⟨by omega,u,by rw [show t - k=(t - (k+1))+1 by omega];simpa using h2,h3⟩
def noCnds:List SV→Bool
 | []=>true
 | v :: r=>notCnd v && noCnds r
theorem noCnds_ok:∀ {l:List SV},noCnds l=true→∀ v∈l,notCnd v=true
 | [],_,v,h=>by cases h
 | x :: r,h,v,hv=>by
   simp only [noCnds,zn] at h
   rcases List.mem_cons.1 hv with rfl | hv
   · exact h.1
   · exact noCnds_ok h.2 v hv
theorem fexec_ok {P:Program} (hmix:P.follows .mixedOrders=true) {E:Env P C} {L:List (Inv' C)} {f:FuncId} {fn:Func} {c:Code} {args:List SV} {mem:List (Ck C)} {G:SV→List (Ck C)→Tr}
 (hf:P.funcs[f]? = some fn) (hb:fn.body=some c) (hn:fn.ntmps=E.n) (hlen:vz args.length E.n=true) (hnc:noCnds args=true) (h:fexec E L fn c args mem G) (w:World) (hm:MemOK (wrS mem) w w mem):
 Calls P f (SV.vas (ads mem) args).toArray w fun e w'=>∃ r m',e=.returned (r.va (ads m'))∧MemOK (wrS mem) w w' m'∧G r m':=by
 have hlen:args.length≤E.n:=xf hlen
 refine calls_of_wp hf hb ?_
 have hsz:(SV.vas (ads mem) args).toArray.size=args.length:=by simp [SV.vas_eq]
 have hact:ActOK (ads mem) E.n (initTm 0 args) { tmps:=(SV.vas (ads mem) args).toArray ++ ut (fn.ntmps - (SV.vas (ads mem) args).toArray.size) Go.undef,defers:=[] }:=by
  refine ⟨rfl,by simp [hn,SV.vas_eq];omega,fun t => ?_,?_⟩
  · rcases get_init args 0 t with h1 | ⟨_,v,h2,h3⟩
    · exact .inl h1
    · right
      simp only [uh] at h2
      have hlt:t<args.length:=(List.getElem?_eq_some_iff.1 h2).1
      rw [h3,pr (by rw [hsz];exact hlt)]
      simp [SV.vas_eq,h2]
  · intro t cs v hg
    exfalso
    rcases get_init args 0 t with h1 | ⟨_,u,h2,h3⟩
    · rw [h1] at hg;cases hg
    · rw [h3] at hg
      exact notCnd_ok (noCnds_ok hnc u (tx h2)) cs v hg
 unfold fexec at h
 simp only [fTm_eq,fM_eq,fSV_eq] at h
 refine sexec_ok hmix (w0:=w) (S:=wrS mem) h hact hm fun e tm m a w' hk ha hm' => ?_
 have fin:(match retSV P fn tm m with | some (ps,r)=>conj ps (G r m) | none=>.no:Tr).holds→a.defers=[]∧∃ v,(results fn a.tmps).run P w'=.ok v w'∧∃ r m',Ending.returned v=.returned (r.va (ads m'))∧MemOK (wrS mem) w w' m'∧G r m':=by
  intro hk
  split at hk <;> try (first | contradiction | exact False.elim hk)
  rename_i ps r hr
  obtain ⟨hp,hG⟩:=(conj_iff _ _).1 hk
  exact ⟨ha.defers,_,retSV_ok ha hm' hr hp,r,m,rfl,hm',hG⟩
 cases e with
 | nor=>exact fin hk
 | exit i=>exact False.elim hk
 | ret=>exact fin hk
def idNames:Nat→List (Ck C)→List (Nat×Nat)
 | _,[]=>[]
 | k,_ :: r=>(k,k) :: idNames (k+1) r
def placeEq:List (Ck C)→List (Ck C)→Option (List Prop)
 | [],out=>if extB [] out then some [] else none
 | a :: s,o :: out=>if zj o.sz a.sz && beqB o.wr a.wr then (placeEq s out).map fun ps=>onEq o.gl a.gl ++ (o.block=a.block) :: (o.base=a.base) :: ps else none
 | _ :: _,[]=>none
def finR (mem:List (Ck C)) (r:SV) (m:List (Ck C)) (res:SV) (out:List (Ck C)) (ρ:List Nat):Tr:=
 match memLt m.length m && SV.lt m.length r && memLt out.length out && SV.lt out.length res with
 | false=>.no
 | true=>withOffs m ρ out fun ρ M=>match apartB ρ out with
   | false=>.no
   | true=>match cksEq m.length ρ M ρ out,eqv m.length r (res.ren ρ),placeEq mem out with
     | some ps,some qs,some rs=>allLf (ps ++ qs ++ rs)
     | _,_,_=>.no
def deads:List (Ck C)→List (Ck C)
 | []=>[]
 | ⟨b,ba,sz,w,g,_⟩ :: r=>⟨b,ba,sz,w,g,.dead⟩ :: deads r
def someDead:List (Ck C)→List (Ck C)→Bool
 | _ :: s,o :: out=>!o.alive || someDead s out
 | _,_=>false
def idNamesD (n:Nat):Nat→List (Ck C)→List (Ck C)→List (Nat×Nat)
 | k,_ :: s,o :: out=>(match o.alive with
   | true=>(k,k)
   | false=>(k,n+k)) :: idNamesD n (k+1) s out
 | _,_,_=>[]
def finP (mem:List (Ck C)) (r:SV) (m:List (Ck C)) (res:SV) (out:List (Ck C)):Tr:=
 match memLt m.length m && SV.lt m.length r with
 | false=>.no
 | true=>match someDead mem out with
 | false=>fP (idNames 0 mem ++ unif res r) fun acc=>unifMemK m 0 out acc fun A=>fNames (namesOf A 0 out) fun ρ=>finR mem r m res out ρ
 | true=>fM (m ++ deads mem) fun M=>fP (idNamesD m.length 0 mem out ++ unif res r) fun acc=>unifMemK M 0 out acc fun A=>fNames (namesOf A 0 out) fun ρ=>finR mem r M res out ρ
theorem placeEq_ok:∀ {mem out:List (Ck C)} {ps:List Prop},placeEq mem out=some ps→allOf ps→Ext mem out
 | [],out,ps,h,_=>by
   simp only [placeEq] at h
   split at h <;> try (first | contradiction | exact False.elim h)
   rename_i he
   refine ⟨by simp,fun k hk=>by simp at hk,fun k _ hk hl => ?_⟩
   have:=List.all_eq_true.1 he _ (nth_mem hk)
   simpa [hl] using this
 | a :: s,[],ps,h,_=>by simp [placeEq] at h
 | a :: s,o :: out,ps,h,hp=>by
   simp only [placeEq] at h
   split at h <;> try (first | contradiction | exact False.elim h)
   rename_i hc
   simp only [zn] at hc
   cases hs:placeEq s out with
   | none=>simp [hs] at h
   | some qs=>
     simp only [hs,yk,Option.some.injEq] at h;subst h
     obtain ⟨h0,h1,h2,h3⟩:=(allOf_append _ _).1 hp
     have ih:=placeEq_ok hs h3
     refine ⟨by simpa using ih.len,fun k hk => ?_,fun k hk hk' hl => ?_⟩
     · cases k with
       | zero=>
         refine ⟨h1,h2,zp hc.1,?_,onEq_ok h0⟩
         have:=hc.2
         show o.wr=a.wr
         revert this
         cases o.wr <;> cases a.wr <;> simp [beqB]
       | succ k=>exact ih.same k (by simpa using hk)
     · cases k with
       | zero=>simp at hk
       | succ k=>exact ih.new k (by simpa using hk) (by simpa using hk') hl
theorem finR_ok {S:Sx} {w0 w:World} {mem m out:List (Ck C)} {r res:SV} {ρ0:List Nat} (h0:finR mem r m res out ρ0) (hm:MemOK S w0 w m):MemOK S w0 w out∧r.va (ads m)=res.va (ads out)∧Ext mem out∧SV.lt m.length r=true:=by
 have h:=h0
 unfold finR at h
 split at h <;> try (first | contradiction | exact False.elim h)
 rename_i hc
 simp only [zn] at hc
 obtain ⟨⟨⟨c0,c0'⟩,c1⟩,c2⟩:=hc
 obtain ⟨ρ',o,h,ho,hlM,_⟩:=withOffs_ok h c0
 clear h0
 revert h
 generalize ρ'=ρ
 intro h
 obtain ⟨M,hMe⟩:∃ M,M=m ++ o:=⟨_,rfl⟩
 have hmM:=hm.withO c0 ho
 obtain ⟨hadsP,hN⟩:=ads_offs (m:=m) (o:=o) (fun x hx=>(ho x hx).1)
 rw [← hMe] at h hlM hmM hadsP hN
 split at h <;> try (first | contradiction | exact False.elim h)
 rename_i c3
 split at h <;> try (first | contradiction | exact False.elim h)
 rename_i ps qs rs hps hqs hrs
 obtain ⟨hpq,hrs'⟩:=(allOf_append _ _).1 (allLf_ok h)
 obtain ⟨hps',hqs'⟩:=(allOf_append _ _).1 hpq
 obtain ⟨hlen,hk⟩:=cksEq_ok hps hps'
 have hk':∀ k,k<out.length→rn ρ k<M.length∧CkEq m.length ρ (nth out k) (nth M (rn ρ k)):=fun k hkl=>by
  obtain ⟨h1,qs,h2,h3⟩:=hk k hkl
  exact ⟨h1,ckEq_ok h2 h3⟩
 obtain ⟨hm',hads⟩:=hmM.sub hN c1 hk' (apartB_ok c3 hlen)
 exact ⟨hm',by rw [SV.va_congr hadsP _ c0',eqv_ok hN _ _ qs hqs hqs',SV.va_ren hads _ c2],placeEq_ok hrs hrs',c0'⟩
theorem MemOK.dead1 {S:Sx} {w0 w:World} {m:List (Ck C)} (h:MemOK S w0 w m) (hl:memLt m.length m=true) {x:Ck C} (hx:x.cells=.dead) (hS:x.wr=true→x.on=true→x.block<w0.heap.size→S.set x.block) (hb:x.on=true→x.block<w.heap.size):MemOK S w0 w (m ++ [x]):=by
 have hm:∀ y,y∈m ++ [x]→y∈m∨y=x:=by intro y hy;simpa using hy
 have no:∀ {p:Prop},x.live=true→p:=fun h=>by simp [Ck.live,Ck.alive,hx] at h
 refine ⟨h.os,h.tape,h.output,h.size,h.keep,?_,?_,?_,?_,?_,?_⟩
 · intro y hy hw ho hb0
   rcases hm y hy with hy | rfl
   · exact h.inS y hy hw ho hb0
   · exact hS hw ho hb0
 · intro y hy ho
   rcases hm y hy with hy | rfl
   · exact Ck.ok_ads (ads_append m _) (memLt_mem hl hy) (h.ok y hy ho)
   · unfold Ck.ok;rw [hx];trivial
 · intro y hy hw hlv a ha
   rcases hm y hy with hy | rfl
   · exact h.wrok y hy hw hlv a ha
   · exact no hlv
 · intro i j hi hj hij hiw hil hjl
   simp only [List.length_append,List.length_singleton] at hi hj
   rw [nth_append] at hiw hil ⊢
   rw [nth_append] at hjl ⊢
   by_cases h1:i<m.length
   · by_cases h2:j<m.length
     · rw [if_pos h1] at hiw hil ⊢
       rw [if_pos h2] at hjl ⊢
       exact h.apart i j h1 h2 hij hiw hil hjl
     · rw [if_neg h2,if_pos (by omega)] at hjl
       exact no hjl
   · rw [if_neg h1,if_pos (by omega)] at hil
     exact no hil
 · intro y hy ho
   rcases hm y hy with hy | rfl
   · exact h.lt y hy ho
   · exact hb ho
 · refine h.more.mono h.inS (fun _ _ _=>rfl) (fun y hy hyl => ?_) h.size (zx _) (fun y hy => ?_)
   · rcases hm y hy with hy | rfl
     · exact .inl ⟨y,hy,hyl,rfl,id⟩
     · exact no hyl
   · rcases hm y hy with hy | rfl
     · exact CsIn.self hy
     · rw [hx];exact CsIn.other (fun _ _ e=>by cases e) (fun _ _ _ _ e=>by cases e)
theorem MemOK.withD {S:Sx} {w0 w:World}:∀ {mem m:List (Ck C)},MemOK S w0 w m→memLt m.length m=true→(∀ a∈mem,(a.wr=true→a.on=true→a.block<w0.heap.size→S.set a.block)∧(a.on=true→a.block<w.heap.size))→
 MemOK S w0 w (m ++ deads mem)∧memLt (m ++ deads mem).length (m ++ deads mem)=true
 | [],m,h,hl,_=>by simpa [deads] using ⟨h,hl⟩
 | ⟨b,ba,sz,wr,g,cs⟩ :: r,m,h,hl,hS=>by
   obtain ⟨h1,h2⟩:=hS _ (xe ..)
   have hm:=h.dead1 hl (x:=⟨b,ba,sz,wr,g,.dead⟩) rfl h1 h2
   have hl':memLt (m ++ [(⟨b,ba,sz,wr,g,.dead⟩:Ck C)]).length (m ++ [⟨b,ba,sz,wr,g,.dead⟩])=true:=memLt_app (memLt_mono (by simp) hl) (by simp [memLt,Ck.lt])
   have:=MemOK.withD hm hl' (fun a ha=>hS a (yv _ ha))
   simpa [deads] using this
theorem finP_ok {w w':World} {mem m out:List (Ck C)} {r res:SV} (h:finP mem r m res out) (hm:MemOK (wrS mem) w w' m) (hmem:MemOK (wrS mem) w w mem):
 MemOK (wrS mem) w w' out∧r.va (ads m)=res.va (ads out)∧Ext mem out:=by
 unfold finP at h
 split at h
 · exact h.elim
 rename_i hc
 obtain ⟨hml,hrl⟩:=Bool.and_eq_true_iff.1 hc
 split at h
 · rw [fP_eq,unifMemK_eq,fNames_eq] at h
   obtain ⟨h1,h2,h3,_⟩:=finR_ok h hm
   exact ⟨h1,h2,h3⟩
 · rw [fM_eq,fP_eq,unifMemK_eq,fNames_eq] at h
   have hD:=hm.withD (mem:=mem) hml (fun a ha=>⟨fun hw ho _=>⟨a,ha,hw,ho,rfl⟩,fun ho=>zk (hmem.lt a ha ho) hm.size⟩)
   obtain ⟨h1,h2,h3,_⟩:=finR_ok h hD.1
   refine ⟨h1,?_,h3⟩
   rw [← h2]
   refine SV.va_congr (fun c hc => ?_) r hrl
   simp [ads,nth_app,hc]
theorem run_callFunc {P : Program} {f : FuncId} {fn : Func} {c : Code} (hf : P.funcs[f]? = some fn) (hb : fn.body = some c) (hname : (fn.name == "runtime.NumGoroutine") = false) (vals : Array Value) (w : World) :
 (callFunc f vals).run P w=.ok (.enter f vals) w:=by
 have hname : ¬ fn.name = "runtime.NumGoroutine" := by simpa using hname
 simp [callFunc,hf,hname,hb]
theorem loc_fn {P:Program} (hmix:P.follows .mixedOrders=true) {E:Env P C} {L:List (Inv' C)} {f:FuncId} {fn:Func} {c:Code} {args:List SV} {mem:List (Ck C)} {alts:List (Alt C)}
 (hf : P.funcs[f]? = some fn) (hb : fn.body = some c) (hname : (fn.name == "runtime.NumGoroutine") = false) (hn : fn.ntmps = E.n) (hlen : vz args.length E.n = true) (hnc : noCnds args = true)
 (h:fexec E L fn c args mem fun r m=>.lf (Ends alts fun A y=>(finP mem r m (A.res y) (A.out y)).holds)):
 LocG P (.fn f) mem args fun r m'=>Ends alts fun A y=>r=A.res y∧m'=A.out y:=by
 intro w hm
 refine ⟨f,_,run_callFunc hf hb hname _ w,(fexec_ok hmix hf hb hn hlen hnc h w hm).mono ?_⟩
 rintro e w' ⟨r,m',rfl,hm',A,hA,y,hy,hfin⟩
 obtain ⟨hm'',hv,hx⟩:=finP_ok hfin hm' hm
 exact ⟨A.res y,A.out y,by rw [hv],hm'',hx,A,hA,y,hy,rfl,rfl⟩
theorem loc_pc {P:Program} (hmix:P.follows .mixedOrders=true) {E:Env P C} {L:List (Inv' C)} {f:FuncId} {fn:Func} {c:Code} {args:List SV} {mem:List (Ck C)} {res:SV}
 (hf : P.funcs[f]? = some fn) (hb : fn.body = some c) (hname : (fn.name == "runtime.NumGoroutine") = false) (hn : fn.ntmps = E.n) (hlen : vz args.length E.n = true) (hnc : noCnds args = true)
 (h:fexec E L fn c args mem fun r m=>finP mem r m res mem):
 LocG P (.fn f) mem args fun r m'=>r=res∧m'=mem:=by
 intro w hm
 refine ⟨f,_,run_callFunc hf hb hname _ w,(fexec_ok hmix hf hb hn hlen hnc h w hm).mono ?_⟩
 rintro e w' ⟨r,m',rfl,hm',hfin⟩
 obtain ⟨hm'',hv,hx⟩:=finP_ok hfin hm' hm
 exact ⟨res,mem,by rw [hv],hm'',hx,rfl,rfl⟩
end Go.Vx
namespace Go.Vx
open Go
variable {C:Nat→Codec}
end Go.Vx
namespace Go.Vx
open Go Go.RowKit
variable {C:Nat→Codec}
theorem memRo {w:World} {mem:List (Ck C)} (hnw:noWr mem=true) (hok:∀ c∈mem,c.on=true→Ck.ok (ads mem) w c) (hlt:∀ c∈mem,c.on=true→c.block<w.heap.size) (hmore:More (wrS mem) w w mem):MemOK (wrS mem) w w mem where
 more:=hmore
 os:=rfl
 tape:=⟨rfl,zx _⟩
 output:=rfl
 size:=zx _
 keep _ _ _:=rfl
 inS c hc hw ho _:=⟨c,hc,hw,ho,rfl⟩
 ok:=hok
 wrok c hc hw:=by rw [noWr_ok hnw c hc] at hw;cases hw
 apart i j hi _ _ hw:=by rw [noWr_ok hnw _ (nth_mem hi)] at hw;cases hw
 lt:=hlt
theorem Tells.calls {P : Program} {f : FuncId} {fn : Func} {c : Code} (hf : P.funcs[f]? = some fn) (hb : fn.body = some c) (hname : (fn.name == "runtime.NumGoroutine") = false) {mem : List (Ck C)} {args : List SV} {res : SV}
 (h:Tells P (.fn f) mem args res) (hnw:noWr mem=true) {w:World} (hm:MemOK (wrS mem) w w mem):
 Calls P f (SV.vas (ads mem) args).toArray w fun e w'=>e=.returned (res.va (ads mem))∧Below w.heap.size w w':=by
 obtain ⟨f',vals,hr,hc⟩:=h w hm
 rw [show tgSem (.fn f) (SV.vas (ads mem) args).toArray=callFunc f (SV.vas (ads mem) args).toArray from rfl,run_callFunc hf hb hname] at hr
 simp only [Result.ok.injEq,Next.enter.injEq,and_true] at hr
 obtain ⟨rfl,rfl⟩:=hr
 refine hc.mono ?_
 rintro e w' ⟨r,m',rfl,hm',_,rfl,rfl⟩
 refine ⟨rfl,hm'.os,hm'.tape.1,hm'.output,hm'.size,fun k hk=>hm'.keep k hk ?_⟩
 rintro ⟨c,hc,hw,_⟩
 rw [noWr_ok hnw c hc] at hw;cases hw
theorem okWide_at {P:Program} {w:World} {r:Reach} {base:Nat} {t e:TypeId} {a:Addr} {len cap:Nat} (ht:P.underlying t=some (.slice e)) (h:Value.okWide P w r base t (.slice (some a) len cap)):a.spot=none∧a.block<w.heap.size:=by
 simp only [Value.okWide,ht,Cell.okWide,Cell.ok,World.has] at h
 obtain ⟨_,_,_,h1,row,cells,h2,_⟩:=h
 refine ⟨h1,?_⟩
 unfold World.shape? at h2
 cases hb:w.heap[a.block]? with
 | none=>simp [hb] at h2
 | some o=>exact (Array.getElem?_eq_some_iff.1 hb).1
end Go.Vx
namespace Go.Vx
open Go Go.RowKit Go.ChangeShapes
def SentL (P:Program) (nm:String) (ti:TypeId):List (String×DataW Unit)→List Nat→Prop
 | [],[]=>True
 | x :: r,g :: s=>(∃ text,x.2=.iface nm (.ptr (.agg [.lit (.string text)])))∧P.globalNamed x.1=some g∧(P.globals[g]?).map (·.type)=some ti∧SentL P nm ti r s
 | _,_=>False
def SentAt (W:World) (tp:TypeId):List Nat→List Addr→Prop
 | [],[]=>True
 | g :: s,a :: t=>W.cell? ⟨g,0,none⟩=some (.iface tp (.pointer (some a)))∧(∃ c ty,W.heap[a.block]? = some (.cells c ty (0,0)))∧a∉t∧SentAt W tp s t
 | _,_=>False
theorem laid_all {P:Program} {W:World} {nm:String} {ti tp te ts:TypeId} {ms:Array (String×TypeId)} {f:Field}
 (hi:P.underlying ti=some (.interface ms)) (hrow:∀ u,P.typeName? 3 u=some nm→u=tp) (hp:P.underlying tp=some (.pointer te)) (he:P.underlying te=some (.struct #[f]))
 (hft:f.type=ts) (hfo:f.offset=0) (hs:P.underlying ts=some .string) (hc:P.cellsOf te=1) (hcs:P.cellsOf ts=1):
 ∀ (L:List (String×DataW Unit)) (G:List Nat) (ps:List MemPlace),SentL P nm ti L G→DataW.LaidVars P W L ps→ps.Nodup→
   (∀ b off,MemPlace.cell b off∈ps→(∃ c t,W.heap[b]? = some (.cells c t (0,0)))∧∀ u v,W.cell? ⟨b,off,none⟩=some (.iface u v)→Value.okWide P W .any 0 u v)→
   ∃ az,SentAt W tp G az∧∀ a∈az,MemPlace.cell a.block a.off∈ps
 | [],[],ps,_,_,_,_=>⟨[],trivial,fun a h=>by cases h⟩
 | [],_ :: _,_,h,_,_,_=>h.elim
 | _ :: _,[],_,h,_,_,_=>h.elim
 | (n,d) :: r,g :: s,ps,hL,hv,hnd,hrows=>by
   obtain ⟨⟨text,rfl⟩,hg,ht,hL⟩:=hL
   obtain ⟨g',t',cs,fu,p,q,hg',ht',hv0,hd,hq,rfl⟩:=hv
   obtain rfl:=Option.some.inj (hg.symm.trans hg')
   obtain rfl:=Option.some.inj (ht.symm.trans ht')
   obtain ⟨l⟩:=cs
   have ok0:∀ u v,l=[.iface u v]→Value.okWide P W .any 0 u v:=fun u v e=>by
    subst e
    exact (hrows g 0 (by simp [MemPlace.row])).2 u v (by simpa using World.var?_cell hg' hv0 0)
   obtain ⟨a,str,rfl,hca,hsa,hza,rfl⟩:=errorString_of_trod hi hrow hp he hft hfo hs hc hcs hd ok0
   have hsub:q.Sublist (MemPlace.row ⟨g,0,none⟩ (#[Value.iface tp (.pointer (some a))]).size ++ MemPlace.row a 1 ++ q):=List.sublist_append_right _ _
   obtain ⟨az,h1,h2⟩:=laid_all hi hrow hp he hft hfo hs hc hcs r s q hL hq (hnd.sublist hsub) (fun b off hm=>hrows b off (hsub.subset hm))
   refine ⟨a :: az,⟨by simpa using World.var?_cell hg' hv0 0,(hrows a.block a.off (by simp [MemPlace.row])).1,fun hm => ?_,h1⟩,fun x hx => ?_⟩
   · have:=h2 a hm
     have hd2:=(List.nodup_append.1 hnd).2.2 (.cell a.block a.off) (by simp [MemPlace.row]) _ this
     exact hd2 rfl
   · rcases List.mem_cons.1 hx with rfl | hx
     · simp [MemPlace.row]
     · exact hsub.subset (h2 x hx)
theorem SentAt.get {W:World} {tp:TypeId}:∀ {G:List Nat} {az:List Addr},SentAt W tp G az→∀ i,i<G.length→
 W.cell? ⟨G.getD i 0,0,none⟩=some (.iface tp (.pointer (some (az.getD i default))))∧∃ c ty,W.heap[(az.getD i default).block]? = some (.cells c ty (0,0))
 | [],_,_,i,h=>by simp at h
 | g :: s,[],h,_,_=>h.elim
 | g :: s,a :: t,h,0,_=>⟨h.1,h.2.1⟩
 | g :: s,a :: t,h,i+1,hi=>by simpa using SentAt.get h.2.2.2 i (by simpa using hi)
theorem SentAt.apart {W:World} {tp:TypeId}:∀ {G:List Nat} {az:List Addr},SentAt W tp G az→az.length=G.length∧az.Nodup
 | [],[],_=>⟨rfl,List.nodup_nil⟩
 | [],_ :: _,h=>h.elim
 | _ :: _,[],h=>h.elim
 | g :: s,a :: t,h=>by
   obtain ⟨h1,h2⟩:=SentAt.apart h.2.2.2
   exact ⟨by simp [h1],List.nodup_cons.2 ⟨h.2.2.1,h2⟩⟩
theorem SentAt.one {W:World} {tp:TypeId} {G:List Nat} {az:List Addr} (h:SentAt W tp G az) {i j:Nat} (hi:i<G.length) (hj:j<G.length) (he:az.getD i default=az.getD j default):i=j:=by
 obtain ⟨h1,h2⟩:=h.apart
 have hi':i<az.length:=by omega
 have hj':j<az.length:=by omega
 rw [zy,zy,zt hi',zt hj'] at he
 exact (List.getElem_inj h2).1 he
end Go.Vx
namespace Go.Vx
open Go Go.ChangeShapes Go.WideShapes Go.Deep Go.RowKit
variable {C:Nat→Codec}
def cellV (c:Codec) (b:c.α) (f:Nat):Value:=(((c.enc b).getD f .junk)).va noAd
def IsRows (c:Codec) (w:World) (a:Option Addr) (len cap:Nat) (zs:List c.α):Prop:=
 (a=none∧len=0∧cap=0∧zs=[])∨
 ∃ x,a=some x∧x.spot=none∧x.block<w.heap.size∧len≤cap∧zs.length=cap∧∀ i,i<cap→∀ f,f<c.sz→w.cell? (x.add (i*c.sz+f))=some (cellV c (zs.getD i c.dflt) f)
theorem rows_ok {ad:Nat→Ad} {w:World} {x:Addr} {t:Nat} {l:List (C t).α} {wr:Bool} {gl:Option Bool} (hx:x.spot=none) (hc:∀ i,i<l.length→∀ f,f<(C t).sz→w.cell? (x.add (i*(C t).sz+f))=some (cellV (C t) (l.getD i (C t).dflt) f)):
 Ck.ok ad w (⟨x.block,x.off,(C t).sz,wr,gl,.rows t l⟩:Ck C):=by
 unfold Ck.ok
 refine ⟨rfl,fun i hi f hf => ?_⟩
 have e:(⟨x.block,x.off+(i*(C t).sz+f),none⟩:Addr)=x.add (i*(C t).sz+f):=by
  unfold Addr.add
  split
  · rename_i h;rw [h]
    obtain ⟨b,o,s⟩:=x
    simp only at hx;subst hx;rfl
  · simp
 show w.cell? ⟨x.block,x.off+(i*(C t).sz+f),none⟩=_
 rw [e,hc i hi f hf]
 have hl:=(C t).len (l.getD i (C t).dflt)
 have e2:=congrArg (fun L=>L[f]?) ((C t).flat (l.getD i (C t).dflt) noAd ad)
 simp only [List.getElem?_map,zt (show f<((C t).enc (l.getD i (C t).dflt)).length by omega),yk,Option.some.injEq] at e2
 unfold cellV
 rw [zy (l:=(C t).enc (l.getD i (C t).dflt)),zt (show f<((C t).enc (l.getD i (C t).dflt)).length by omega)]
 exact congrArg some e2
end Go.Vx
namespace Go.Vx
open Go Go.ChangeShapes Go.WideShapes Go.Deep Go.RowKit
variable {C:Nat→Codec}
def IsPart (c:Codec) (w:World) (a:Option Addr) (len cap:Nat) (zs:List c.α):Prop:=
 (a=none∧len=0∧cap=0∧zs=[])∨
 ∃ x,a=some x∧x.spot=none∧x.block<w.heap.size∧len≤cap∧len≤zs.length∧∀ i,i<zs.length→∀ f,f<c.sz→w.cell? (x.add (i*c.sz+f))=some (cellV c (zs.getD i c.dflt) f)
theorem IsRows.part {c:Codec} {w:World} {a:Option Addr} {len cap:Nat} {zs:List c.α} (h:IsRows c w a len cap zs):IsPart c w a len cap zs:=by
 rcases h with h | ⟨x,h1,h2,h3,h4,h5,h6⟩
 · exact .inl h
 · exact .inr ⟨x,h1,h2,h3,h4,by omega,fun i hi=>h6 i (by omega)⟩
theorem deep_ro {W:World} {mem:List (Ck C)} (hnw:noWr mem=true) (h:∀ c∈mem,∀ t x,c.cells.Has t x→(C t).good W x∧∀ b∈(C t).blks x,b<W.heap.size):
 ∀ c∈mem,∀ t x,c.cells.Has t x→(C t).good W x∧∀ b∈(C t).blks x,Blk (wrS mem) W W mem ((C t).own && c.wr) b:=by
 intro c hc t x hx
 obtain ⟨h1,h2⟩:=h c hc t x hx
 refine ⟨h1,fun b hb=>⟨h2 b hb,fun _=>.inr ⟨by rw [noWr_ok hnw c hc,Bool.and_false],c,hc,t,x,hx,hb⟩,fun c' hc' hw => ?_,fun p hp=>by cases hp⟩⟩
 rw [noWr_ok hnw c' hc'] at hw;cases hw
def inB (a:Option Addr):Nat:=match a with
 | none=>0
 | some x=>x.block
def inQ (a:Option Addr):Nat:=match a with
 | none=>0
 | some x=>x.off
abbrev inCk (t:Nat) (a:Option Addr) (l:List (C t).α):Ck C:=⟨inB a,inQ a,(C t).sz,false,some a.isSome,.rows t l⟩
theorem IsPart.ok {W:World} {t:Nat} {a:Option Addr} {n c:Nat} {l:List (C t).α} (h:IsPart (C t) W a n c l) (ad:Nat→Ad) (ho:(inCk t a l:Ck C).on=true):Ck.ok ad W (inCk t a l:Ck C):=by
 rcases h with ⟨rfl,_⟩ | ⟨x,rfl,hx,hb,hl,hz,hc⟩
 · cases ho
 · exact rows_ok hx hc
theorem IsPart.lt {W:World} {t:Nat} {a:Option Addr} {n c:Nat} {l:List (C t).α} (h:IsPart (C t) W a n c l) (ho:(inCk t a l:Ck C).on=true):(inCk t a l:Ck C).block<W.heap.size:=by
 rcases h with ⟨rfl,_⟩ | ⟨x,rfl,hx,hb,hl,hz,hc⟩
 · cases ho
 · exact hb
theorem IsPart.sq {c':Codec} {W:World} {a:Option Addr} {n c:Nat} {l:List c'.α} (h:IsPart c' W a n c l):n≤c∧n≤l.length∧(a.isSome=false→n=0∧c=0):=by
 rcases h with ⟨rfl,rfl,rfl,rfl⟩ | ⟨x,rfl,hx,hb,hl,hz,hc⟩
 · exact ⟨zx _,zx _,fun _=>⟨rfl,rfl⟩⟩
 · exact ⟨hl,hz,fun h=>by cases h⟩
theorem IsPart.va {W:World} {t:Nat} {a:Option Addr} {n c:Nat} {l:List (C t).α} (h:IsPart (C t) W a n c l) {ad:Nat→Ad} {i:Nat} (hi:ad i=(inCk t a l:Ck C).ad):SV.va ad (.sl i 0 n c)=.slice a n c:=by
 rcases h with ⟨rfl,rfl,rfl,rfl⟩ | ⟨x,rfl,hx,hb,hl,hz,hc⟩
 · simp only [SV.va,hi];rfl
 · simp only [SV.va,hi]
   obtain ⟨b,o,s⟩:=x
   simp only at hx;subst hx
   simp [Ck.ad,Ck.on,Ad.at,inB,inQ]
end Go.Vx
namespace Go.Vx
open Go
variable {C:Nat→Codec}
def FR:Option Nat→Fence
 | none=>Fence.wide
 | some l=>Fence.wide.inRound l
theorem FR_fn (r:Option Nat) (f:FuncId):(FR r).fn f:=by cases r <;> trivial
theorem FR_depth (r:Option Nat):(FR r).depth=none:=by cases r <;> rfl
theorem FR_fenced (P:Program) (r:Option Nat):Machine.fenced P (FR r)=Machine.fenced P Fence.wide:=by cases r <;> rfl
theorem callsFR {r:Option Nat} {n:Nat} {P:Program} {f:FuncId} {args:Array Value} {w:World} {R:Ending→World→Prop} (h:Calls P f args w R):CallsIn (FR r) n P f args w R:=by
 cases r with
 | none=>exact callsIn_wide.2 h
 | some l=>exact (callsIn_wide (n:=n)).2 h
theorem rowsFR {r:Option Nat} {n:Nat} {P:Program} {row:String} {args:Array Value} {w:World} {R:Value→World→Prop} (h:Rows P row args w R):RowsIn (FR r) n P row args w R:=by
 intro c cs _
 obtain ⟨v,w',hr,hs⟩:=h c cs
 exact ⟨v,w',hr,by rw [FR_fenced];exact stepsIn_wide.2 hs⟩
def wa (a:Act) (ds:List Deferred):Act:={ a with defers:=a.defers ++ ds }
theorem wa_eval (a:Act) (ds:List Deferred):(wa a ds).eval=a.eval:=by funext x;cases x <;> rfl
theorem wa_put (a:Act) (ds:List Deferred) (dst:Option Tmp) (v:Value):(wa a ds).put dst v=wa (a.put dst v) ds:=by cases dst <;> rfl
def liftN (ds:List Deferred) (K:Act→World→Prop) (a:Act) (w:World):Prop:=∃ b,K b w∧a=wa b ds
def liftQ (ds:List Deferred) (Q:Exit→Act→World→Prop) (e:Exit) (a:Act) (w:World):Prop:=∃ b,Q e b w∧a=wa b ds
def isDefer:Op→Bool
 | .defer _=>true
 | _=>false
def noDefer:List Oper→Bool
 | []=>true
 | o :: r=>match isDefer o.op with
   | true=>false
   | false=>noDefer r
theorem noDefer_ok:∀ {l:List Oper},noDefer l=true→∀ o∈l,∀ c,o.op≠.defer c
 | [],_,o,ho=>by cases ho
 | x :: r,h,o,ho=>by
   simp only [noDefer] at h
   split at h
   · cases h
   · rename_i hx
     rcases List.mem_cons.1 ho with rfl | ho
     · intro c hc;rw [hc] at hx;cases hx
     · exact noDefer_ok h o ho
theorem wpIn_of_wp {P:Program} {r:Option Nat} {n:Nat} {o:Oper} (hnd:∀ c,o.op≠.defer c) {a:Act} {w:World} {ds:List Deferred} {next:Act→World→Prop} {Q Q':Exit→Act→World→Prop} (h:o.wp P a w next Q) (hQ:∀ e b w,Q e b w→Q' e (wa b ds) w):
 o.wpIn (FR r) n P (wa a ds) w (liftN ds next) Q':=by
 refine ⟨fun f _=>FR_fn r f,?_⟩
 rw [wa_eval,Oper.semAt_eq _ _ _ hnd]
 unfold Oper.wp at h
 generalize (execOp a.eval o).run P w=res at h
 have hd:∀ {p:Prop},(FR r).depth.isSome=true→p:=fun h=>by rw [FR_depth] at h;cases h
 cases res with
 | ok nx w'=>
   cases nx with
   | value v=>exact ⟨_,h,wa_put a ds _ _⟩
   | skip=>exact ⟨_,h,wa_put a ds _ _⟩
   | defer d=>
     refine ⟨_,h,?_⟩
     show ({ wa a ds with defers:=d :: (a.defers ++ ds) }:Act).put o.dst undef=_
     cases o.dst <;> rfl
   | enter f args=>
     refine ⟨hd,(callsFR h).mono ?_⟩
     intro e w'' he
     cases e with
     | returned v=>exact ⟨_,he,wa_put a ds _ _⟩
     | panicked c=>exact hQ _ _ _ he
     | outgrown=>obtain ⟨b,u,hb⟩:=he;exact ⟨wa b ds,u,hQ _ _ _ hb⟩
   | row row args=>exact ⟨hd,(rowsFR h).mono fun v w'' he=>⟨_,he,wa_put a ds _ _⟩⟩
   | _=>exact h.elim
 | halt x w'=>
   cases x with
   | panic v=>exact hQ _ _ _ h
   | _=>exact h.elim
theorem wpAnyIn_of {P:Program} {r:Option Nat} {n:Nat} {md:Region.Mode} {ops:Array Oper} (hnd:∀ (i:Nat) (o:Oper),ops[i]? = some o→∀ c,o.op≠.defer c) {ds:List Deferred} {Q:Exit→Act→World→Prop} (hQ:∀ a w,¬ Q .outgrown a w):
 ∀ (fuel:Nat) (listed:Array Bool) (a:Act) (w:World),wpAny P md ops Q fuel listed a w→wpAnyIn (FR r) n P md ops (liftQ ds Q) fuel listed (wa a ds) w
 | 0,listed,a,w,h=>⟨h.1,a,h.2,rfl⟩
 | fuel+1,listed,a,w,h=>by
   refine ⟨fun h0=>⟨a,h.1 h0,rfl⟩,fun i hi => ?_⟩
   have h1:=h.2 i hi
   unfold wpOp at h1
   unfold wpOpIn
   cases ho:ops[i]? with
   | none=>rw [ho] at h1;exact wpAnyIn_of hnd hQ fuel _ a w h1
   | some o=>
     rw [ho] at h1
     simp only at h1 ⊢
     have ht:(wa a ds).tmps=a.tmps:=rfl
     rw [ht]
     split
     · rename_i hw
       rw [if_pos hw] at h1
       rcases h1 with h1 | ⟨_,b,u,hb⟩
       · refine Oper.wpIn_mono ?_ (wpIn_of_wp (hnd i o ho) h1 fun e b w hb=>⟨b,hb,rfl⟩)
         rintro a' w' ⟨b,hb,rfl⟩
         exact wpAnyIn_of hnd hQ fuel _ b w' hb
       · exact (hQ _ _ hb).elim
     · rename_i hw
       rw [if_neg hw] at h1
       refine ⟨fun f _=>FR_fn r f,?_⟩
       rw [wa_put]
       exact wpAnyIn_of hnd hQ fuel _ _ w h1
end Go.Vx
namespace Go.Vx
open Go
variable {C:Nat→Codec}
theorem draw_any {P:Program} {S:Sx} {w0 w:World} {E:Env P C} {ops:Array Oper} {Q:Act→World→Prop} {tm:Tm} {m:List (Ck C)} {K:Tm→List (Ck C)→Tr} {a:Act}
 {F:List Nat} {pl:PTree} (hp:planned ops pl=true) (hin:inMem F m) (hs:splan E ops F m pl tm m K) (h:ActOK (ads m) E.n tm a) (hm:MemOK S w0 w m)
 (hq:∀ tm' m' a' w',K tm' m'→ActOK (ads m') E.n tm' a'→MemOK S w0 w' m'→(m.length≤m'.length∧∀ k,k<m.length→ads m k=ads m' k)→Q a' w'):
 wpAny P .any ops (fun e a w=>match e with | .normal=>Q a w | _=>False) ops.size (ut ops.size false) a { w with drawn:=w.drawn+1 }:=by
 unfold planned at hp
 simp only [zn] at hp
 obtain ⟨⟨h1,h2⟩,h3⟩:=hp
 have h3:=zp h3
 obtain ⟨hm0,hF⟩:=inMem_ok hin
 have:=splan_ok (S:=S) (w0:=w0) hm0 (Q:=fun e a w=>match e with | .normal=>Q a w | _=>False) (fun c a w hc=>hc) (L:=lates pl) (F0:=F) h1 pl false F [] _ tm m K a (by simp) h2 hs GsOK.nil h hm.glob (fun _ _=>rfl) (zx _) (fun c hc=>⟨hF c hc,rfl⟩) rfl (fun tm' m' a' w' hk h' hm' hg=>hq _ _ _ _ hk h' hm' hg)
 rw [h3] at this
 exact wpAT_any _ _ _ _ (Hy_sound _ _ _ _ (fun l w _ hm=>⟨.inr (Stay.of hm hm0 (fun _ _=>rfl) (fun _ _=>rfl)),Stay.none hm⟩) this hm.drew)
def FixOK (A0:Nat→Ad) (fx:List Nat) (m:List (Ck C)):Prop:=∀ c∈fx,c<m.length∧ads m c=A0 c
theorem FixOK.grow {A0:Nat→Ad} {fx:List Nat} {m m':List (Ck C)} (h:FixOK A0 fx m) (hl:m.length≤m'.length) (ha:∀ k,k<m.length→ads m k=ads m' k):FixOK A0 fx m':=by
 intro c hc
 obtain ⟨h1,h2⟩:=h c hc
 exact ⟨by omega,(ha c h1).symm.trans h2⟩
def fixB (ρ:List Nat) (n:Nat):List Nat→Bool
 | []=>true
 | c :: r=>zj (rn ρ c) c && xz c n && fixB ρ n r
theorem fixB_ok {ρ:List Nat} {n:Nat}:∀ {fx:List Nat},fixB ρ n fx=true→∀ c∈fx,rn ρ c=c∧c<n
 | [],_,c,hc=>by cases hc
 | x :: r,h,c,hc=>by
   simp only [fixB,zn] at h
   rcases List.mem_cons.1 hc with rfl | hc
   · exact ⟨zp h.1.1,by simpa using h.1.2⟩
   · exact fixB_ok h.2 c hc
mutual
def SV.nm:SV→List Nat
 | .ptr c _ _=>[c]
 | .sl c _ _ _=>[c]
 | .mp c=>[c]
 | .agg vs=>SV.nms vs
 | .tup vs=>SV.nms vs
 | .ifc _ v=>SV.nm v
 | .fn _ a b=>SV.nms a ++ SV.nms b
 | .cnd _ v=>SV.nm v
 | _=>[]
def SV.nms:List SV→List Nat
 | []=>[]
 | v :: r=>SV.nm v ++ SV.nms r
end
mutual
theorem SV.va_nm {ad ad':Nat→Ad}:∀ v:SV,(∀ c∈v.nm,ad c=ad' c)→SV.va ad v=SV.va ad' v
 | .junk,_ | .undef,_ | .int _ _,_ | .bool _,_ | .nilp,_ | .nils,_ | .nili,_ | .nilf,_ | .gp _,_ | .val _,_=>by simp [SV.va]
 | .ptr c i f,h=>by simp [SV.va,h c (by simp [SV.nm])]
 | .sl c i f m,h=>by simp [SV.va,h c (by simp [SV.nm])]
 | .mp c,h=>by simp [SV.va,h c (by simp [SV.nm])]
 | .agg vs,h=>by simp [SV.va,SV.vas_nm vs (by simpa [SV.nm] using h)]
 | .tup vs,h=>by simp [SV.va,SV.vas_nm vs (by simpa [SV.nm] using h)]
 | .ifc t v,h=>by simp [SV.va,SV.va_nm v (by simpa [SV.nm] using h)]
 | .fn f a b,h=>by
   simp only [SV.nm,uf] at h
   simp [SV.va,SV.vas_nm a (fun c hc=>h c (.inl hc)),SV.vas_nm b (fun c hc=>h c (.inr hc))]
 | .cnd cs v,h=>by simp [SV.va,SV.va_nm v (by simpa [SV.nm] using h)]
theorem SV.vas_nm {ad ad':Nat→Ad}:∀ vs:List SV,(∀ c∈SV.nms vs,ad c=ad' c)→SV.vas ad vs=SV.vas ad' vs
 | [],_=>rfl
 | v :: r,h=>by
   simp only [SV.nms,uf] at h
   simp [SV.vas,SV.va_nm v (fun c hc=>h c (.inl hc)),SV.vas_nm r (fun c hc=>h c (.inr hc))]
end
def tmNm:Tm→List Nat
 | []=>[]
 | (_,v) :: r=>SV.nm v ++ tmNm r
theorem tmNm_get:∀ {tm:Tm} {t c:Nat},c∈(get tm t).nm→c∈tmNm tm
 | [],t,c,h=>by simp [get,SV.nm] at h
 | (k,v) :: r,t,c,h=>by
   rw [get_put] at h
   simp only [tmNm,uf]
   split at h
   · exact .inl h
   · exact .inr (tmNm_get h)
theorem ActOK.fixed {ad ad':Nat→Ad} {n:Nat} {tm:Tm} {a:Act} (h:ActOK ad n tm a) (he:∀ c∈tmNm tm,ad c=ad' c):ActOK ad' n tm a:=by
 refine ⟨h.defers,h.size,fun t => ?_,h.inv⟩
 rcases h.tmps t with h1 | h1
 · exact .inl h1
 · right;rw [h1,SV.va_nm _ (fun c hc=>he c (tmNm_get hc))]
def subRx (fx:List Nat) (tm:Tm) (m:List (Ck C)) (tm':Tm) (m':List (Ck C)) (ρ:List Nat):Tr:=
 match fx with
 | []=>subR tm m tm' m' ρ
 | _ :: _=>match allLt m.length ρ && fixB ρ m'.length fx with
   | false=>.no
   | true=>subR tm m tm' m' ρ
def subPx (fx:List Nat) (tm:Tm) (m:List (Ck C)) (tm':Tm) (m':List (Ck C)) (acc:List (Nat×Nat)):Tr:=
 fP acc fun acc=>unifMemK m 0 m' acc fun A=>fNames (namesOf A 0 m') fun ρ=>subRx fx tm m tm' m' ρ
theorem subPx_ok {S:Sx} {w0 w:World} {n:Nat} {fx:List Nat} {A0:Nat→Ad} {tm tm':Tm} {m m':List (Ck C)} {acc:List (Nat×Nat)} (h:subPx fx tm m tm' m' acc) {a:Act} (ha:ActOK (ads m) n tm a) (hm:MemOK S w0 w m) (hx:FixOK A0 fx m):
 ActOK (ads m') n tm' a∧MemOK S w0 w m'∧FixOK A0 fx m':=by
 unfold subPx at h
 rw [fP_eq,unifMemK_eq,fNames_eq] at h
 unfold subRx at h
 split at h
 · have hP:(subP tm m tm' m' acc).holds:=by rw [subP_eq];exact h
   obtain ⟨h1,h2⟩:=subP_ok hP ha hm
   exact ⟨h1,h2,fun c hc=>by cases hc⟩
 split at h
 · exact h.elim
 rename_i hf
 obtain ⟨hall,hf⟩:=Bool.and_eq_true_iff.1 hf
 obtain ⟨⟨h1,h2⟩,h3⟩:=subR_ok h ha hm
 refine ⟨h1,h2,fun c hc => ?_⟩
 obtain ⟨hr,hl⟩:=fixB_ok hf c hc
 refine ⟨hl,?_⟩
 rw [h3 hall c hl,hr]
 exact (hx c hc).2
abbrev PJ:=Option Ex
abbrev Yf (C:Nat→Codec):=List SV→Tm→List (Ck C)→(Bool→PJ→List (Ck C)→Tr)→Tr
abbrev Rf (C:Nat→Codec):=Operand→Array Tmp→Code→Code→Tm→List (Ck C)→(Ex→Tm→List (Ck C)→Tr)→Tr
def yieldOf (tm:Tm) (m:List (Ck C)) (o:Oper):Option (Nat×List SV):=
 match o.guard with
 | some _=>none
 | none=>match o.op with
   | .call c=>match c.callee with
     | .value f=>match ev tm m [] f,optAll (ev tm m []) c.args.toList with
       | some (.fn (.yield l) [] []),some az=>some (l,az)
       | _,_=>none
     | _=>none
   | _=>none
def stepY {P:Program} (E:Env P C) (Y:Option (Nat×Yf C)) (ops:Array Oper) (o:Oper) (pj:PJ) (tm:Tm) (m:List (Ck C)) (K:PJ→Tm→List (Ck C)→Tr):Tr:=
 match Y with
 | none=>stepP E ops o tm m (K pj)
 | some (l,go)=>match yieldOf tm m o with
   | none=>stepP E ops o tm m (K pj)
   | some (l',az)=>match pj with
     | some _=>.no
     | none=>.and (.lf (l'=l)) (go az tm m fun b pj' m'=>match put? E.n tm o.dst [] (.bool (SB.lit b)) with
       | some tm'=>K pj' tm' m'
       | none=>.no)
def sopsG {P:Program} (E:Env P C) (Y:Option (Nat×Yf C)) (ops:Array Oper):List Oper→PJ→Tm→List (Ck C)→(PJ→Tm→List (Ck C)→Tr)→Tr
 | [],pj,tm,m,K=>K pj tm m
 | o :: r,pj,tm,m,K=>stepY E Y ops o pj tm m fun pj' tm' m'=>fTm1 tm' fun tm'=>fM m' fun m'=>sopsG E Y ops r pj' tm' m' K
structure Gs where
 r:Option Nat
 Sp:PJ→List Nat→Sx
 w0:World
 dm:List Nat→List Deferred
 A0:Nat→Ad
 fx:List Nat
def YOK (P:Program) (G:Gs) (Y:Option (Nat×Yf C)):Prop:=
 ∀ l go,Y=some (l,go)→∀ az tm (m:List (Ck C)) Kc w ds R,(go az tm m Kc:Tr).holds→MemOK (G.Sp none ds) G.w0 w m→FixOK G.A0 G.fx m→
   (∀ b pj m' w',(Kc b pj m').holds→MemOK (G.Sp pj ds) G.w0 w' m'→FixOK G.A0 G.fx m'→(∀ c∈tmNm tm,c<m'.length∧ads m' c=ads m c)→R (.returned (.bool b)) w')→
   ∃ fn tmps assign body,(Instr.yield l (SV.vas (ads m) az).toArray).run P w=.ok (.round l fn tmps assign body) w∧RoundIn (FR G.r) 0 P l fn tmps assign body w R
def ROK (P:Program) (n:Nat) (G:Gs) (RF:Rf C):Prop:=
 ∀ g ps az bd tm (m:List (Ck C)) K a w (Q:Exit→Act→World→Prop) ds,(RF g ps az bd tm m K).holds→ActOK (ads m) n tm a→MemOK (G.Sp none ds) G.w0 w m→FixOK G.A0 G.fx m→
   (∀ e tm' m' a' w' ds',(K e tm' m').holds→ActOK (ads m') n tm' a'→MemOK (G.Sp none ds') G.w0 w' m'→FixOK G.A0 G.fx m'→Q (Ex.of e) (wa a' (G.dm ds')) w')→(Code.rangeFunc g ps az bd).wpIn (FR G.r) 0 P Q (wa a (G.dm ds)) w
theorem sopsG_ok {P:Program} {G:Gs} {E:Env P C} {Y:Option (Nat×Yf C)} (hY:YOK P G Y) {ops:Array Oper} {ds:List Nat} {Q:Exit→Act→World→Prop}:∀ {l:List Oper} (hnd:∀ o∈l,∀ c,o.op≠.defer c) {pj:PJ} {tm:Tm} {m:List (Ck C)} {K:PJ→Tm→List (Ck C)→Tr} {a:Act} {w:World},
 (sopsG E Y ops l pj tm m K).holds→ActOK (ads m) E.n tm a→MemOK (G.Sp pj ds) G.w0 w m→FixOK G.A0 G.fx m→
 (∀ pj' tm' m' a' w',(K pj' tm' m').holds→ActOK (ads m') E.n tm' a'→MemOK (G.Sp pj' ds) G.w0 w' m'→FixOK G.A0 G.fx m'→Q .normal (wa a' (G.dm ds)) w')→wpListIn (FR G.r) 0 P ops Q l (wa a (G.dm ds)) w
 | [],_,pj,tm,m,K,a,w,hs,h,hm,hx,hq=>hq _ _ _ _ _ hs h hm hx
 | o :: r,hnd,pj,tm,m,K,a,w,hs,h,hm,hx,hq=>by
   have hndr:∀ o∈r,∀ c,o.op≠.defer c:=fun o ho=>hnd o (yv _ ho)
   have ht:(wa a (G.dm ds)).tmps=a.tmps:=rfl
   have plain:stepP E ops o tm m (fun tm' m'=>fTm1 tm' fun tm'=>fM m' fun m'=>sopsG E Y ops r pj tm' m' K)→wpListIn (FR G.r) 0 P ops Q (o :: r) (wa a (G.dm ds)) w:=by
    intro hs
    obtain ⟨h1,h2⟩:=stepP_ok (Q:=fun _ _ _=>False) (next:=fun a' w'=>wpListIn (FR G.r) 0 P ops Q r (wa a' (G.dm ds)) w') hs h hm (fun tm' m' a' w' hk h' hm' hads=>by
     simp only [fTm1_eq,fM_eq] at hk
     exact sopsG_ok hY hndr hk h' hm' (hx.grow hads.1 hads.2) hq)
    unfold wpListIn
    rw [ht]
    split
    · rename_i hw
      refine Oper.wpIn_mono ?_ (wpIn_of_wp (r:=G.r) (n:=0) (ds:=G.dm ds) (hnd o (xe ..)) (h1 hw) fun e b w hb=>hb.elim)
      rintro a' w' ⟨b,hb,rfl⟩;exact hb
    · rename_i hw
      refine ⟨fun f _=>FR_fn _ f,?_⟩
      rw [wa_put]
      exact h2 (by simpa using hw)
   simp only [sopsG] at hs
   unfold stepY at hs
   split at hs
   · exact plain hs
   · rename_i l go
     split at hs
     · exact plain hs
     · rename_i l' az hyo
       split at hs
       · exact hs.elim
       obtain ⟨hl,hs⟩:=hs
       have hl:l'=l:=hl
       subst hl
       -- the call
       unfold yieldOf at hyo
       split at hyo <;> try contradiction
       rename_i hg
       split at hyo <;> try contradiction
       rename_i c hop
       split at hyo <;> try contradiction
       rename_i fo hcal
       split at hyo <;> try contradiction
       rename_i l2 as2 hf has
       simp only [Option.some.injEq,Prod.mk.injEq] at hyo
       obtain ⟨rfl,rfl⟩:=hyo
       have hnil:AlOK tm []:=by intro p hp;cases hp
       have ef:=ev_ok h hm.glob hnil _ _ hf
       have eas:=optAll_ok (g:=SV.va (ads m)) (ev_ok h hm.glob hnil) has
       unfold wpListIn
       rw [ht,if_pos (by simp [Region.wanted,hg])]
       refine ⟨fun f _=>FR_fn _ f,?_⟩
       rw [wa_eval,Oper.semAt_eq _ _ _ (hnd o (xe ..))]
       obtain ⟨fn,tmps,assign,body,hy,hR⟩:=hY _ _ rfl as2 tm m _ w ds (fun e w''=>match e with
        | .returned v=>wpListIn (FR G.r) 0 P ops Q r ((wa a (G.dm ds)).put o.dst v) w''
        | _=>False) hs hm hx (by
        intro b pj' m' w' hk hm' hx' hfx
        split at hk
        · rename_i tm' hp
          show wpListIn (FR G.r) 0 P ops Q r ((wa a (G.dm ds)).put o.dst (.bool b)) w'
          rw [wa_put]
          have hA:ActOK (ads m') E.n tm a:=h.fixed (fun c hc=>((hfx c hc).2).symm)
          have hA':=put_ok hA hp (by simp) (.bool b) (by simp [mkc,SV.va,SB.val_lit])
          simp only [fTm1_eq,fM_eq] at hk
          exact sopsG_ok hY hndr hk hA' hm' hx' hq
        · exact hk.elim)
       have hexec:(execOp a.eval o).run P w=.ok (.round l2 fn tmps assign body) w:=by
        have hargs:c.args.map a.eval=(SV.vas (ads m) as2).toArray:=by
         apply xm
         simp [SV.vas_eq,eas]
        obtain ⟨dst,op,type,pos,after,guard⟩:=o
        simp only at hop
        subst hop
        obtain ⟨callee,args,argTypes⟩:=c
        simp only at hcal
        subst hcal
        simp only at hargs
        simp only [execOp,resolve,ef,SV.va,SV.vas,hargs,Deferred.ofValue]
        simp [invoke,hy]
       rw [hexec]
       refine ⟨fun hd=>(by rw [FR_depth] at hd;cases hd),hR.mono ?_⟩
       intro e w'' he
       cases e with
       | returned v=>exact he
       | panicked _=>exact he.elim
       | outgrown=>exact he.elim
def sregG {P:Program} (E:Env P C) (Y:Option (Nat×Yf C)) (id:Nat) (ops:Array Oper) (draw:Bool) (pj:PJ) (tm:Tm) (m:List (Ck C)) (K:PJ→Tm→List (Ck C)→Tr):Tr:=
 match noDefer ops.toList with
 | false=>.no
 | true=>match draw with
   | false=>sopsG E Y ops ops.toList pj tm m K
   | true=>match findPlan id E.plans with
     | none=>.and (.lf (Region.lexB .any ops=true)) (sopsQ E ops ops.toList tm m (K pj))
     | some (F,pl)=>.and (.lf (planned ops pl=true)) (.and (inMem (frozen tm F) m) (splan E ops (frozen tm F) m pl tm m (K pj)))
def sexecG {P:Program} (E:Env P C) (L:List (Inv' C)) (fx:List Nat) (Y:Option (Nat×Yf C)) (RF:Rf C):Code→PJ→Tm→List (Ck C)→(Ex→PJ→Tm→List (Ck C)→Tr)→Tr
 | .skip,pj,tm,m,K=>K .nor pj tm m
 | .region id ops draw,pj,tm,m,K=>sregG E Y id ops draw pj tm m fun pj' tm' m'=>K .nor pj' tm' m'
 | .seq a b,pj,tm,m,K=>match findJ b L with
   | []=>sexecG E L fx Y RF a pj tm m fun e pj' tm' m'=>match e with
     | .nor=>sexecG E L fx Y RF b pj' tm' m' K
     | e=>K e pj' tm' m'
   | I0 :: Ir=>match pj with
     | some _=>.no
     | none=>fL (I0 :: Ir) fun Is=>fLN (writes a) fun ws=>
       .and (sexecG E L fx Y RF a none tm m fun e pj' tm' m'=>match e with
        | .nor=>match pj' with
          | some _=>.no
          | none=>Tr.lf (Stands Is fun I' x'=>I'.inv x'∧(linked (noP (I'.mem x' m) m ++ linkP ws tm (I'.tm x')) (subPx fx tm' m' (I'.tm x' ++ keepTm (keysOf (I'.tm x') ++ ws) tm) (I'.mem x' m) (unifTm tm' (I'.tm x')))).holds)
        | e=>K e pj' tm' m')
       (allI Is fun I=>.all fun x=>ifNo (linkNo ws tm (I.tm x)) (ifNo (notApp (I.mem x m) m) (.imp (I.inv x) (linkT (linkP ws tm (I.tm x)) (fTm (I.tm x ++ keepTm (keysOf (I.tm x) ++ ws) tm) fun tmL=>fM (I.mem x m) fun mL=>sexecG E L fx Y RF b none tmL mL K)))))
 | .cond c x y,pj,tm,m,K=>match ev tm m [] c with
   | some (.bool .t)=>sexecG E L fx Y RF x pj tm m K
   | some (.bool .f)=>sexecG E L fx Y RF y pj tm m K
   | some (.bool (.tm b))=>.and (.imp (b=true) (sexecG E L fx Y RF x pj tm m K)) (.imp (b=false) (sexecG E L fx Y RF y pj tm m K))
   | _=>.no
 | .block id c,pj,tm,m,K=>sexecG E L fx Y RF c pj tm m fun e pj' tm' m'=>match e with
   | .exit i=>match zj i id with
     | true=>K .nor pj' tm' m'
     | false=>K (.exit i) pj' tm' m'
   | e=>K e pj' tm' m'
 | .loop c,pj,tm,m,K=>match pj with
   | some _=>.no
   | none=>fL (findInvs (firstId c) L) fun Is=>fLN (writes c) fun ws=>
     .and (.lf (Stands Is fun I x0=>I.inv x0∧(linked (noP (I.mem x0 m) m ++ linkP ws tm (I.tm x0)) (subPx fx tm m (I.tm x0 ++ keepTm (keysOf (I.tm x0) ++ ws) tm) (I.mem x0 m) (unifTm tm (I.tm x0)))).holds))
      (allI Is fun I=>.all fun x=>ifNo (linkNo ws tm (I.tm x)) (ifNo (notApp (I.mem x m) m) (.imp (I.inv x) (linkT (linkP ws tm (I.tm x)) (fTm (I.tm x ++ keepTm (keysOf (I.tm x) ++ ws) tm) fun tmL=>fM (I.mem x m) fun mL=>sexecG E L fx Y RF c none tmL mL fun e pj' tm' m'=>match e with
        | .nor=>match pj' with
          | some _=>.no
          | none=>Tr.lf (Stands Is fun I' x'=>I'.inv x'∧I'.meas x'<I.meas x∧(linked (noP (I'.mem x' m) m ++ linkP ws tm (I'.tm x')) (subPx fx tm' m' (I'.tm x' ++ keepTm (keysOf (I'.tm x') ++ ws) tm) (I'.mem x' m) (unifTm tm' (I'.tm x')))).holds)
        | e=>K e pj' tm' m')))))
 | .exit id,pj,tm,m,K=>K (.exit id) pj tm m
 | .ret,pj,tm,m,K=>K .ret pj tm m
 | .rangeFunc g ps az bd,pj,tm,m,K=>match pj with
   | some _=>.no
   | none=>RF g ps az bd tm m fun e tm' m'=>K e none tm' m'
 | _,_,_,_,_=>.no
theorem wpIn_loop' {F:Fence} {n:Nat} {P:Program} {Q:Exit→Act→World→Prop} {a:Act} {w:World} {c:Code} (I:Nat→Act→World→Prop) (k0:Nat) (h₀:I k0 a w)
 (round:∀ k a w,I k a w→c.wpIn F n P (Exit.then (fun a' w'=>∃ k',k'<k∧I k' a' w') Q) a w):(Code.loop c).wpIn F n P Q a w:=by
 intro b k cs hro hb hr
 have key:∀ j a w,I j a w→∃ e a' w',Q e a' w'∧ArrivesIn (Machine.fenced P F) P (lone (b.atR a (.code c :: .inLoop c :: k)) cs w) b k cs e a' w':=by
  intro j
  induction j using Nat.strongRecOn with
  | _ j ih=>
    intro a w hI
    obtain ⟨e,a₁,w₁,hq,harr⟩:=round j a w hI b (.inLoop c :: k) cs hro hb hr
    cases e with
    | normal=>
      obtain ⟨j',hlt,hI₁⟩:=hq
      obtain ⟨e₂,a₂,w₂,hq₂,harr₂⟩:=ih j' hlt a₁ w₁ hI₁
      exact ⟨e₂,a₂,w₂,hq₂,.of_steps (StepsIn.trans harr (.one (fenced_calm hb hr rfl) stepR_inLoop)) harr₂⟩
    | exit id=>exact ⟨_,a₁,w₁,hq,.pass (x:=.inLoop c) rfl (fun _ _=>.inl (by simp)) harr⟩
    | goto l=>exact ⟨_,a₁,w₁,hq,.pass (x:=.inLoop c) rfl (fun _ _=>.inl (by simp)) harr⟩
    | ret=>exact ⟨_,a₁,w₁,hq,.pass (x:=.inLoop c) rfl (fun _ _=>.inl (by simp)) harr⟩
    | panic ch=>exact ⟨_,a₁,w₁,hq,.pass (x:=.inLoop c) rfl (fun _ _=>.inl (by simp)) harr⟩
    | outgrown=>exact ⟨_,a₁,w₁,hq,.pass (x:=.inLoop c) rfl (fun _ _=>.inl (by simp)) harr⟩
 obtain ⟨e,a',w',hq,harr⟩:=key k0 a w h₀
 exact ⟨e,a',w',hq,.of_steps (.one (fenced_calm hb hr rfl) stepR_loop) harr⟩
theorem sexecG_ok {P:Program} (hmix:P.follows .mixedOrders=true) {G:Gs} {E:Env P C} {L:List (Inv' C)} {Y:Option (Nat×Yf C)} {RF:Rf C} (hY:YOK P G Y) (hR:ROK P E.n G RF):
 ∀ {c:Code} {pj:PJ} {tm:Tm} {m:List (Ck C)} {K:Ex→PJ→Tm→List (Ck C)→Tr} {a:Act} {w:World} {ds:List Nat} {Q:Exit→Act→World→Prop},
 (sexecG E L G.fx Y RF c pj tm m K).holds→ActOK (ads m) E.n tm a→MemOK (G.Sp pj ds) G.w0 w m→FixOK G.A0 G.fx m→
 (∀ e pj' tm' m' a' w' ds',(K e pj' tm' m').holds→ActOK (ads m') E.n tm' a'→MemOK (G.Sp pj' ds') G.w0 w' m'→FixOK G.A0 G.fx m'→Q (Ex.of e) (wa a' (G.dm ds')) w')→c.wpIn (FR G.r) 0 P Q (wa a (G.dm ds)) w:=by
 intro c
 induction c with
 | skip=>intro pj tm m K a w ds Q hs h hm hx hq;exact wpIn_skip (hq _ _ _ _ _ _ _ hs h hm hx)
 | region id ops draw=>
   intro pj tm m K a w ds Q hs h hm hx hq
   simp only [sexecG,sregG] at hs
   split at hs
   · exact hs.elim
   rename_i hnd
   have hnd':=noDefer_ok hnd
   cases draw with
   | false=>exact wpIn_region_list (sopsG_ok hY hnd' hs h hm hx (fun pj' tm' m' a' w' hk h' hm' hx'=>hq _ _ _ _ _ _ _ hk h' hm' hx'))
   | true=>
     have hndi:∀ (i:Nat) (o:Oper),ops[i]? = some o→∀ c,o.op≠.defer c:=fun i o ho=>hnd' o (by
      have:=tx (l:=ops.toList) (i:=i) (by simpa using ho)
      exact this)
     have fin:∀ (Q0:Act→World→Prop),(∀ a' w',Q0 a' w'→Q .normal (wa a' (G.dm ds)) w')→
      wpAny P .any ops (fun e a w=>match e with | .normal=>Q0 a w | _=>False) ops.size (ut ops.size false) a { w with drawn:=w.drawn+1 }→(Code.region id ops true).wpIn (FR G.r) 0 P Q (wa a (G.dm ds)) w:=by
      intro Q0 h0 hA
      refine Go.wpIn_mono (wpIn_region_any hmix (wpAnyIn_of hndi (fun _ _ h=>h) _ _ _ _ hA)) ?_
      rintro e a' w' ⟨b,hb,rfl⟩
      cases e with
      | normal=>exact h0 _ _ hb
      | _=>exact hb.elim
     simp only at hs
     split at hs
     · obtain ⟨hB,hs⟩:=hs
       have hB':Region.lexB .any ops=true:=hB
       simp only [Region.lexB,zn] at hB'
       refine fin (fun a' w'=>Q .normal (wa a' (G.dm ds)) w') (fun _ _ h=>h) ?_
       refine wpAny_of_quiet (C:=fun w=>MemOK (G.Sp pj ds) G.w0 w m) (Q:=fun a'=>∀ w',MemOK (G.Sp pj ds) G.w0 w' m→Q .normal (wa a' (G.dm ds)) w') (fun _ w' hw' h=>h w' hw') _ _ _ _ hm.drew ?_
       have:=wpAnyQ_lex (C:=fun w=>MemOK (G.Sp pj ds) G.w0 w m) (md:=.any) hB'.1 ops.toList 0 (ut ops.size false) a (by simp) (by simpa using hB'.2)
        (sopsQ_ok (Q:=fun a'=>∀ w',MemOK (G.Sp pj ds) G.w0 w' m→Q .normal (wa a' (G.dm ds)) w') hm.glob hs h (fun tm' m' a' hk h' hiff hgr w' hm'=>hq _ _ _ _ _ _ _ hk h' ((hiff w').1 hm') (hx.grow hgr.1 hgr.2)))
       simpa using this
     · exact fin (fun a' w'=>∃ tm' m',(K .nor pj tm' m').holds∧ActOK (ads m') E.n tm' a'∧MemOK (G.Sp pj ds) G.w0 w' m'∧FixOK G.A0 G.fx m')
        (fun a' w' ⟨tm',m',hk,h',hm',hx'⟩=>hq _ _ _ _ _ _ _ hk h' hm' hx') (by
          refine draw_any hs.1 hs.2.1 hs.2.2 h hm (fun tm' m' a' w' hk h' hm' hg=>⟨tm',m',hk,h',hm',hx.grow hg.1 hg.2⟩))
 | seq x y ihx ihy=>
   intro pj tm m K a w ds Q hs h hm hx hq
   simp only [sexecG] at hs
   split at hs
   · refine wpIn_seq (ihx hs h hm hx fun e pj' tm' m' a' w' ds' hk h' hm' hx' => ?_)
     cases e with
     | nor=>exact ihy hk h' hm' hx' hq
     | exit i=>exact hq _ _ _ _ _ _ _ hk h' hm' hx'
     | ret=>exact hq _ _ _ _ _ _ _ hk h' hm' hx'
   · rename_i I0 Ir _
     split at hs
     · exact hs.elim
     simp only [fL_eq,fLN_eq] at hs
     obtain ⟨hs,hround⟩:=hs
     have hround:=allI_ok hround
     refine wpIn_seq (ihx hs h hm hx fun e pj' tm' m' a' w' ds' hk h' hm' hx' => ?_)
     cases e with
     | nor=>
       simp only at hk
       split at hk
       · exact hk.elim
       obtain ⟨I,hI,x,hix,hs'⟩:=hk
       obtain ⟨hlx,hs'⟩:=linked_ok hs'
       obtain ⟨hna,hlx⟩:=noP_ok hlx
       obtain ⟨ha',hm'',hx''⟩:=subPx_ok hs' h' hm' hx'
       have hro:=(ifNo_h (hround I hI x)).resolve_left (fun hno=>linkNo_ok hno hlx)
       have hro:=(ifNo_h hro).resolve_left (fun hno=>by rw [hna] at hno;cases hno)
       have hro:=linkT_ok (hro hix) hlx
       simp only [fTm_eq,fM_eq] at hro
       exact ihy hro ha' hm'' hx'' hq
     | exit i=>exact hq _ _ _ _ _ _ _ hk h' hm' hx'
     | ret=>exact hq _ _ _ _ _ _ _ hk h' hm' hx'
 | cond c x y ihx ihy=>
   intro pj tm m K a w ds Q hs h hm hx hq
   have hnil:AlOK tm []:=by intro p hp;cases hp
   simp only [sexecG] at hs
   split at hs <;> try (first | contradiction | exact False.elim hs)
   · rename_i hc
     exact wpIn_cond (t:=true) (by rw [wa_eval];exact ev_ok h hm.glob hnil _ _ hc) (ihx hs h hm hx hq)
   · rename_i hc
     exact wpIn_cond (t:=false) (by rw [wa_eval];exact ev_ok h hm.glob hnil _ _ hc) (ihy hs h hm hx hq)
   · rename_i b hc
     cases b with
     | true=>exact wpIn_cond (t:=true) (by rw [wa_eval];exact ev_ok h hm.glob hnil _ _ hc) (ihx (hs.1 rfl) h hm hx hq)
     | false=>exact wpIn_cond (t:=false) (by rw [wa_eval];exact ev_ok h hm.glob hnil _ _ hc) (ihy (hs.2 rfl) h hm hx hq)
 | block id c ih=>
   intro pj tm m K a w ds Q hs h hm hx hq
   refine wpIn_block (ih hs h hm hx fun e pj' tm' m' a' w' ds' hk h' hm' hx' => ?_)
   cases e with
   | nor=>exact hq _ _ _ _ _ _ _ hk h' hm' hx'
   | exit i=>
     simp only [Ex.of,Exit.inBlock]
     simp only at hk
     split at hk
     · rename_i hb
       rw [if_pos (zp hb)]
       exact hq _ _ _ _ _ _ _ hk h' hm' hx'
     · rename_i hb
       rw [if_neg (xl hb)]
       exact hq _ _ _ _ _ _ _ hk h' hm' hx'
   | ret=>exact hq _ _ _ _ _ _ _ hk h' hm' hx'
 | loop c ih=>
   intro pj tm m K a w ds Q hs h hm hx hq
   simp only [sexecG,fL_eq,fLN_eq] at hs
   split at hs
   · exact hs.elim
   obtain ⟨⟨I0,hI0,x0,hi0,hs0⟩,hround⟩:=hs
   have hround:=allI_ok hround
   obtain ⟨hl0,hs0⟩:=linked_ok hs0
   obtain ⟨hn0,hl0⟩:=noP_ok hl0
   obtain ⟨ha0,hm0,hx0⟩:=subPx_ok hs0 h hm hx
   refine wpIn_loop' (fun n a w=>∃ I∈findInvs (firstId c) L,∃ x,∃ b ds,a=wa b (G.dm ds)∧(I.inv x∧notApp (I.mem x m) m=false∧allOf (linkP (writes c) tm (I.tm x)))∧I.meas x=n∧ActOK (ads (I.mem x m)) E.n (I.tm x ++ keepTm (keysOf (I.tm x) ++ writes c) tm) b∧MemOK (G.Sp none ds) G.w0 w (I.mem x m)∧FixOK G.A0 G.fx (I.mem x m)) (I0.meas x0) ⟨I0,hI0,x0,a,ds,rfl,⟨hi0,hn0,hl0⟩,rfl,ha0,hm0,hx0⟩ ?_
   rintro n a1 w1 ⟨I,hI,x,b,ds1,rfl,⟨hix,hna,hlx⟩,rfl,hax,hmx,hxx⟩
   have hro:=(ifNo_h (hround I hI x)).resolve_left (fun hno=>linkNo_ok hno hlx)
   have hro:=(ifNo_h hro).resolve_left (fun hno=>by rw [hna] at hno;cases hno)
   have hro:=linkT_ok (hro hix) hlx
   simp only [fTm_eq,fM_eq] at hro
   refine ih hro hax hmx hxx fun e pj' tm' m' a' w' ds' hk h' hm' hx' => ?_
   cases e with
   | nor=>
     simp only at hk
     split at hk
     · exact hk.elim
     obtain ⟨I',hI',x',hi',hlt,hs'⟩:=hk
     obtain ⟨hl',hs'⟩:=linked_ok hs'
     obtain ⟨hn',hl'⟩:=noP_ok hl'
     obtain ⟨ha',hm'',hx''⟩:=subPx_ok hs' h' hm' hx'
     exact ⟨I'.meas x',hlt,I',hI',x',a',ds',rfl,⟨hi',hn',hl'⟩,rfl,ha',hm'',hx''⟩
   | exit i=>exact hq _ _ _ _ _ _ _ hk h' hm' hx'
   | ret=>exact hq _ _ _ _ _ _ _ hk h' hm' hx'
 | exit id=>intro pj tm m K a w ds Q hs h hm hx hq;exact wpIn_exit (hq _ _ _ _ _ _ _ hs h hm hx)
 | ret=>intro pj tm m K a w ds Q hs h hm hx hq;exact wpIn_ret (hq _ _ _ _ _ _ _ hs h hm hx)
 | rangeFunc g ps az bd _ _=>
   intro pj tm m K a w ds Q hs h hm hx hq
   simp only [sexecG] at hs
   split at hs
   · exact hs.elim
   exact hR _ _ _ _ _ _ _ _ _ _ _ hs h hm hx fun e tm' m' a' w' ds' hk h' hm' hx'=>hq _ _ _ _ _ _ _ hk h' hm' hx'
 | scope _ _=>intro pj tm m K a w ds Q hs;exact False.elim hs
 | label _=>intro pj tm m K a w ds Q hs;exact False.elim hs
 | goto _=>intro pj tm m K a w ds Q hs;exact False.elim hs
 | refuse _=>intro pj tm m K a w ds Q hs;exact False.elim hs
end Go.Vx
namespace Go.Vx
open Go
variable {C:Nat→Codec}
theorem heap_put_other {w:World} {l k:Nat} {o:Obj} (h:k≠l):(w.putObj l o).heap[k]? = w.heap[k]? := World.putObj_heap_other h
theorem MemOK.pinNew {s rd:Nat→Prop} {ps:List (Nat×Obj)} {w0 w:World} {m:List (Ck C)} (h:MemOK ⟨s,ps,rd⟩ w0 w m) (o:Obj):MemOK ⟨s,(w.heap.size,o) :: ps,rd⟩ w0 (w.alloc o) m:=by
 have hb:∀ k,k<w.heap.size→(w.alloc o).heap[k]? = w.heap[k]? := fun k hk=>heap_alloc_lt w o hk
 refine ⟨h.os,h.tape,h.output,by have:=h.size;simp;omega,?_,h.inS,?_,?_,h.apart,?_,?_⟩
 · intro k hk hno;rw [hb k (zk hk h.size)];exact h.keep k hk hno
 · intro c hc ho;exact Ck.ok_same (h.ok c hc ho) (hb _ (h.lt c hc ho))
 · intro c hc hw hl a ha
   rw [World.frozen?_of_block (w:=w) (by rw [ha];exact hb _ (h.lt c hc (Ck.live_iff.1 hl).2))]
   exact h.wrok c hc hw hl a ha
 · intro c hc ho;have:=h.lt c hc ho;simp;omega
 · have hm:=h.more
   refine ⟨fun g v hv => ?_,fun g p hp => ?_,fun p hp => ?_,?_,fun c hc t x hx => ?_⟩
   rotate_left 4
   · obtain ⟨g1,g2⟩:=hm.deep c hc t x hx
     refine ⟨(C t).good_keep w _ x (fun b hb'=>hb b (g2 b hb').lt) g1,fun b hb' => ?_⟩
     have hB:=g2 b hb'
     refine ⟨by have:=hB.lt;simp;omega,hB.old,hB.no,fun p hp => ?_⟩
     rcases List.mem_cons.1 hp with rfl | hp
     · exact fun e=>absurd hB.lt (by simp only at e;omega)
     · exact hB.pin p hp
   · obtain ⟨h1,h2,h3⟩:=hm.gv g v hv
     exact ⟨(World.cell?_of_block (w:=w) (a:=⟨g,0,none⟩) (hb g (zk h2 h.size))).trans h1,h2,h3⟩
   · obtain ⟨h1,h2,h3⟩:=hm.gp g p hp
     exact ⟨(hb _ (zk h2 h.size)).trans h1,h2,h3⟩
   · rcases List.mem_cons.1 hp with rfl | hp
     · exact ⟨World.alloc_heap_new w o,h.size,fun c hc hl=>Nat.ne_of_lt (h.lt c hc (Ck.live_iff.1 hl).2)⟩
     · obtain ⟨h1,h2,h3⟩:=hm.pin p hp
       exact ⟨(hb _ (heap_size_of h1)).trans h1,h2,h3⟩
   · have:w.heap.size∉ps.map (·.1):=by
      intro hmem
      obtain ⟨p,hp,he⟩:=List.mem_map.1 hmem
      have:=heap_size_of (hm.pin p hp).1
      omega
     simpa [this] using hm.nod
theorem MemOK.repin {s rd:Nat→Prop} {ps:List (Nat×Obj)} {w0 w:World} {m:List (Ck C)} {l:Nat} {o:Obj} (h:MemOK ⟨s,(l,o) :: ps,rd⟩ w0 w m) (o':Obj):MemOK ⟨s,(l,o') :: ps,rd⟩ w0 (w.putObj l o') m:=by
 have hm:=h.more
 obtain ⟨hl1,hl2,hl3⟩:=hm.pin (l,o) (by simp)
 simp only at hl1 hl2 hl3
 have hb:∀ k,k≠l→(w.putObj l o').heap[k]? = w.heap[k]? := fun k hk=>heap_put_other hk
 have hlv:∀ c∈m,c.alive=false→∀ w',Ck.ok (ads m) w' c:=by
  intro c _ hc w'
  unfold Ck.alive at hc;unfold Ck.ok
  split at hc <;> first | cases hc | skip
  rename_i hd;rw [hd];trivial
 refine ⟨h.os,h.tape,h.output,by have:=h.size;simpa using this,?_,h.inS,?_,?_,h.apart,?_,?_⟩
 · intro k hk hno
   rw [hb k (by omega)]
   exact h.keep k hk hno
 · intro c hc ho
   cases hcl:c.alive with
   | false=>exact hlv c hc hcl _
   | true=>exact Ck.ok_same (h.ok c hc ho) (hb _ (hl3 c hc (Ck.live_iff.2 ⟨hcl,ho⟩)))
 · intro c hc hw hl a ha
   rw [World.frozen?_of_block (w:=w) (by rw [ha];exact hb _ (hl3 c hc hl))]
   exact h.wrok c hc hw hl a ha
 · intro c hc ho;have:=h.lt c hc ho;simpa using this
 · have hnod:=hm.nod
   simp only [wx,List.nodup_cons] at hnod
   refine ⟨fun g v hv => ?_,fun g p hp => ?_,fun p hp => ?_,by simpa using hm.nod,fun c hc t x hx => ?_⟩
   rotate_left 3
   · obtain ⟨g1,g2⟩:=hm.deep c hc t x hx
     refine ⟨(C t).good_keep w _ x (fun b hb'=>hb b (fun e=>(g2 b hb').pin (l,o) (by simp) e.symm)) g1,fun b hb' => ?_⟩
     have hB:=g2 b hb'
     refine ⟨by have:=hB.lt;simpa using this,hB.old,hB.no,fun p hp => ?_⟩
     rcases List.mem_cons.1 hp with rfl | hp
     · exact hB.pin (l,o) (by simp)
     · exact hB.pin p (yv _ hp)
   · obtain ⟨h1,h2,h3⟩:=hm.gv g v hv
     exact ⟨(World.cell?_of_block (w:=w) (a:=⟨g,0,none⟩) (hb g (by omega))).trans h1,h2,h3⟩
   · obtain ⟨h1,h2,h3⟩:=hm.gp g p hp
     exact ⟨(hb _ (by omega)).trans h1,h2,h3⟩
   · rcases List.mem_cons.1 hp with rfl | hp
     · exact ⟨World.putObj_heap_same (heap_size_of hl1),hl2,hl3⟩
     · obtain ⟨h1,h2,h3⟩:=hm.pin p (yv _ hp)
       refine ⟨(hb _ ?_).trans h1,h2,h3⟩
       rintro he
       exact hnod.1 (he ▸ List.mem_map.2 ⟨p,hp,rfl⟩)
theorem MemOK.unpin {s rd:Nat→Prop} {ps:List (Nat×Obj)} {w0 w:World} {m:List (Ck C)} {l:Nat} {o:Obj} (h:MemOK ⟨s,(l,o) :: ps,rd⟩ w0 w m):MemOK ⟨s,ps,rd⟩ w0 w m:=by
 have hm:=h.more
 refine ⟨h.os,h.tape,h.output,h.size,h.keep,h.inS,h.ok,h.wrok,h.apart,h.lt,hm.gv,hm.gp,fun p hp=>hm.pin p (yv _ hp),?_,fun c hc t x hx => ?_⟩
 rotate_left
 · obtain ⟨g1,g2⟩:=hm.deep c hc t x hx
   exact ⟨g1,fun b hb=>⟨(g2 b hb).lt,(g2 b hb).old,(g2 b hb).no,fun p hp=>(g2 b hb).pin p (yv _ hp)⟩⟩
 have:=hm.nod
 simp only [wx,List.nodup_cons] at this
 exact this.2
structure It (P:Program) (C:Nat→Codec) where
 f:Nat
 fn:Func
 c:Code
 E:Env P C
 L:List (Inv' C)
 hf:P.funcs[f]? = some fn
 hb:fn.body=some c
 hname : (fn.name == "runtime.NumGoroutine") = false
 hn:fn.ntmps=E.n
def findIt {P:Program} (f:Nat):List (It P C)→Option (It P C)
 | []=>none
 | x :: r=>match zj x.f f with
   | true=>some x
   | false=>findIt f r
theorem findIt_f {P:Program} {f:Nat}:∀ {l:List (It P C)} {it:It P C},findIt f l=some it→it.f=f
 | [],_,h=>by cases h
 | x :: r,it,h=>by
   simp only [findIt] at h
   split at h
   · rename_i he;simp only [Option.some.injEq] at h;subst h;exact zp he
   · exact findIt_f h
def noRf:Rf C:=fun _ _ _ _ _ _ _=>.no
theorem noRf_ok {P:Program} {n:Nat} {G:Gs}:ROK (C:=C) P n G noRf:=fun _ _ _ _ _ _ _ _ _ _ _ h=>h.elim
theorem noY_ok {P:Program} {G:Gs}:YOK (C:=C) P G none:=fun _ _ h=>by cases h
def putAll (n:Nat):Tm→List Nat→List SV→Option Tm
 | tm,[],[]=>some tm
 | tm,p :: r,v :: s=>match put? n tm (some p) [] v with
   | some tm'=>putAll n tm' r s
   | none=>none
 | _,_,_=>none
theorem putAll_len {n:Nat}:∀ {ps:List Nat} {vs:List SV} {tm tm':Tm},putAll n tm ps vs=some tm'→ps.length=vs.length
 | [],[],_,_,_=>rfl
 | p :: r,v :: s,tm,tm',h=>by
   simp only [putAll] at h
   split at h
   · simp [putAll_len h]
   · cases h
 | [],_ :: _,_,_,h=>by simp [putAll] at h
 | _ :: _,[],_,_,h=>by simp [putAll] at h
theorem putAll_ok {ad:Nat→Ad} {n:Nat}:∀ {ps:List Nat} {vs:List SV} {tm tm':Tm} {a:Act},ActOK ad n tm a→putAll n tm ps vs=some tm'→
 ActOK ad n tm' { tmps:=(ps.zip (SV.vas ad vs)).foldl (fun t (p,v)=>t.setIfInBounds p v) a.tmps,defers:=[] }
 | [],[],tm,tm',a,h,hp=>by
   simp only [putAll,Option.some.injEq] at hp;subst hp
   exact ⟨rfl,h.size,h.tmps,h.inv⟩
 | p :: r,v :: s,tm,tm',a,h,hp=>by
   simp only [putAll] at hp
   split at hp
   · rename_i tm1 h1
     have hA:=put_ok h h1 (by simp) (v.va ad) (by simp [mkc])
     exact putAll_ok (a:=a.put (some p) (v.va ad)) hA hp
   · cases hp
 | [],_ :: _,_,_,_,_,h=>by simp [putAll] at h
 | _ :: _,[],_,_,_,_,h=>by simp [putAll] at h
def PJ.code:Ex→Code
 | .nor=>.skip
 | .exit i=>.exit i
 | .ret=>.ret
def PJ.back:PJ→Ex
 | none=>.nor
 | some e=>e
def goR {P:Program} (E:Env P C) (L:List (Inv' C)) (tmC:Tm) (ps:Array Tmp) (asg bd:Code):Yf C:=fun vs tmI m Kc=>
 match tmLt m.length tmI,putAll E.n tmC ps.toList vs with
 | true,some tmb=>sexecG E L (tmNm tmI ++ tmNm tmC) none noRf asg none tmb m fun e _ tma ma=>match e with
   | .nor=>sexecG E L (tmNm tmI ++ tmNm tmC) none noRf bd none tma ma fun e _ tm2 m2=>match e with
     | .nor=>Kc true none m2
     | .exit i=>Kc false (some (.exit i)) m2
     | .ret=>Kc false (some .ret) m2
   | _=>.no
 | _,_=>.no
def rangeF {P:Program} (E:Env P C) (L:List (Inv' C)) (its:List (It P C)):Rf C:=fun g ps asg bd tm m K=>
 match ev tm m [] g with
 | some (.fn (.func gf) [] cap)=>match findIt gf its with
   | some it=>match tmLt m.length tm && SV.lts m.length cap && vz (cap.length+1) it.E.n && noCnds cap with
     | false=>.no
     | true=>.all fun (l:Nat)=>fTm (initTm 0 (.fn (.yield l) [] [] :: cap)) fun tmI=>sexecG it.E it.L (tmNm tm) (some (l,goR E L tm ps asg bd)) noRf it.c none tmI m fun e pj tmI' m'=>match e with
       | .exit _=>.no
       | _=>match retSV P it.fn tmI' m' with
         | some (qs,_)=>conj qs (K pj.back tm m')
         | none=>.no
   | none=>.no
 | _=>.no
theorem tmLt_nm {n:Nat}:∀ {tm:Tm},tmLt n tm=true→∀ c∈tmNm tm,c<n:=by
 have hv:∀ (v:SV),SV.lt n v=true→∀ c∈v.nm,c<n:=by
  intro v
  induction v using SV.rec (motive_2:=fun vs=>SV.lts n vs=true→∀ c∈SV.nms vs,c<n) with
  | ptr c i f=>intro h k hk;simp only [SV.lt] at h;simp only [SV.nm,wj] at hk;subst hk;simpa using h
  | sl c i f m=>intro h k hk;simp only [SV.lt] at h;simp only [SV.nm,wj] at hk;subst hk;simpa using h
  | mp c=>intro h k hk;simp only [SV.lt] at h;simp only [SV.nm,wj] at hk;subst hk;simpa using h
  | agg vs ih=>intro h k hk;simp only [SV.lt] at h;simp only [SV.nm] at hk;exact ih h k hk
  | tup vs ih=>intro h k hk;simp only [SV.lt] at h;simp only [SV.nm] at hk;exact ih h k hk
  | ifc t v ih=>intro h k hk;simp only [SV.lt] at h;simp only [SV.nm] at hk;exact ih h k hk
  | fn f a b iha ihb=>
    intro h k hk
    simp only [SV.lt,zn] at h
    simp only [SV.nm,uf] at hk
    rcases hk with hk | hk
    · exact iha h.1 k hk
    · exact ihb h.2 k hk
  | cnd cs v ih=>intro h k hk;simp only [SV.lt] at h;simp only [SV.nm] at hk;exact ih h k hk
  | nil=>rename_i k hk;cases hk
  | cons v r ihv ihr=>
    rename_i h k hk
    simp only [SV.lts,zn] at h
    simp only [SV.nms,uf] at hk
    rcases hk with hk | hk
    · exact ihv h.1 k hk
    · exact ihr h.2 k hk
  | _=>intro _ k hk;simp [SV.nm] at hk
 intro tm
 induction tm with
 | nil=>intro _ c hc;cases hc
 | cons p r ih=>
   obtain ⟨k,v⟩:=p
   intro h c hc
   simp only [tmLt,zn] at h
   simp only [tmNm,uf] at hc
   rcases hc with hc | hc
   · exact hv v h.1 c hc
   · exact ih h.2 c hc
def recOf (rec:LoopState→Option Code→Loop):PJ→Obj
 | none=>.loop (rec .ready none)
 | some e=>.loop (rec .done (some (PJ.code e)))
theorem goR_ok {P:Program} (hmix:P.follows .mixedOrders=true) {E:Env P C} {L:List (Inv' C)} {tmC:Tm} {ps:Array Tmp} {asg bd:Code} {s rd:Nat→Prop} {old:List (Nat×Obj)} {w0:World} {A0:Nat→Ad} {a0:Act} {l:Nat} {fn:FuncId} {D:Nat}
 {rec:LoopState→Option Code→Loop} (hrec:∀ st pe,rec st pe={ state:=st,pending:=pe,fn:=fn,tmps:=a0.tmps,params:=ps,assign:=asg,body:=bd,defers:=D }) (ha0:ActOK A0 E.n tmC a0):
 YOK P ⟨none,fun pj _=>⟨s,(l,recOf rec pj) :: old,rd⟩,w0,fun _=>[],A0,tmNm tmC⟩ (some (l,goR E L tmC ps asg bd)):=by
 intro l' go hgo vs tmI m Kc w ds R h hm hx hK
 simp only [Option.some.injEq,Prod.mk.injEq] at hgo
 obtain ⟨rfl,rfl⟩:=hgo
 unfold goR at h
 split at h
 rotate_left
 · exact h.elim
 rename_i tmb hlt hput
 simp only at hm hx hK
 have hpin:=(hm.more.pin (l,recOf rec none) (by simp)).1
 simp only [recOf] at hpin
 have hlen:=putAll_len hput
 have hy:=run_yield (P:=P) (args:=(SV.vas (ads m) vs).toArray) hpin (by rw [hrec];simp [SV.vas_eq,← hlen])
 refine ⟨_,_,_,_,hy,?_⟩
 simp only [hrec]
 have hact:ActOK (ads m) E.n tmC a0:=ha0.fixed (fun c hc=>((hx c hc).2).symm)
 have hactb:=putAll_ok hact hput
 have hz:(ps.zip (SV.vas (ads m) vs).toArray).foldl (fun tmps (x:Tmp×Value)=>tmps.setIfInBounds x.1 x.2) a0.tmps=(ps.toList.zip (SV.vas (ads m) vs)).foldl (fun t (x:Nat×Value)=>t.setIfInBounds x.1 x.2) a0.tmps:=by
  rw [← Array.foldl_toList]
  simp
 obtain ⟨G1,hG1⟩:∃ G1:Gs,G1=⟨some l,fun _ _=>⟨s,(l,.loop (rec .ready none)) :: old,rd⟩,w0,fun _=>[],ads m,tmNm tmI ++ tmNm tmC⟩:=⟨_,rfl⟩
 obtain ⟨G2,hG2⟩:∃ G2:Gs,G2=⟨some l,fun _ _=>⟨s,(l,.loop (rec .busy none)) :: old,rd⟩,w0,fun _=>[],ads m,tmNm tmI ++ tmNm tmC⟩:=⟨_,rfl⟩
 have hfx:FixOK (ads m) (tmNm tmI ++ tmNm tmC) m:=by
  intro c hc
  rcases List.mem_append.1 hc with hc | hc
  · exact ⟨tmLt_nm hlt c hc,rfl⟩
  · exact ⟨(hx c hc).1,rfl⟩
 have back:∀ m':List (Ck C),FixOK (ads m) (tmNm tmI ++ tmNm tmC) m'→FixOK A0 (tmNm tmC) m'∧(∀ c∈tmNm tmI,c<m'.length∧ads m' c=ads m c):=by
  intro m' h'
  refine ⟨fun c hc => ?_,fun c hc=>h' c (List.mem_append.2 (.inl hc))⟩
  obtain ⟨h1,h2⟩:=h' c (List.mem_append.2 (.inr hc))
  exact ⟨h1,h2.trans (hx c hc).2⟩
 refine roundIn_of_wpIn (FR_fn none fn) ?_
 have h1:=sexecG_ok (P:=P) hmix (G:=G1) (E:=E) (L:=L) (Y:=none) (RF:=noRf) noY_ok noRf_ok (c:=asg) (pj:=none) (tm:=tmb) (m:=m) (ds:=[]) (w:=w)
  (a:={ tmps:=(ps.toList.zip (SV.vas (ads m) vs)).foldl (fun t (x:Nat×Value)=>t.setIfInBounds x.1 x.2) a0.tmps,defers:=[] })
  (Q:=Exit.then (fun a₁ w₁=>∃ w₂,(Instr.beginRound l).run P w₁=.ok () w₂∧bd.wpIn (Fence.wide.inRound l) 0 P (roundPost P l R) a₁ w₂) (fun _ _ _=>False))
  (by subst hG1;exact h) hactb (by subst hG1;exact hm) (by subst hG1;exact hfx) ?_
 · have e:wa ({ tmps:=(ps.toList.zip (SV.vas (ads m) vs)).foldl (fun t (x:Nat×Value)=>t.setIfInBounds x.1 x.2) a0.tmps,defers:=[] }:Act) (G1.dm [])={ tmps:=(ps.toList.zip (SV.vas (ads m) vs)).foldl (fun t (x:Nat×Value)=>t.setIfInBounds x.1 x.2) a0.tmps,defers:=[] }:=by subst hG1;rfl
   rw [e] at h1
   rw [hz]
   have e2:FR G1.r=Fence.wide.inRound l:=by subst hG1;rfl
   rw [e2] at h1
   exact h1
 intro e pj' tma ma a1 w1 ds' hk ha1 hm1 hx1
 subst hG1
 cases e with
 | exit i=>exact hk.elim
 | ret=>exact hk.elim
 | nor=>
   simp only at hk hm1 hx1
   have hpin1:=(hm1.more.pin (l,.loop (rec .ready none)) (by simp)).1
   have hbr:=run_beginRound (P:=P) hpin1 (by rw [hrec])
   have hm2:=hm1.repin (.loop { rec .ready none with state:=.busy })
   have ebusy:({ rec .ready none with state:=.busy }:Loop)=rec .busy none:=by rw [hrec,hrec]
   rw [ebusy] at hm2 hbr
   refine ⟨_,hbr,?_⟩
   have h2:=sexecG_ok (P:=P) hmix (G:=G2) (E:=E) (L:=L) (Y:=none) (RF:=noRf) noY_ok noRf_ok (c:=bd) (pj:=none) (tm:=tma) (m:=ma) (ds:=[]) (w:=w1.putObj l (.loop (rec .busy none))) (a:=a1)
    (Q:=roundPost P l R) (by subst hG2;exact hk) ha1 (by subst hG2;exact hm2) (by subst hG2;exact hx1) ?_
   · have e:wa a1 (G2.dm [])=wa a1 []:=by subst hG2;rfl
     rw [e] at h2
     have e2:FR G2.r=Fence.wide.inRound l:=by subst hG2;rfl
     rw [e2] at h2
     exact h2
   intro e pj2 tm2 m2 a2 w2 ds2 hk2 ha2 hm3 hx2
   subst hG2
   simp only at hm3 hx2
   have hpin2:=(hm3.more.pin (l,.loop (rec .busy none)) (by simp)).1
   obtain ⟨b1,b2⟩:=back m2 hx2
   have fin:∀ (jump:Option Code) (pj:PJ),(jump.isNone=true↔pj=none)→pj.map PJ.code=jump→(Kc jump.isNone pj m2).holds→∃ v w',(Instr.endRound l jump).run P w2=.ok v w'∧R (.returned v) w':=by
    intro jump pj hj hpj hkc
    have her:=run_endRound (P:=P) jump hpin2
    refine ⟨_,_,her,hK _ pj m2 _ hkc ?_ b1 b2⟩
    have hm4:=hm3.repin (.loop { rec .busy none with state:=if jump.isNone then .ready else .done,pending:=jump })
    have e:(Obj.loop { rec .busy none with state:=if jump.isNone then .ready else .done,pending:=jump })=recOf rec pj:=by
     cases pj with
     | none=>
       simp only [Option.map_none] at hpj
       subst hpj
       simp [recOf,hrec]
     | some e=>
       simp only [yk] at hpj
       subst hpj
       simp [recOf,hrec]
    rw [e] at hm4 ⊢
    exact hm4
   cases e with
   | nor=>exact fin none none (by simp) rfl hk2
   | exit i=>exact fin (some (.exit i)) (some (.exit i)) (by simp) rfl hk2
   | ret=>exact fin (some .ret) (some .ret) (by simp) rfl hk2
theorem init_ok {ad:Nat→Ad} {n:Nat} {args:List SV} (hlen:vz args.length n=true) (hnc:noCnds args=true):
 ActOK ad n (initTm 0 args) { tmps:=(SV.vas ad args).toArray ++ ut (n - (SV.vas ad args).toArray.size) Go.undef,defers:=[] }:=by
 have hlen:args.length≤n:=xf hlen
 have hsz:(SV.vas ad args).toArray.size=args.length:=by simp [SV.vas_eq]
 refine ⟨rfl,by simp [SV.vas_eq];omega,fun t => ?_,?_⟩
 · rcases get_init args 0 t with h1 | ⟨_,v,h2,h3⟩
   · exact .inl h1
   · right
     simp only [uh] at h2
     have hlt:t<args.length:=(List.getElem?_eq_some_iff.1 h2).1
     rw [h3,pr (by rw [hsz];exact hlt)]
     simp [SV.vas_eq,h2]
 · intro t cs v hg
   exfalso
   rcases get_init args 0 t with h1 | ⟨_,u,h2,h3⟩
   · rw [h1] at hg;cases hg
   · rw [h3] at hg
     exact notCnd_ok (noCnds_ok hnc u (tx h2)) cs v hg
def mark (D:Nat):Deferred:={ target:=.collected D,args := #[] }
def mpin (D:Nat):Nat×Obj:=(D,.deferred (some []))
theorem rangeF_ok {P:Program} (hmix:P.follows .mixedOrders=true) {E:Env P C} {L:List (Inv' C)} {its:List (It P C)} {s rd:Nat→Prop} {w0:World}:
 ROK P E.n ⟨none,fun _ ds=>⟨s,ds.map mpin,rd⟩,w0,fun ds=>ds.map mark,noAd,[]⟩ (rangeF E L its):=by
 intro g ps asg bd tm m K a w Q ds h ha hm hx hq
 simp only at hm hq
 unfold rangeF at h
 split at h <;> try (first | contradiction | exact False.elim h)
 rename_i gf cap hg
 split at h
 rotate_left
 · exact h.elim
 rename_i it hit
 split at h
 · exact h.elim
 rename_i hc
 simp only [zn] at hc
 obtain ⟨⟨⟨c1,c2⟩,c3⟩,c4⟩:=hc
 have hf:=findIt_f hit
 subst hf
 have hnil:AlOK tm []:=by intro p hp;cases hp
 have eg:(wa a (ds.map mark)).eval g=.func (.func it.f) #[] (SV.vas (ads m) cap).toArray:=by
  rw [wa_eval,ev_ok ha hm.glob hnil _ _ hg];rfl
 refine wpIn_rangeFunc ?_
 intro fn _
 obtain ⟨rec,hrec⟩:∃ rec:LoopState→Option Code→Loop,rec=fun st pe=>{ state:=st,pending:=pe,fn,tmps:=a.tmps,params:=ps,assign:=asg,body:=bd,defers:=w.heap.size }:=⟨_,rfl⟩
 have hrec':∀ st pe,rec st pe={ state:=st,pending:=pe,fn:=fn,tmps:=a.tmps,params:=ps,assign:=asg,body:=bd,defers:=w.heap.size }:=fun _ _=>by rw [hrec]
 obtain ⟨W1,hW1⟩:∃ W1,(w.alloc (.deferred (some []))).alloc (.loop (rec .ready none))=W1:=⟨_,rfl⟩
 have hm1:MemOK ⟨s,(w.heap.size+1,recOf rec none) :: (mpin w.heap.size) :: ds.map mpin,rd⟩ w0 W1 m:=by
  have:=(hm.pinNew (.deferred (some []))).pinNew (.loop (rec .ready none))
  rw [World.size_alloc,hW1] at this
  exact this
 refine ⟨w.heap.size+1,[mark w.heap.size],W1,{ target:=.fn (.func it.f) (SV.vas (ads m) cap).toArray,args := #[.func (.yield (w.heap.size+1)) #[] #[]] },W1,it.f,
  #[.func (.yield (w.heap.size+1)) #[] #[]] ++ (SV.vas (ads m) cap).toArray,W1,?_,?_,?_,?_,fun hd=>(by rw [FR_depth] at hd;cases hd),?_⟩
 · rw [← hW1,hrec];exact run_enterLoop_outer _ _ _ _ _
 · simp only [resolve,eg,Deferred.ofValue]
   simp [Act.eval]
 · intro f' _;exact FR_fn _ f'
 · simp [invoke,run_callFunc it.hf it.hb it.hname]
 · have hin:=h (w.heap.size+1)
   simp only [fTm_eq] at hin
   refine callsIn_of_wp it.hf it.hb (FR_fn _ _) ?_
   obtain ⟨GI,hGI⟩:∃ GI:Gs,GI=⟨none,fun pj _=>⟨s,(w.heap.size+1,recOf rec pj) :: mpin w.heap.size :: ds.map mpin,rd⟩,w0,fun _=>[],ads m,tmNm tm⟩:=⟨_,rfl⟩
   have hy:YOK P GI (some (w.heap.size+1,goR E L tm ps asg bd)):=by
    subst hGI
    exact goR_ok hmix hrec' ha
   have hargs:(#[Value.func (.yield (w.heap.size+1)) #[] #[]] ++ (SV.vas (ads m) cap).toArray)=(SV.vas (ads m) (.fn (.yield (w.heap.size+1)) [] [] :: cap)).toArray:=by
    apply xm;simp [SV.vas,SV.va]
   rw [hargs]
   have hinit:=init_ok (ad:=ads m) (n:=it.E.n) (args:=.fn (.yield (w.heap.size+1)) [] [] :: cap) (by simpa using c3) (by simp [noCnds,notCnd,c4])
   rw [← it.hn] at hinit
   rw [it.hn] at hinit
   have h3:=sexecG_ok (P:=P) hmix (G:=GI) (E:=it.E) (L:=it.L) (Y:=some (w.heap.size+1,goR E L tm ps asg bd)) (RF:=noRf) hy noRf_ok (c:=it.c) (pj:=none) (m:=m) (ds:=[]) (w:=W1)
    (Q:=bodyPost P it.fn (rangePost (FR none) 0 P (w.heap.size+1) Q { wa a (ds.map mark) with defers:=[mark w.heap.size] ++ (wa a (ds.map mark)).defers }))
    (by subst hGI;exact hin) hinit (by subst hGI;exact hm1) (by subst hGI;exact fun c hc=>⟨tmLt_nm c1 c hc,rfl⟩) ?_
   · have e2:FR GI.r=FR none:=by subst hGI;rfl
     have e3:∀ b:Act,b.defers=[]→wa b (GI.dm [])=b:=by
      intro b hb;subst hGI
      show ({ b with defers:=b.defers ++ [] }:Act)=b
      cases b;simp at hb ⊢
     rw [e2,e3 _ rfl,← it.hn] at h3
     exact h3
   intro e pj tmI' m' a' w' ds' hk ha' hm' hx'
   have fin:(match retSV P it.fn tmI' m' with | some (qs,_)=>conj qs (K pj.back tm m') | none=>.no:Tr).holds→
    (wa a' (GI.dm ds')).defers=[]∧∃ v,(results it.fn (wa a' (GI.dm ds')).tmps).run P w'=.ok v w'∧
      rangePost (FR none) 0 P (w.heap.size+1) Q { wa a (ds.map mark) with defers:=[mark w.heap.size] ++ (wa a (ds.map mark)).defers } (.returned v) w':=by
    intro hk
    split at hk <;> try (first | contradiction | exact False.elim hk)
    rename_i qs r hr
    obtain ⟨hp,hK⟩:=(conj_iff _ _).1 hk
    refine ⟨by subst hGI;show a'.defers ++ []=[];rw [ha'.defers];rfl,_,retSV_ok (S:=GI.Sp pj ds') ha' hm' hr hp,?_⟩
    subst hGI
    simp only at hm' hx'
    have hpin:=(hm'.more.pin (w.heap.size+1,recOf rec pj) (by simp)).1
    have hA:ActOK (ads m') E.n tm a:=ha.fixed (fun c hc=>((hx' c hc).2).symm)
    have hdf:({ wa a (ds.map mark) with defers:=[mark w.heap.size] ++ (wa a (ds.map mark)).defers }:Act)=wa a ((w.heap.size :: ds).map mark):=by
     show ({ tmps:=a.tmps,defers:=[mark w.heap.size] ++ (a.defers ++ ds.map mark) }:Act)={ tmps:=a.tmps,defers:=a.defers ++ ((w.heap.size :: ds).map mark) }
     rw [ha.defers];rfl
    rw [hdf]
    have hend:∀ (o:Obj),MemOK ⟨s,(w.heap.size :: ds).map mpin,rd⟩ w0 (w'.putObj (w.heap.size+1) o) m':=fun o=>(hm'.repin o).unpin
    cases pj with
    | none=>
      simp only [recOf] at hpin
      refine ⟨none,_,by have:=run_endLoop (P:=P) hpin (by rw [hrec];simp);rw [hrec] at this;exact this,?_⟩
      refine hq .nor tm m' a _ (w.heap.size :: ds) hK hA ?_ (fun c hc=>by cases hc)
      exact hend _
    | some e=>
      simp only [recOf] at hpin
      refine ⟨some (PJ.code e),_,by have:=run_endLoop (P:=P) hpin (by rw [hrec];simp);rw [hrec] at this;exact this,?_⟩
      have hQ:∀ w4,MemOK ⟨s,(w.heap.size :: ds).map mpin,rd⟩ w0 w4 m'→Q (Ex.of e) (wa a ((w.heap.size :: ds).map mark)) w4:=fun w4 hm4=>hq e tm m' a w4 (w.heap.size :: ds) hK hA hm4 (fun c hc=>by cases hc)
      cases e with
      | nor=>exact wpIn_skip (hQ _ (hend _))
      | exit i=>exact wpIn_exit (hQ _ (hend _))
      | ret=>exact wpIn_ret (hQ _ (hend _))
   cases e with
   | nor=>exact fin hk
   | exit i=>exact hk.elim
   | ret=>exact fin hk
def fexecR {P:Program} (E:Env P C) (L:List (Inv' C)) (its:List (It P C)) (fn:Func) (c:Code) (args:List SV) (mem:List (Ck C)) (G:SV→List (Ck C)→Tr):Tr:=
 fTm (initTm 0 args) fun tm0=>fM mem fun mem0=>sexecG E L [] none (rangeF E L its) c none tm0 mem0 fun e _ tm m=>match e with
  | .exit _=>.no
  | _=>match retSV P fn tm m with
    | some (ps,r)=>conj ps (fSV r fun r=>fM m fun m=>G r m)
    | none=>.no
theorem leaves_marks {P:Program} {fn:Func} {tmps:Array Value} {R:Ending→World→Prop} {s rd:Nat→Prop} {w0:World} {m:List (Ck C)}:∀ (ds:List Nat) (w:World),MemOK ⟨s,ds.map mpin,rd⟩ w0 w m→
 (∀ w',MemOK ⟨s,[],rd⟩ w0 w' m→∃ v,(results fn tmps).run P w'=.ok v w'∧R (.returned v) w')→LeavesInM (FR none) 0 P fn tmps R (ds.map mark) .returning w
 | [],w,hm,h=>h w hm
 | D :: ds,w,hm,h=>by
   refine ⟨by simp,.inl ⟨D,_,rfl,run_takeDeferred (hm.more.pin (mpin D) (by simp)).1,?_⟩⟩
   exact leaves_marks ds _ ((hm.repin (.deferred none)).unpin) h
theorem fexecR_ok {P:Program} (hmix:P.follows .mixedOrders=true) {E:Env P C} {L:List (Inv' C)} {its:List (It P C)} {f:FuncId} {fn:Func} {c:Code} {args:List SV} {mem:List (Ck C)} {G:SV→List (Ck C)→Tr}
 (hf:P.funcs[f]? = some fn) (hb:fn.body=some c) (hn:fn.ntmps=E.n) (hlen:vz args.length E.n=true) (hnc:noCnds args=true) (h:fexecR E L its fn c args mem G) (w:World) (hm:MemOK (wrS mem) w w mem):
 Calls P f (SV.vas (ads mem) args).toArray w fun e w'=>∃ r m',e=.returned (r.va (ads m'))∧MemOK (wrS mem) w w' m'∧G r m':=by
 refine (callsIn_wide (n:=0)).1 (callsIn_of_wp_marks hf hb trivial ?_)
 have hinit:=init_ok (ad:=ads mem) (n:=E.n) hlen hnc
 unfold fexecR at h
 simp only [fTm_eq,fM_eq,fSV_eq] at h
 have h3:=sexecG_ok (P:=P) hmix (G:=⟨none,fun _ ds=>⟨(wrS mem).set,ds.map mpin,(wrS mem).rd⟩,w,fun ds=>ds.map mark,noAd,[]⟩) (E:=E) (L:=L) (Y:=none) (RF:=rangeF E L its) noY_ok (rangeF_ok hmix) (c:=c) (pj:=none) (m:=mem) (ds:=[]) (w:=w)
  (Q:=bodyPostM Fence.wide 0 P fn (fun e w'=>∃ r m',e=.returned (r.va (ads m'))∧MemOK (wrS mem) w w' m'∧G r m')) h hinit hm (fun c hc=>by cases hc) ?_
 · rw [← hn] at h3
   exact h3
 intro e pj' tm m a w' ds hk ha hm' _
 have fin:(match retSV P fn tm m with | some (ps,r)=>conj ps (G r m) | none=>.no:Tr).holds→LeavesInM Fence.wide 0 P fn a.tmps (fun e w'=>∃ r m',e=.returned (r.va (ads m'))∧MemOK (wrS mem) w w' m'∧G r m') (wa a (ds.map mark)).defers .returning w':=by
  intro hk
  split at hk <;> try (first | contradiction | exact False.elim hk)
  rename_i ps r hr
  obtain ⟨hp,hG⟩:=(conj_iff _ _).1 hk
  have e:(wa a (ds.map mark)).defers=ds.map mark:=by show a.defers ++ _=_;rw [ha.defers];rfl
  rw [e]
  exact leaves_marks ds w' hm' fun w'' hm''=>⟨_,retSV_ok ha hm'' hr hp,r,m,rfl,hm'',hG⟩
 cases e with
 | nor=>exact fin hk
 | exit i=>exact hk.elim
 | ret=>exact fin hk
theorem loc_fnR {P:Program} (hmix:P.follows .mixedOrders=true) {E:Env P C} {L:List (Inv' C)} (its:List (It P C)) {f:FuncId} {fn:Func} {c:Code} {args:List SV} {mem:List (Ck C)} {alts:List (Alt C)}
 (hf : P.funcs[f]? = some fn) (hb : fn.body = some c) (hname : (fn.name == "runtime.NumGoroutine") = false) (hn : fn.ntmps = E.n) (hlen : vz args.length E.n = true) (hnc : noCnds args = true)
 (h:fexecR E L its fn c args mem fun r m=>.lf (Ends alts fun A y=>(finP mem r m (A.res y) (A.out y)).holds)):
 LocG P (.fn f) mem args fun r m'=>Ends alts fun A y=>r=A.res y∧m'=A.out y:=by
 intro w hm
 refine ⟨f,_,run_callFunc hf hb hname _ w,(fexecR_ok hmix hf hb hn hlen hnc h w hm).mono ?_⟩
 rintro e w' ⟨r,m',rfl,hm',A,hA,y,hy,hfin⟩
 obtain ⟨hm'',hv,hx⟩:=finP_ok hfin hm' hm
 exact ⟨A.res y,A.out y,by rw [hv],hm'',hx,A,hA,y,hy,rfl,rfl⟩
end Go.Vx
