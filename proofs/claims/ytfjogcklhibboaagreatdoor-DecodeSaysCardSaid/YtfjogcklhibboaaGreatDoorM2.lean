/-
  The symbolic evaluator, eleventh part: append.
  The symbolic evaluator, twelfth part: a call, az a change of the chunks.
  The symbolic evaluator, thirteenth part: the chunks ahead of a call and behind it.
  The symbolic evaluator: values and chunks written out before they are used again.
  The symbolic evaluator: maps: look-ups, updates, deletions, lengths; new ones; iterators over them.
  The symbolic evaluator, fourteenth part: calls under a contract, and one operation.
  The symbolic evaluator: slices of slices: rows whose own slices are named where they are read, and laid down where a slice of them is made.
  The symbolic evaluator: bytes az strings, and whether two strings are one.
  The symbolic evaluator: slices of slices that grow: a row's own slice is appended to, where there is room in its own place; it is laid back into the row, or under the key.
  Conditions: none.
-/
import Derived.Test.YtfjogcklhibboaaGreatDoorM1
import Derived.Lib.AppendZerosOnto
import Derived.RangeFuncRecord
import Derived.Laws.StructEq
import Derived.Laws.BytesString
open Array renaming ext' → wd
open Bool renaming and_eq_true → zq, not_eq_true' → yi
open List renaming append_assoc → vx, append_nil → wx, drop_of_length_le → sh, getD → xg, getD_cons_zero → uy, getD_eq_getElem?_getD → zy, getElem?_append_left → yx, getElem?_append_right → xr, getElem?_drop → vp, getElem?_eq_getElem → zt, getElem?_eq_none → yk, getElem?_map → zf, getElem?_take_of_lt → yn, length_append → zx, length_cons → xy, length_drop → wk, length_map → zn, length_singleton → vu, length_take → ze, map_append → vq, mem_append_left → uq, mem_cons_of_mem → yw, mem_of_mem_drop → vo, mem_of_mem_take → xu, nil_append → rz, replicate → zo
open Nat renaming add_mul → wn, add_zero → za, beq → zi, blt → ye, blt_eq → ui, div_add_mod → qp, div_lt_of_lt_mul → sc, eq_of_beq_eq_true → zp, le_refl → zw, le_trans → xl, lt_of_lt_of_le → zk, lt_or_ge → vb, mod_lt → yv, mul_comm → xn, mul_le_mul_right → uz, ne_of_beq_eq_false → xc, zero_add → we
open Option renaming map_some → yr
set_option linter.unusedVariables false
set_option linter.unusedSimpArgs false
set_option linter.unusedSectionVars false
namespace Go.Vx
open Go
variable {C:Nat→Codec}
theorem MemOK.kill {S:Sx} {w0 w:World} {m:List (Ck C)} (h:MemOK S w0 w m) (c:Nat):MemOK S w0 w (setCk m c .dead):=by
 have hnth:∀ k,(nth (setCk m c .dead) k).block=(nth m k).block∧(nth (setCk m c .dead) k).wr=(nth m k).wr∧((nth (setCk m c .dead) k).live=true→(nth m k).live=true):=by
  intro k
  rw [nth_setCk]
  split
  · rename_i e;rw [e.1];exact ⟨rfl,rfl,fun h=>by simp [Ck.live,Ck.alive] at h⟩
  · exact ⟨rfl,rfl,id⟩
 have hmore:More S w0 w (setCk m c .dead):=by
  refine h.more.mono h.inS (fun _ _ _=>rfl) (fun x hx hxl => ?_) h.size (zw _) (fun x hx => ?_)
  · rcases mem_setCk hx with ⟨k,hk,_,rfl⟩ | ⟨_,rfl⟩
    · exact .inl ⟨_,nth_mem hk,hxl,rfl,id⟩
    · simp [Ck.live,Ck.alive] at hxl
  · rcases mem_setCk hx with ⟨k,hk,_,rfl⟩ | ⟨_,rfl⟩
    · exact CsIn.self (nth_mem hk)
    · exact CsIn.other (fun _ _ e=>by cases e) (fun _ _ _ _ e=>by cases e)
 have hon:∀ k,(nth (setCk m c .dead) k).on=(nth m k).on:=by
  intro k
  rw [nth_setCk]
  split
  · rename_i e;rw [e.1];rfl
  · rfl
 refine ⟨h.os,h.tape,h.output,h.size,?_,?_,?_,?_,?_,?_,hmore⟩
 · exact h.keep
 · intro x hx hxw hxo hxb
   rcases mem_setCk hx with ⟨k,hk,_,rfl⟩ | ⟨hc,rfl⟩
   · exact h.inS _ (nth_mem hk) hxw hxo hxb
   · exact h.inS (nth m c) (nth_mem hc) hxw hxo hxb
 · intro x hx hxo
   rw [ads_setCk]
   rcases mem_setCk hx with ⟨k,hk,_,rfl⟩ | ⟨_,rfl⟩
   · exact h.ok _ (nth_mem hk) hxo
   · trivial
 · intro x hx hxw hxl a ha
   rcases mem_setCk hx with ⟨k,hk,_,rfl⟩ | ⟨_,rfl⟩
   · exact h.wrok _ (nth_mem hk) hxw hxl a ha
   · simp [Ck.live,Ck.alive] at hxl
 · intro i j hi hj hij hiw hil hjl
   rw [length_setCk] at hi hj
   rw [(hnth i).1,(hnth j).1]
   rw [(hnth i).2.1] at hiw
   exact h.apart i j hi hj hij hiw ((hnth i).2.2 hil) ((hnth j).2.2 hjl)
 · intro x hx hxo
   rcases mem_setCk hx with ⟨k,hk,_,rfl⟩ | ⟨hc,rfl⟩
   · exact h.lt _ (nth_mem hk) hxo
   · exact h.lt (nth m c) (nth_mem hc) hxo
theorem setCk_app:∀ (m:List (Ck C)) (x:Ck C) (c:Nat) (cs:Cells C),c<m.length→setCk (m ++ [x]) c cs=setCk m c cs ++ [x]
 | [],_,_,_,h=>by simp at h
 | y :: r,x,0,cs,_=>by simp [setCk0]
 | y :: r,x,c+1,cs,h=>by
   have:=setCk_app r x c cs (by simpa using h)
   simp [setCkS,this]
theorem MemOK.move {S:Sx} {w0 w:World} {m:List (Ck C)} (h:MemOK S w0 w m) (hlt:memLt m.length m=true) {c:Nat} {t:Nat} {l:List (C t).α} (hcl:(nth m c).cells=.rows t l) (hw:(nth m c).wr=true) (hon:(nth m c).on=true) (g:Option Bool) (hg:g.getD true=true) (i:Nat):
 MemOK S w0 w (setCk m c .dead ++ [⟨(nth m c).block,(nth m c).base+i*(nth m c).sz,(nth m c).sz,true,g,.rows t (l.drop i)⟩]):=by
 have hlive:(nth m c).live=true:=by simp [Ck.live,Ck.alive,hcl,hon]
 have hc:=lt_of_alive (Ck.live_iff.1 hlive).1
 have hk:=h.kill c
 have hlen:=length_setCk m c (.dead:Cells C)
 generalize hm':setCk m c (.dead:Cells C)=m' at hk hlen
 generalize hx:(⟨(nth m c).block,(nth m c).base+i*(nth m c).sz,(nth m c).sz,true,g,.rows t (l.drop i)⟩:Ck C)=x
 have hxb:x.block=(nth m c).block:=by rw [← hx]
 have hxo:x.on=true:=by rw [← hx];cases g <;> first | rfl | exact hg
 have hin:∀ y,y∈m' ++ [x]→y∈m'∨y=x:=by intro y hy;simpa using hy
 have hads:∀ k,k<m.length→ads m k=ads (m' ++ [x]) k:=by
  intro k hk
  rw [← ads_append m' x k (by omega),← hm',ads_setCk]
 have hblk:∀ k,(nth m' k).block=(nth m k).block∧(nth m' k).wr=(nth m k).wr∧((nth m' k).live=true→k≠c∧(nth m k).live=true):=by
  intro k
  rw [← hm',nth_setCk]
  split
  · rename_i e;rw [e.1];exact ⟨rfl,rfl,fun h=>by simp [Ck.live,Ck.alive] at h⟩
  · rename_i e;exact ⟨rfl,rfl,fun h=>⟨fun e'=>e ⟨e',e' ▸ hc⟩,h⟩⟩
 have hmore:More S w0 w (m' ++ [x]):=by
  refine h.more.mono h.inS (fun _ _ _=>rfl) (fun y hy hyl => ?_) h.size (zw _) (fun y hy => ?_)
  · rcases hin y hy with hy | rfl
    · obtain ⟨k,hkl,rfl⟩:=mem_nth hy
      obtain ⟨e1,e2,e3⟩:=hblk k
      exact .inl ⟨nth m k,nth_mem (by omega),(e3 hyl).2,e1.symm,fun hw'=>by rw [← e2];exact hw'⟩
    · exact .inl ⟨_,nth_mem hc,hlive,hxb.symm,fun _=>hw⟩
  · rcases hin y hy with hy | rfl
    · subst hm'
      rcases mem_setCk hy with ⟨k,hk',_,rfl⟩ | ⟨_,rfl⟩
      · exact CsIn.self (nth_mem hk')
      · exact CsIn.other (fun _ _ e=>by cases e) (fun _ _ _ _ e=>by cases e)
    · rw [← hx]
      exact CsIn.rows (RowsOf.of (nth_mem hc) hcl (fun _ _=>hw) fun x hx=>vo hx)
 refine ⟨h.os,h.tape,h.output,h.size,?_,?_,?_,?_,?_,?_,hmore⟩
 · exact h.keep
 · intro y hy hyw hyo hyb
   rcases hin y hy with hy | rfl
   · exact hk.inS y hy hyw hyo hyb
   · rw [hxb] at hyb ⊢
     exact h.inS _ (nth_mem hc) hw hon hyb
 · intro y hy hyo
   rcases hin y hy with hy | rfl
   · subst hm'
     rcases mem_setCk hy with ⟨k,hk',_,rfl⟩ | ⟨_,rfl⟩
     · exact Ck.ok_ads hads (memLt_mem hlt (nth_mem hk')) (h.ok _ (nth_mem hk') hyo)
     · trivial
   · have hok:=h.ok _ (nth_mem hc) hon
     simp only [Ck.ok,hcl] at hok
     obtain ⟨hsz,hok⟩:=hok
     rw [← hx]
     refine ⟨hsz,fun r hr f hf => ?_⟩
     simp only [wk] at hr
     have:=hok (r+i) (by omega) f hf
     have e1:(l.drop i).getD r (C t).dflt=l.getD (r+i) (C t).dflt:=by simp [xg,Nat.add_comm]
     rw [e1]
     have e2:((⟨(nth m c).block,(nth m c).base+i*(nth m c).sz,(nth m c).sz,true,g,.rows t (l.drop i)⟩:Ck C).ad).at r f=(nth m c).ad.at (r+i) f:=by
      simp [Ck.ad,Ad.at,wn];omega
     rw [e2,this,enc_flat (C t) (ads m) _ _ f hf]
 · intro y hy hyw hyl a ha
   rcases hin y hy with hy | rfl
   · exact hk.wrok y hy hyw hyl a ha
   · rw [hxb] at ha
     exact h.wrok _ (nth_mem hc) hw hlive a ha
 · intro a b ha hb hab haw hal hbl
   simp only [zx,vu] at ha hb
   rw [nth_append] at haw hal ⊢
   rw [nth_append] at hbl ⊢
   by_cases h1:a<m'.length
   · rw [if_pos h1] at haw hal ⊢
     by_cases h2:b<m'.length
     · rw [if_pos h2] at hbl ⊢
       exact hk.apart a b h1 h2 hab haw hal hbl
     · have:b=m'.length:=by omega
       rw [if_neg h2,if_pos this,hxb]
       have h3:=(hblk a).2.2 hal
       rw [(hblk a).1]
       rw [(hblk a).2.1] at haw
       exact h.apart a c (by omega) hc h3.1 haw h3.2 hlive
   · have:a=m'.length:=by omega
     rw [if_neg h1,if_pos this,hxb]
     have h2:b<m'.length:=by omega
     rw [if_pos h2] at hbl ⊢
     have h3:=(hblk b).2.2 hbl
     rw [(hblk b).1]
     exact h.apart c b hc (by omega) (Ne.symm h3.1) hw hlive h3.2
 · intro y hy hyo
   rcases hin y hy with hy | rfl
   · exact hk.lt y hy hyo
   · rw [hxb];exact h.lt _ (nth_mem hc) hon
theorem read_rows {S:Sx} {w0 w:World} {m:List (Ck C)} (h:MemOK S w0 w m) {c t:Nat} {l:List (C t).α} (hcl:(nth m c).cells=.rows t l) (hon:(nth m c).on=true) {i k:Nat} (hik:i+k≤l.length) (hn:(C t).sz≠0):
 ∀ j v,((flatSV (C t) ((l.drop i).take k)).map (SV.va (ads m)))[j]? = some v→w.cell? (((ads m c).at i 0).add j)=some v:=by
 intro j v hj
 have hc:=lt_of_alive (show (nth m c).alive=true by simp [Ck.alive,hcl])
 have hok:=h.ok _ (nth_mem hc) hon
 simp only [Ck.ok,hcl] at hok
 obtain ⟨hsz,hok⟩:=hok
 have hlen:((l.drop i).take k).length=k:=by simp;omega
 have hjl:j<k*(C t).sz:=by
  have:=(List.getElem?_eq_some_iff.1 hj).1
  simpa [flatSV_len,hlen] using this
 have hpos:0<(C t).sz:=by omega
 have hdm:=qp j (C t).sz
 have hm:j % (C t).sz<(C t).sz:=yv _ hpos
 have hd:j / (C t).sz<k:=by
  apply sc;rw [xn];exact hjl
 have e:j=(j / (C t).sz)*(C t).sz+j % (C t).sz:=by rw [xn];omega
 rw [e,zf,flatSV_get (C t) _ _ _ (by rw [hlen];exact hd) hm] at hj
 simp only [yr,Option.some.injEq] at hj
 have hr:=hok (i+j / (C t).sz) (by omega) _ hm
 have e1:((l.drop i).take k).getD (j / (C t).sz) (C t).dflt=l.getD (i+j / (C t).sz) (C t).dflt:=by
  simp [xg,yn hd]
 rw [e1] at hj
 rw [Ad.at_add]
 have e2:(ads m c).at i (0+j)=(nth m c).ad.at (i+j / (C t).sz) (j % (C t).sz):=by
  simp only [ads,Ck.ad,Ad.at,hsz]
  congr 1
  rw [wn];omega
 rw [e2,hr,hj]
theorem flat_one (cd:Codec) (ad:Nat→Ad):∀ (l:List cd.α),∀ v∈(flatSV cd l).map (SV.va ad),v.oneCell'=true
 | [],v,hv=>by simp [flatSV] at hv
 | x :: r,v,hv=>by
   simp only [flatSV,vq,List.mem_append] at hv
   rcases hv with hv | hv
   · obtain ⟨s,hs,rfl⟩:=List.mem_map.1 hv
     exact SV.cell_one _ (cd.cell x s hs)
   · exact flat_one cd ad r v hv
theorem run_append_in {P:Program} {w:World} (t ty e:TypeId) (i:TypeInfo) (ht:P.underlying t=some (.slice e)) (hi:P.info? e=some i) (b o n mm:Nat) (a:Addr) (k q:Nat) (news:List Value)
 (hl:news.length=k*i.size) (hnews:∀ j v,news[j]? = some v→w.cell? (a.add j)=some v) (h1:∀ v∈news,v.oneCell'=true) (hroom:n+k≤mm)
 (hc:∀ j,j<news.length→(w.cell? ⟨b,o+n*i.size+j,none⟩).isSome=true) (hf:∀ j,j<news.length→w.frozen? ⟨b,o+n*i.size+j,none⟩=false):
 (Builtin.append_ #[t,t] ty #[.slice (some ⟨b,o,none⟩) n mm,.slice (some a) k q]).run P w=.ok (.slice (some ⟨b,o,none⟩) (n+k) mm) (w.setCells b (o+n*i.size) news):=by
 have hfc:=run_firstCells_some (P:=P) w i.size k a k q news hl hnews
 have hst:=run_storeCells_cells (P:=P) b (o+n*i.size) news 0 w (fun j hj=>by simpa using hc j hj) (fun j hj=>by simpa using hf j hj) h1
 simp only [za] at hst
 simp [Builtin.append_,run_underlying ht,sizeOf,typeInfo,hi,Builtin.lenOf,hroom,hfc,Addr.add_lit,hst]
theorem castL_self {t:Nat} (h:t=t) (l:List (C t).α):castL h l=l:=rfl
theorem flat_append {ad:Nat→Ad} {cd:Codec} (l1 l2:List cd.α) (z:Array Value) (hz:(cd.enc cd.dflt).map (SV.va ad)=z.toList) (hs:z.size=cd.sz) (hn:cd.sz≠0) (k:Nat):
 Flat ad cd (((flatSV cd l1).map (SV.va ad)).toArray ++ ((flatSV cd l2).map (SV.va ad)).toArray ++ Builtin.zeroCells z k) (l1 ++ l2 ++ zo k cd.dflt):=by
 have hzc:Builtin.zeroCells z k=madeCells z (k*cd.sz):=by simp [Builtin.zeroCells,madeCells,hs]
 have hfl:=flat_made (ad:=ad) (cd:=cd) hz hs k
 apply flat_of
 have hrep:(flatSV cd (zo k cd.dflt)).map (SV.va ad)=(madeCells z (k*cd.sz)).toList:=by
  apply List.ext_getElem?
  intro j
  by_cases hj:j<k*cd.sz
  · have hpos:0<cd.sz:=by omega
    have hdm:=qp j cd.sz
    have hm:j % cd.sz<cd.sz:=yv _ hpos
    have hd:j / cd.sz<k:=by apply sc;rw [xn];exact hj
    have e:j=(j / cd.sz)*cd.sz+j % cd.sz:=by rw [xn];omega
    have h1:=hfl.get (j / cd.sz) (by simpa using hd) _ hm
    rw [← e] at h1
    have h2:(madeCells z (k*cd.sz)).toList[j]? = some (SV.va ad ((cd.enc ((zo k cd.dflt).getD (j / cd.sz) cd.dflt)).getD (j % cd.sz) SV.junk)):=by
     rw [Array.getElem?_toList];exact h1
    rw [h2,zf]
    rw [show (flatSV cd (zo k cd.dflt))[j]? = some ((cd.enc ((zo k cd.dflt).getD (j / cd.sz) cd.dflt)).getD (j % cd.sz) .junk) by
     conv=>lhs;rw [e]
     exact flatSV_get cd _ _ _ (by simpa using hd) hm]
    rfl
  · rw [yk (by simp [flatSV_len];omega),yk (by simp [size_madeCells];omega)]
 have happ:∀ a b:List cd.α,flatSV cd (a ++ b)=flatSV cd a ++ flatSV cd b:=by
  intro a b
  induction a with
  | nil=>rfl
  | cons x r ih=>simp [flatSV,ih]
 rw [happ,happ,vq,vq,hrep,hzc]
 simp
theorem append_core {P:Program} {S:Sx} {w0 w:World} {n:Nat} {tm:Tm} {m:List (Ck C)} {a:Act} (h:ActOK (ads m) n tm a) (hm:MemOK S w0 w m) {oo:Oper} {t e:TypeId} {ty:TypeId} {s x:SV} (hu:P.underlying t=some (.slice e))
 (hexec:∀ (v:Value) (w':World),(Builtin.append_ #[t,t] ty #[s.va (ads m),x.va (ads m)]).run P w=.ok v w'→(execOp a.eval oo).run P w=.ok (.value v) w')
 {K:SV→List (Ck C)→Tr} (hl:appendSV P tm m e s x K):Left P S w0 tm m w (execOp a.eval oo) K:=by
 unfold appendSV at hl
 split at hl <;> try (first | contradiction | exact False.elim hl)
 rename_i ti hti
 split at hl <;> try (first | contradiction | exact False.elim hl)
 rename_i hc
 simp only [zq,yi] at hc
 obtain ⟨⟨⟨c1,c2⟩,c3⟩,c4,c5⟩:=hc
 have c3:ti.bytes≠0:=xc c3
 obtain ⟨ti',z,hti',hz,hzz,hsz,hn0,hzs⟩:=zeroOK_ok c4
 rw [hti] at hti';simp only [Option.some.injEq] at hti';subst hti'
 split at hl <;> try (first | contradiction | exact False.elim hl)
 rotate_left
 · -- nothing to be added
   split at hl <;> try (first | contradiction | exact False.elim hl)
   · rename_i c i nn mm
     obtain ⟨p1,hl⟩:=hl
     have p1:nn≤mm:=p1
     obtain ⟨ha0,hl⟩:=(conj_iff _ _).1 hl
     refine ⟨w,m,.sl c i nn mm,.inl ?_,hm,hl,fun _ _=>rfl,zw _,.inl ⟨rfl,rfl⟩⟩
     refine hexec _ _ ?_
     rcases Ck.orNil_ok ha0 with hon | ⟨hon,rfl,rfl⟩
     · have hao:(ads m c).on=true:=hon
       simp [Builtin.append_,run_underlying' hu,sizeOf,typeInfo,hti,Builtin.lenOf,SV.va,hao,run_firstCells_none,p1,storeCells]
     · have hao:(ads m c).on=false:=hon
       simp [Builtin.append_,run_underlying' hu,sizeOf,typeInfo,hti,Builtin.lenOf,SV.va,hao,run_firstCells_none]
   · refine ⟨w,m,.nils,.inl ?_,hm,hl,fun _ _=>rfl,zw _,.inl ⟨rfl,rfl⟩⟩
     refine hexec _ _ ?_
     simp [Builtin.append_,run_underlying' hu,sizeOf,typeInfo,hti,Builtin.lenOf,SV.va,run_firstCells_none]
 rename_i c2' i2 k q2
 split at hl <;> try (first | contradiction | exact False.elim hl)
 rename_i t2 l2 hcl2
 split at hl <;> try (first | contradiction | exact False.elim hl)
 rename_i h2
 subst h2
 rw [castL_self] at hl
 have hbytes:∀ N:Nat,N*ti.bytes≤140737488355328→(N:Int)≤9223372036854775807:=by
  intro N hN
  have:N≤N*ti.bytes:=Nat.le_mul_of_pos_right _ (by omega)
  omega
 have hcap:∀ (w1:World) (need old:Nat),need≤grownCap w1 need old t2:=fun w1 need old=>grownCap_ge w1 need old t2
 split at hl <;> try (first | contradiction | exact False.elim hl)
 · -- onto a slice that there is
   rename_i c i nn mm
   split at hl <;> try (first | contradiction | exact False.elim hl)
   rename_i t1 l1 hcl1
   split at hl <;> try (first | contradiction | exact False.elim hl)
   rename_i h1
   subst h1
   rw [castL_self] at hl
   obtain ⟨hlf,hl⟩:=hl
   obtain ⟨p1,p2,p3,p4⟩:=hlf
   obtain ⟨hasks,hl⟩:=(conj_iff _ _).1 hl
   obtain ⟨hask1,hask2⟩:=(allOf_append _ _).1 hasks
   have hc1:c<m.length:=lt_of_alive (show (nth m c).alive=true by simp [Ck.alive,hcl1])
   have hc2:c2'<m.length:=lt_of_alive (show (nth m c2').alive=true by simp [Ck.alive,hcl2])
   have hr1:RowsOf m true t1 l1:=RowsOf.of (nth_mem hc1) hcl1 (fun h _=>by rw [c5] at h;cases h) fun _ h=>h
   have hr2:RowsOf m true t1 l2:=RowsOf.of (nth_mem hc2) hcl2 (fun h _=>by rw [c5] at h;cases h) fun _ h=>h
   have hlk:=length_setCk m c (.dead:Cells C)
   have hltk:memLt (setCk m c (.dead:Cells C)).length (setCk m c .dead)=true:=by
    rw [hlk]
    have:∀ (r:List (Ck C)) (c k:Nat),memLt k r=true→memLt k (setCk r c .dead)=true:=by
     intro r
     induction r with
     | nil=>intro c k h;exact h
     | cons y r ih=>
       intro c k h
       simp only [memLt,zq] at h
       cases c with
       | zero=>simp [setCkN,setCk0,setCkS,memLt,h.2,Ck.lt]
       | succ c=>simp [setCkN,setCk0,setCkS,memLt,h.1,ih c k h.2]
    exact this m c _ c1
   have hadsk:∀ (x:Ck C) k,k<m.length→ads m k=ads (setCk m c .dead ++ [x]) k:=by
    intro x k hk
    rw [← ads_append _ _ k (by omega),ads_setCk]
   have hadsn:∀ (x:Ck C),ads (setCk m c .dead ++ [x]) m.length=x.ad:=by
    intro x
    have:=ads_append_new (setCk m c .dead) x
    rwa [hlk] at this
   -- both are nil, or nothing is added to nil
   have hoff:nn=0→mm=0→k=0→(nth m c).on=false→(Builtin.append_ #[t,t] ty #[(SV.sl c i nn mm).va (ads m),(SV.sl c2' i2 k q2).va (ads m)]).run P w=.ok (.slice none 0 0) w→
    Left P S w0 tm m w (execOp a.eval oo) K:=by
    intro e1 e2 e3 hso hr
    subst e1 e2 e3
    split at hl
    · have hg:(nth m c).orHas 0=some false:=by
       unfold Ck.orHas
       unfold Ck.on at hso
       cases hgl:(nth m c).gl with
       | none=>rw [hgl] at hso;cases hso
       | some b=>rw [hgl] at hso;simp only at hso;subst hso;rfl
      have hK:=hl 0 0 [] 0 (zw _) (zw _)
      rw [hg] at hK
      refine ⟨w,_,.sl m.length 0 0 0,.inl ?_,(hm.kill c).off hltk (x:=⟨0,0,(C t1).sz,true,some false,.rows t1 ((l1.drop i).take 0 ++ (l2.drop i2).take 0 ++ [])⟩) rfl (CsIn.rows (by intro x hx;simp at hx)),hK,hadsk _,by simp [hlk],.inr c2⟩
      rw [hexec _ _ hr]
      simp [SV.va,hadsn,Ck.ad,Ck.on]
    · obtain ⟨p5,_⟩:=hl
      exact absurd p5 (by simp [Tr.holds])
   rcases Ck.orNil_ok hask2 with hx | ⟨hxo,hk0,_⟩
   rotate_left
   · -- what is added is nil
     subst hk0
     have hax:(ads m c2').on=false:=hxo
     rcases Ck.orNil_ok hask1 with hs1 | ⟨hso,hn0',hm0'⟩
     · have has:(ads m c).on=true:=hs1
       split at hl
       · rename_i hwr
         have hmv:=hm.move c1 hcl1 hwr hs1 ((nth m c).orHas 0) (by rw [Ck.orHas_ok,hs1];simp) i
         have hK:=hl (nth m c).block ((nth m c).base+i*(nth m c).sz) (l1.drop (i+nn)) mm (by omega) (by simp;omega)
         have hdr:(l1.drop i).take nn ++ (l2.drop i2).take 0 ++ l1.drop (i+nn)=l1.drop i:=by
          rw [List.take_zero,wx,← List.drop_drop,List.take_append_drop]
         rw [hdr] at hK
         have hcsz:(nth m c).sz=(C t1).sz:=by
          have:=hm.ok _ (nth_mem hc1) hs1
          simp only [Ck.ok,hcl1] at this
          exact this.1
         rw [hcsz] at hmv hK
         refine ⟨w,_,.sl m.length 0 (nn+0) mm,.inl ?_,hmv,hK,hadsk _,by simp [hlk],.inr c2⟩
         have hon':(⟨(nth m c).block,(nth m c).base+i*(C t1).sz,(C t1).sz,true,(nth m c).orHas 0,.rows t1 (l1.drop i)⟩:Ck C).on=true:=by
          have:=Ck.orHas_ok (c:=nth m c) (k:=0)
          rw [hs1] at this
          unfold Ck.on
          cases hg:(nth m c).orHas 0 with
          | none=>rfl
          | some b=>rw [hg] at this;simpa using this
         refine (hexec (.slice (some ((ads m c).at i 0)) nn mm) w ?_).trans ?_
         · simp [Builtin.append_,run_underlying' hu,sizeOf,typeInfo,hti,Builtin.lenOf,SV.va,has,hax,run_firstCells_none,p1,storeCells]
         · simp only [SV.va,hadsn,Ck.ad,hon',cond_true,Ad.at,za]
           simp [ads,Ck.ad,hcsz]
       · obtain ⟨p5,_⟩:=hl
         have p5:mm<nn+0:=p5
         omega
     · have has:(ads m c).on=false:=hso
       refine hoff hn0' hm0' rfl hso ?_
       subst hn0' hm0'
       simp [Builtin.append_,run_underlying' hu,sizeOf,typeInfo,hti,Builtin.lenOf,SV.va,has,hax,run_firstCells_none]
   have hax:(ads m c2').on=true:=hx
   rcases Ck.orNil_ok hask1 with hs1 | ⟨hso,hn0',hm0'⟩
   rotate_left
   · -- onto nil that was not known az nil
     have has:(ads m c).on=false:=hso
     by_cases hk:k=0
     · refine hoff hn0' hm0' hk hso ?_
       subst hn0' hm0' hk
       have hfc:=run_firstCells_some (P:=P) w ti.size 0 ((ads m c2').at i2 0) 0 q2 [] (by simp) (by simp)
       simp [Builtin.append_,run_underlying' hu,sizeOf,typeInfo,hti,Builtin.lenOf,SV.va,has,hax,hfc]
     · subst hn0' hm0'
       have hnews:=read_rows hm hcl2 hx p3 hn0
       have hnl:((flatSV (C t1) ((l2.drop i2).take k)).map (SV.va (ads m))).length=k*ti.size:=by rw [zn,flatSV_len,hsz];congr 1;simp;omega
       have p4':k*ti.bytes≤140737488355328:=by simpa using p4
       have hr:=run_append_nil (P:=P) w t ty t1 ti z hu hti hz ((ads m c2').at i2 0) k q2 _ hnl hnews (by omega) (hbytes _ p4') (by omega)
       have hge:=hcap w k 0
       have hcs:CsIn m true (.rows t1 ((l1.drop i).take 0 ++ (l2.drop i2).take k ++ zo (grownCap w k 0 t1 - k) (C t1).dflt):Cells C):=
        CsIn.rows (((hr1.sub fun x hx=>by simp at hx).app (hr2.sub fun x hx=>vo (xu hx))).app (RowsOf.rep _))
       have hok':∀ (ad:Nat→Ad) (g:Option Bool),Ck.ok ad (w.drew.alloc (.cells (((flatSV (C t1) ((l2.drop i2).take k)).map (SV.va (ads m))).toArray ++ Builtin.zeroCells z.cells (grownCap w k 0 t1 - k)) t1))
        (⟨w.drew.heap.size,0,(C t1).sz,true,g,.rows t1 ((l1.drop i).take 0 ++ (l2.drop i2).take k ++ zo (grownCap w k 0 t1 - k) (C t1).dflt)⟩:Ck C):=by
        intro ad g
        have:=((flat_append (ad:=ads m) [] ((l2.drop i2).take k) z.cells (hzz _) hzs hn0 (grownCap w k 0 t1 - k)).ads ad).ok w.drew t1 true g
        simpa [flatSV] using this
       have hval:(execOp a.eval oo).run P w=.ok (.value (.slice (some ⟨w.heap.size,0,none⟩) k (grownCap w k 0 t1))) _:=
        hexec _ _ (by
         simp only [SV.va,has,hax,cond_true,cond_false]
         exact hr)
       have hlen':k+(zo (grownCap w k 0 t1 - k) (C t1).dflt).length=grownCap w k 0 t1:=by simp;omega
       split at hl
       · have hg:((nth m c).orHas k).getD true=true:=by rw [Ck.orHas_ok];simp;omega
         have hmem:=(MemOK.newO' (w:=w.drew) hm.drew c1 (.cells _ t1) (fun w a hw=>by simp [World.frozen?,hw]) (C t1).sz _ ((nth m c).orHas k) hg (hok' _ _) (fun t' x hx=>by
          rcases hcs t' x hx with h1 | hfl
          · exact .inl h1
          · exact .inr ⟨hfl.2 _,fun b hb=>by rw [hfl.1] at hb;cases hb⟩)).kill c
         rw [setCk_app _ _ _ _ hc1] at hmem
         have hK:=hl w.heap.size 0 (zo (grownCap w k 0 t1 - k) (C t1).dflt) (grownCap w k 0 t1) (by omega) (by simp;omega)
         simp only [we] at hK
         refine ⟨_,_,.sl m.length 0 k (grownCap w k 0 t1),.inl ?_,hmem,hK,hadsk _,by simp [hlk],.inr c2⟩
         have hon':(⟨w.drew.heap.size,0,(C t1).sz,true,(nth m c).orHas k,.rows t1 ((l1.drop i).take 0 ++ (l2.drop i2).take k ++ zo (grownCap w k 0 t1 - k) (C t1).dflt)⟩:Ck C).on=true:=by
          unfold Ck.on
          cases hg':(nth m c).orHas k with
          | none=>rfl
          | some b=>rw [hg'] at hg;simpa using hg
         rw [hval]
         simp only [SV.va,hadsn,Ck.ad,hon',cond_true,Ad.at]
         simp
       · obtain ⟨p5,hl⟩:=hl
         have hmem:=MemOK.new (w:=w.drew) hm.drew c1 _ t1 (C t1).sz _ (hok' _ none) hcs
         have hK:=hl w.heap.size (zo (grownCap w k 0 t1 - k) (C t1).dflt)
         simp only [we] at hK
         refine ⟨_,_,.sl m.length 0 k (k+(zo (grownCap w k 0 t1 - k) (C t1).dflt).length),.inl ?_,hmem,hK,ads_append _ _,by simp,.inr c2⟩
         rw [hval]
         simp only [SV.va,ads_append_new,Ck.ad,Ck.on,cond_true,Ad.at,hlen']
         simp
   have has:(ads m c).on=true:=hs1
   have hlive:(nth m c).live=true:=by simp [Ck.live,Ck.alive,hcl1,hs1]
   have hok:=hm.ok _ (nth_mem hc1) hs1
   simp only [Ck.ok,hcl1] at hok
   obtain ⟨hcsz,hok⟩:=hok
   have hnews:=read_rows hm hcl2 hx p3 hn0
   have holds:=read_rows hm hcl1 hs1 (i:=i) (k:=nn) (by omega) hn0
   have hnl:((flatSV (C t1) ((l2.drop i2).take k)).map (SV.va (ads m))).length=k*ti.size:=by rw [zn,flatSV_len,hsz];congr 1;simp;omega
   have hol:((flatSV (C t1) ((l1.drop i).take nn)).map (SV.va (ads m))).length=nn*ti.size:=by rw [zn,flatSV_len,hsz];congr 1;simp;omega
   have hgrow:mm<nn+k→∃ w' cap,(Builtin.append_ #[t,t] ty #[(SV.sl c i nn mm).va (ads m),(SV.sl c2' i2 k q2).va (ads m)]).run P w=.ok (.slice (some ⟨w.heap.size,0,none⟩) (nn+k) (nn+k+cap)) w'∧
         (∀ g:Option Bool,g.getD true=true→MemOK S w0 w' (m ++ [⟨w.heap.size,0,(C t1).sz,true,g,.rows t1 ((l1.drop i).take nn ++ (l2.drop i2).take k ++ zo cap (C t1).dflt)⟩])):=by
    intro hg
    have hr:=run_append_grow (P:=P) w t ty t1 ti z hu hti hz ((ads m c).at i 0) nn mm _ hol holds ((ads m c2').at i2 0) k q2 _ hnl hnews hg (hbytes _ p4) (growslice_fits hg p4)
    have hge:=hcap w (nn+k) mm
    refine ⟨w.drew.alloc (.cells (((flatSV (C t1) ((l1.drop i).take nn)).map (SV.va (ads m))).toArray ++ ((flatSV (C t1) ((l2.drop i2).take k)).map (SV.va (ads m))).toArray ++ Builtin.zeroCells z.cells (grownCap w (nn+k) mm t1 - (nn+k))) t1),grownCap w (nn+k) mm t1 - (nn+k),?_,?_⟩
    · rw [show nn+k+(grownCap w (nn+k) mm t1 - (nn+k))=grownCap w (nn+k) mm t1 by omega]
      simp only [SV.va,has,hax,cond_true]
      exact hr
    · intro g hg
      have:=MemOK.newO' (w:=w.drew) hm.drew c1 (.cells (((flatSV (C t1) ((l1.drop i).take nn)).map (SV.va (ads m))).toArray ++ ((flatSV (C t1) ((l2.drop i2).take k)).map (SV.va (ads m))).toArray ++ Builtin.zeroCells z.cells (grownCap w (nn+k) mm t1 - (nn+k))) t1) (fun w a hw=>by simp [World.frozen?,hw])
       (C t1).sz (.rows t1 ((l1.drop i).take nn ++ (l2.drop i2).take k ++ zo (grownCap w (nn+k) mm t1 - (nn+k)) (C t1).dflt)) g hg
       (((flat_append (ad:=ads m) _ _ z.cells (hzz _) hzs hn0 _).ads _).ok w.drew t1 true g)
       (fun t' x hx=>by
         rcases (CsIn.rows (((hr1.sub fun x hx=>vo (xu hx)).app (hr2.sub fun x hx=>vo (xu hx))).app (RowsOf.rep (grownCap w (nn+k) mm t1 - (nn+k))))) t' x hx with h1 | hfl
         · exact .inl h1
         · exact .inr ⟨hfl.2 _,fun b hb=>by rw [hfl.1] at hb;cases hb⟩)
      exact this
   split at hl
   · -- it may be written
     rename_i hwr
     have hgo:((nth m c).orHas k).getD true=true:=by rw [Ck.orHas_ok,hs1];simp
     have honN:∀ (b ba sz:Nat) (cs:Cells C),(⟨b,ba,sz,true,(nth m c).orHas k,cs⟩:Ck C).on=true:=by
      intro b ba sz cs
      unfold Ck.on
      cases hg':(nth m c).orHas k with
      | none=>rfl
      | some b=>rw [hg'] at hgo;simpa using hgo
     by_cases hroom:nn+k≤mm
     · -- room
       have hcellrow:∀ j,j<k*(C t1).sz→(nth m c).ad.at (i+nn+j / (C t1).sz) (j % (C t1).sz)=⟨(nth m c).block,(nth m c).base+i*(nth m c).sz+nn*ti.size+j,none⟩:=by
        intro j hj
        have hdm:=qp j (C t1).sz
        simp only [Ck.ad,Ad.at,hcsz,hsz]
        congr 1
        rw [wn,wn]
        have:j / (C t1).sz*(C t1).sz+j % (C t1).sz=j:=by rw [xn];omega
        omega
       have hpos:0<(C t1).sz:=by omega
       have hisSome:∀ j,j<((flatSV (C t1) ((l2.drop i2).take k)).map (SV.va (ads m))).length→(w.cell? ⟨(nth m c).block,(nth m c).base+i*(nth m c).sz+nn*ti.size+j,none⟩).isSome=true:=by
        intro j hj
        rw [hnl,hsz] at hj
        rw [← hcellrow j hj]
        have hd:j / (C t1).sz<k:=by apply sc;rw [xn];exact hj
        rw [hok _ (by omega) _ (yv _ hpos)];rfl
       have hr:=run_append_in (P:=P) (w:=w) t ty t1 ti hu hti (nth m c).block ((nth m c).base+i*(nth m c).sz) nn mm ((ads m c2').at i2 0) k q2 _ hnl hnews (flat_one _ _ _) hroom hisSome
        (fun j _=>hm.wrok _ (nth_mem hc1) hwr hlive _ rfl)
       obtain ⟨g1,g2,g3,g4,g5⟩:=heap_setCells (nth m c).block ((flatSV (C t1) ((l2.drop i2).take k)).map (SV.va (ads m))) ((nth m c).base+i*(nth m c).sz+nn*ti.size) w
       have hupd:MemOK S w0 (w.setCells (nth m c).block ((nth m c).base+i*(nth m c).sz+nn*ti.size) ((flatSV (C t1) ((l2.drop i2).take k)).map (SV.va (ads m)))) (setCk m c (.rows t1 (l1.take (i+nn) ++ (l2.drop i2).take k ++ l1.drop (i+nn+k)))):=by
        refine hm.upd hwr hlive g3 g4 g5 g2 g1 (fun a=>World.frozen?_setCells _ _ _ _ _) _ (by simp [Ck.live,Ck.alive,Ck.on] at hs1 ⊢;exact hs1) ?_ (CsIn.rows (((hr1.sub fun x hx=>xu hx).app (hr2.sub fun x hx=>vo (xu hx))).app (hr1.sub fun x hx=>vo hx)))
        refine ⟨hcsz,fun r hr' f hf => ?_⟩
        have e0:({ nth m c with cells:=.rows t1 (l1.take (i+nn) ++ (l2.drop i2).take k ++ l1.drop (i+nn+k)) }:Ck C).ad=(nth m c).ad:=rfl
        rw [e0]
        have hlen1:(l1.take (i+nn)).length=i+nn:=by simp;omega
        have hlen2:((l2.drop i2).take k).length=k:=by simp;omega
        have hlen3:(l1.take (i+nn) ++ (l2.drop i2).take k ++ l1.drop (i+nn+k)).length=l1.length:=by simp;omega
        rw [hlen3] at hr'
        have hoff:(nth m c).ad.at r f=⟨(nth m c).block,(nth m c).base+(r*(C t1).sz+f),none⟩:=by simp [Ck.ad,Ad.at,hcsz]
        by_cases hin:i+nn≤r∧r<i+nn+k
        · have hj:(r - (i+nn))*(C t1).sz+f<((flatSV (C t1) ((l2.drop i2).take k)).map (SV.va (ads m))).length:=by
           rw [hnl,hsz]
           have:=uz (C t1).sz (show (r - (i+nn))+1≤k by omega)
           rw [wn] at this;omega
          have:=World.cell?_setCells_in (nth m c).block _ ((nth m c).base+i*(nth m c).sz+nn*ti.size) w hisSome _ hj
          have e1:(⟨(nth m c).block,(nth m c).base+i*(nth m c).sz+nn*ti.size+((r - (i+nn))*(C t1).sz+f),none⟩:Addr)=(nth m c).ad.at r f:=by
           rw [hoff,hcsz,hsz]
           congr 1
           have:r*(C t1).sz=(i+nn+(r - (i+nn)))*(C t1).sz:=by congr 1;omega
           rw [this,wn,wn];omega
          rw [e1] at this
          rw [this]
          have e2:(l1.take (i+nn) ++ (l2.drop i2).take k ++ l1.drop (i+nn+k)).getD r (C t1).dflt=((l2.drop i2).take k).getD (r - (i+nn)) (C t1).dflt:=by
           simp only [xg]
           rw [yx (by simp;omega),xr (by omega),hlen1]
          rw [e2]
          have hg:=flatSV_get (C t1) ((l2.drop i2).take k) (r - (i+nn)) f (by omega) hf
          rw [← zt hj,zf,hg];rfl
        · rw [World.cell?_setCells_out]
          · rw [hok r hr' f hf]
            have e2:(l1.take (i+nn) ++ (l2.drop i2).take k ++ l1.drop (i+nn+k)).getD r (C t1).dflt=l1.getD r (C t1).dflt:=by
             simp only [xg]
             by_cases h1:r<i+nn
             · rw [yx (by simp;omega),yx (by omega),yn h1]
             · rw [xr (by simp;omega)]
               simp only [zx,hlen1,hlen2,vp]
               rw [show i+nn+k+(r - (i+nn+k))=r by omega]
            rw [e2]
          · intro _ _
            rw [hoff,hnl,hcsz,hsz]
            simp only
            rcases vb r (i+nn) with h1 | h1
            · left
              have:=uz (C t1).sz (show r+1≤i+nn by omega)
              rw [wn,wn] at this;omega
            · right
              have:=uz (C t1).sz (show i+nn+k≤r by omega)
              rw [wn,wn] at this;omega
       have hltu:memLt (setCk m c (.rows t1 (l1.take (i+nn) ++ (l2.drop i2).take k ++ l1.drop (i+nn+k)))).length (setCk m c (.rows t1 (l1.take (i+nn) ++ (l2.drop i2).take k ++ l1.drop (i+nn+k))))=true:=by
        rw [length_setCk]
        have:∀ (r:List (Ck C)) (c k:Nat) (cs:List (C t1).α),memLt k r=true→memLt k (setCk r c (.rows t1 cs))=true:=by
         intro r
         induction r with
         | nil=>intro c k cs h;exact h
         | cons y r ih=>
           intro c k cs h
           simp only [memLt,zq] at h
           cases c with
           | zero=>simp [setCkN,setCk0,setCkS,memLt,h.2,Ck.lt]
           | succ c=>simp [setCkN,setCk0,setCkS,memLt,h.1,ih c k cs h.2]
        exact this m c _ _ c1
       have hcu:nth (setCk m c (.rows t1 (l1.take (i+nn) ++ (l2.drop i2).take k ++ l1.drop (i+nn+k)))) c={ nth m c with cells:=.rows t1 (l1.take (i+nn) ++ (l2.drop i2).take k ++ l1.drop (i+nn+k)) }:=by
        rw [nth_setCk,if_pos ⟨rfl,hc1⟩]
       have hmv:=hupd.move hltu (c:=c) (t:=t1) (by rw [hcu]) (by rw [hcu];exact hwr) (by rw [hcu];exact hs1) ((nth m c).orHas k) hgo i
       have hss:∀ (r:List (Ck C)) (c:Nat) (x y:Cells C),setCk (setCk r c x) c y=setCk r c y:=by
        intro r
        induction r with
        | nil=>intro c x y;rfl
        | cons z r ih=>intro c x y;cases c with
          | zero=>rfl
          | succ c=>simp [setCkN,setCk0,setCkS,ih]
       rw [hss,hcu] at hmv
       have hlen1:(l1.take (i+nn)).length=i+nn:=by simp;omega
       have hdr:(l1.take (i+nn) ++ (l2.drop i2).take k ++ l1.drop (i+nn+k)).drop i=(l1.drop i).take nn ++ (l2.drop i2).take k ++ l1.drop (i+nn+k):=by
        rw [vx,List.drop_append_of_le_length (by omega),← vx,List.drop_take,show i+nn - i=nn by omega]
       simp only [hdr] at hmv
       have hsp:(l1.drop (i+nn+k)).length=l1.length - (i+nn+k):=by simp
       refine ⟨_,_,.sl m.length 0 (nn+k) mm,.inl ?_,hmv,?_,hadsk _,by simp [hlk],.inr c2⟩
       rotate_left
       · have:=hl (nth m c).block ((nth m c).base+i*(nth m c).sz) (l1.drop (i+nn+k)) mm hroom (by omega)
         simp only [hcsz] at this ⊢
         exact this
       · rw [hexec _ _ (by simp only [SV.va,has,hax,cond_true];exact hr)]
         simp only [SV.va,hadsn,Ck.ad,honN,cond_true,Ad.at]
         simp
     · -- none
       obtain ⟨w',cap,hr,hmem⟩:=hgrow (by omega)
       have hm2:=(hmem _ hgo).kill c
       rw [setCk_app _ _ _ _ hc1] at hm2
       refine ⟨_,_,.sl m.length 0 (nn+k) (nn+k+cap),.inl ?_,hm2,?_,hadsk _,by simp [hlk],.inr c2⟩
       rotate_left
       · exact hl w.heap.size 0 (zo cap (C t1).dflt) (nn+k+cap) (by omega) (by simp)
       · rw [hexec _ _ hr]
         simp only [SV.va,hadsn,Ck.ad,honN,cond_true,Ad.at]
         simp
   · -- it may not
     obtain ⟨p5,hl⟩:=hl
     have p5:=p5
     obtain ⟨w',cap,hr,hmem⟩:=hgrow p5
     have hm2:=hmem none rfl
     refine ⟨_,_,.sl m.length 0 (nn+k) (nn+k+cap),.inl ?_,hm2,?_,ads_append _ _,by simp,.inr c2⟩
     rotate_left
     · have:=hl w.heap.size (zo cap (C t1).dflt)
       simp only [List.length_replicate] at this
       exact this
     · rw [hexec _ _ hr]
       simp only [SV.va,ads_append_new,Ck.ad,Ck.on,cond_true,Ad.at]
       simp
 · -- onto nil
   obtain ⟨hlf,hl⟩:=hl
   obtain ⟨p3,p4⟩:=hlf
   obtain ⟨hask2,hl⟩:=(conj_iff _ _).1 hl
   have hc2:c2'<m.length:=lt_of_alive (show (nth m c2').alive=true by simp [Ck.alive,hcl2])
   have h0:k=0→(Builtin.append_ #[t,t] ty #[SV.nils.va (ads m),(SV.sl c2' i2 k q2).va (ads m)]).run P w=.ok (.slice none 0 0) w→
    Left P S w0 tm m w (execOp a.eval oo) K:=by
    intro e hr
    subst e
    refine ⟨w,_,.sl m.length 0 0 0,.inl ?_,hm.off c1 (x:=⟨0,0,(C t2).sz,true,some (ye 0 0),.rows t2 ((l2.drop i2).take 0 ++ [])⟩) rfl (CsIn.rows (by intro x hx;simp at hx)),hl 0 [] (fun _=>rfl),ads_append _ _,by simp,.inr c2⟩
    rw [hexec _ _ hr]
    simp only [SV.va,ads_append_new,Ck.ad,Ck.on]
    rfl
   rcases Ck.orNil_ok hask2 with hx | ⟨hxo,hk0,_⟩
   · have hax:(ads m c2').on=true:=hx
     have hnews:=read_rows hm hcl2 hx p3 hn0
     have hnl:((flatSV (C t2) ((l2.drop i2).take k)).map (SV.va (ads m))).length=k*ti.size:=by rw [zn,flatSV_len,hsz];congr 1;simp;omega
     by_cases hk:k=0
     · refine h0 hk ?_
       subst hk
       have hfc:=run_firstCells_some (P:=P) w ti.size 0 ((ads m c2').at i2 0) 0 q2 [] (by simp) (by simp)
       simp [Builtin.append_,run_underlying' hu,sizeOf,typeInfo,hti,Builtin.lenOf,SV.va,hax,hfc]
     · have hr:=run_append_nil (P:=P) w t ty t2 ti z hu hti hz ((ads m c2').at i2 0) k q2 _ hnl hnews (by omega) (hbytes _ p4) (by omega)
       have hge:=hcap w k 0
       have hmem:=MemOK.newO' (w:=w.drew) hm.drew c1 (.cells (((flatSV (C t2) ((l2.drop i2).take k)).map (SV.va (ads m))).toArray ++ Builtin.zeroCells z.cells (grownCap w k 0 t2 - k)) t2) (fun w a hw=>by simp [World.frozen?,hw])
        (C t2).sz (.rows t2 ((l2.drop i2).take k ++ zo (grownCap w k 0 t2 - k) (C t2).dflt)) (some (ye 0 k)) (by simp only [Option.getD_some];rw [ui];omega)
        (by
          have:=((flat_append (ad:=ads m) [] ((l2.drop i2).take k) z.cells (hzz _) hzs hn0 (grownCap w k 0 t2 - k)).ads (ads (m ++ [⟨w.drew.heap.size,0,(C t2).sz,true,some (ye 0 k),.rows t2 ((l2.drop i2).take k ++ zo (grownCap w k 0 t2 - k) (C t2).dflt)⟩]))).ok w.drew t2 true (some (ye 0 k))
          simpa [flatSV] using this)
        (fun t' x hx=>by
          rcases (CsIn.rows ((RowsOf.of (wr:=true) (nth_mem hc2) hcl2 (fun h _=>by rw [c5] at h;cases h) fun x hx=>vo (xu hx)).app (RowsOf.rep (grownCap w k 0 t2 - k)))) t' x hx with h1 | hfl
          · exact .inl h1
          · exact .inr ⟨hfl.2 _,fun b hb=>by rw [hfl.1] at hb;cases hb⟩)
       refine ⟨_,_,.sl m.length 0 k (k+(zo (grownCap w k 0 t2 - k) (C t2).dflt).length),.inl ?_,hmem,hl w.heap.size (zo (grownCap w k 0 t2 - k) (C t2).dflt) (fun h=>absurd h hk),ads_append _ _,by simp,.inr c2⟩
       have e1:k+(zo (grownCap w k 0 t2 - k) (C t2).dflt).length=grownCap w k 0 t2:=by simp;omega
       have e2:ye 0 k=true:=by rw [ui];omega
       rw [hexec _ _ (by simp only [SV.va,hax,cond_true];exact hr)]
       simp only [SV.va,ads_append_new,Ck.ad,Ck.on,e2,cond_true,Ad.at,e1]
       simp
   · refine h0 hk0 ?_
     subst hk0
     have hax:(ads m c2').on=false:=hxo
     simp [Builtin.append_,run_underlying' hu,sizeOf,typeInfo,hti,Builtin.lenOf,SV.va,hax,run_firstCells_none]
theorem eev_append {P:Program} {S:Sx} {w0 w:World} {n:Nat} {tm:Tm} {m:List (Ck C)} {a:Act} (h:ActOK (ads m) n tm a) (hm:MemOK S w0 w m) {al:List (Nat×Bool)} (ha:AlOK tm al) {cl:Call}
 {dst:Option Tmp} {ty:TypeId} {pos:String} {after:Array Edge} {g:Option (Nat×Bool)}
 {K:SV→List (Ck C)→Tr} (hl:eev P tm m al (.call cl) K):Left P S w0 tm m w (execOp a.eval ⟨dst,.call cl,ty,pos,after,g⟩) K:=by
 obtain ⟨callee,args,argTypes⟩:=cl
 simp only [eev] at hl
 split at hl <;> try (first | contradiction | exact False.elim hl)
 split at hl <;> try (first | contradiction | exact False.elim hl)
 rename_i t t' so xo hts hxs
 split at hl <;> try (first | contradiction | exact False.elim hl)
 rotate_left
 · rename_i e s c0 i0 n0 m0 hbeq hu hs hx
   split at hl <;> try (first | contradiction | exact False.elim hl)
   rename_i e' hut
   have hargs:args = #[so,xo]:=by apply wd;simpa using hxs
   have htys:argTypes = #[t,t']:=by apply wd;simpa using hts
   subst hargs htys
   have es:=ev_ok h hm.glob ha _ _ hs
   have ex:=ev_ok h hm.glob ha _ _ hx
   refine append_core (ty:=ty) h hm hu (fun v w' hr => ?_) hl
   have e1:(Builtin.append_ #[t,t'] ty #[s.va (ads m),(SV.sl c0 i0 n0 m0).va (ads m)]).run P w=(Builtin.append_ #[t,t] ty #[s.va (ads m),(SV.sl c0 i0 n0 m0).va (ads m)]).run P w:=by
    generalize s.va (ads m)=sv
    generalize (SV.sl c0 i0 n0 m0).va (ads m)=xv
    unfold Builtin.append_
    cases sv <;> simp [run_underlying' hu,run_underlying' hut]
   rw [← e1] at hr
   simp [execOp,resolve,invoke,builtin,es,ex,hr]
 rename_i e s x hbeq hu hs hx
 have htt:=zp hbeq
 subst htt
 have hargs:args = #[so,xo]:=by apply wd;simpa using hxs
 have htys:argTypes = #[t,t]:=by apply wd;simpa using hts
 subst hargs htys
 have es:=ev_ok h hm.glob ha _ _ hs
 have ex:=ev_ok h hm.glob ha _ _ hx
 refine append_core (ty:=ty) h hm hu (fun v w' hr => ?_) hl
 simp [execOp,resolve,invoke,builtin,es,ex,hr]
end Go.Vx
namespace Go.Vx
open Go
variable {C:Nat→Codec}
def rn:List Nat→Nat→Nat
 | [],_=>0
 | x :: _,0=>x
 | _ :: r,c+1=>rn r c
mutual
def SV.ren (ρ:List Nat):SV→SV
 | .ptr c i f=>.ptr (rn ρ c) i f
 | .sl c i n m=>.sl (rn ρ c) i n m
 | .agg vs=>.agg (SV.rens ρ vs)
 | .tup vs=>.tup (SV.rens ρ vs)
 | .ifc t v=>.ifc t (SV.ren ρ v)
 | .fn f a b=>.fn f (SV.rens ρ a) (SV.rens ρ b)
 | .cnd cs v=>.cnd cs (SV.ren ρ v)
 | .junk=>.junk
 | .undef=>.undef
 | .int k n=>.int k n
 | .bool b=>.bool b
 | .nilp=>.nilp
 | .nils=>.nils
 | .nili=>.nili
 | .nilf=>.nilf
 | .gp g=>.gp g
 | .mp c=>.mp (rn ρ c)
 | .val v=>.val v
def SV.rens (ρ:List Nat):List SV→List SV
 | []=>[]
 | v :: r=>SV.ren ρ v :: SV.rens ρ r
end
mutual
theorem SV.va_ren {n:Nat} {ρ:List Nat} {ad ad':Nat→Ad} (h:∀ c,c<n→ad c=ad' (rn ρ c)):∀ v:SV,SV.lt n v=true→SV.va ad v=SV.va ad' (v.ren ρ)
 | .junk,_ | .undef,_ | .int _ _,_ | .bool _,_ | .nilp,_ | .nils,_ | .nili,_ | .nilf,_ | .gp _,_ | .val _,_=>by simp [SV.va,SV.ren]
 | .ptr c i f,hv=>by simp [SV.lt] at hv;simp [SV.va,SV.ren,h c hv]
 | .sl c i f m,hv=>by simp [SV.lt] at hv;simp [SV.va,SV.ren,h c hv]
 | .mp c,hv=>by simp [SV.lt] at hv;simp [SV.va,SV.ren,h c hv]
 | .agg vs,hv=>by simp [SV.lt] at hv;simp [SV.va,SV.ren,SV.vas_ren h vs hv]
 | .tup vs,hv=>by simp [SV.lt] at hv;simp [SV.va,SV.ren,SV.vas_ren h vs hv]
 | .ifc t v,hv=>by simp [SV.lt] at hv;simp [SV.va,SV.ren,SV.va_ren h v hv]
 | .fn f a b,hv=>by simp [SV.lt] at hv;simp [SV.va,SV.ren,SV.vas_ren h a hv.1,SV.vas_ren h b hv.2]
 | .cnd cs v,hv=>by simp [SV.lt] at hv;simp [SV.va,SV.ren,SV.va_ren h v hv]
theorem SV.vas_ren {n:Nat} {ρ:List Nat} {ad ad':Nat→Ad} (h:∀ c,c<n→ad c=ad' (rn ρ c)):∀ vs:List SV,SV.lts n vs=true→SV.vas ad vs=SV.vas ad' (SV.rens ρ vs)
 | [],_=>rfl
 | v :: r,hv=>by simp [SV.lts] at hv;simp [SV.vas,SV.rens,SV.va_ren h v hv.1,SV.vas_ren h r hv.2]
end
def sbEq:SB→SB→List Prop
 | .t,.t=>[]
 | .f,.f=>[]
 | a,b=>[a.val=b.val]
mutual
def eqv (N:Nat):SV→SV→Option (List Prop)
 | .undef,.undef=>some []
 | .int k n,.int k' n'=>if sameKind k k' then some [n=n'] else none
 | .bool s,.bool s'=>some (sbEq s s')
 | .ptr c i f,.ptr c' i' f'=>if zi c c' && zi f f' then some [i=i'] else none
 | .nilp,.nilp=>some []
 | .sl c i n m,.sl c' i' n' m'=>if zi c c' then some [i=i',n=n',m=m'] else none
 | .nils,.nils=>some []
 | .nils,.sl c _ n m=>if Nat.ble N c then some [n=0,m=0] else none
 | .sl c _ n m,.nils=>if Nat.ble N c then some [n=0,m=0] else none
 | .agg a,.agg b=>eqvs N a b
 | .tup a,.tup b=>eqvs N a b
 | .ifc t v,.ifc t' v'=>if zi t t' then eqv N v v' else none
 | .nili,.nili=>some []
 | .fn (.func f) a b,.fn (.func f') a' b'=>if zi f f' then match eqvs N a a',eqvs N b b' with
   | some p,some q=>some (p ++ q)
   | _,_=>none else none
 | .fn (.yield l) [] [],.fn (.yield l') [] []=>some [l=l']
 | .nilf,.nilf=>some []
 | .gp g,.gp g'=>if zi g g' then some [] else none
 | .mp c,.mp c'=>if zi c c' then some [] else none
 | .val v,.val v'=>some [v=v']
 | .val v,.nils=>some [v=.slice none 0 0]
 | _,_=>none
def eqvs (N:Nat):List SV→List SV→Option (List Prop)
 | [],[]=>some []
 | a :: r,b :: s=>match eqv N a b,eqvs N r s with
   | some p,some q=>some (p ++ q)
   | _,_=>none
 | _,_=>none
end
mutual
theorem eqv_ok {N:Nat} {ad:Nat→Ad} (hN:∀ c,N≤c→(ad c).on=false):∀ (a b:SV) (ps:List Prop),eqv N a b=some ps→allOf ps→SV.va ad a=SV.va ad b:=by
 intro a b ps h hp
 unfold eqv at h
 split at h
 case h_1=>rfl
 case h_2=>split at h <;> simp at h;subst h;rename_i hk;simp [allOf] at hp;simp [SV.va,hp,sameKind_eq hk]
 case h_3 s s'=>
  simp only [Option.some.injEq] at h;subst h
  cases s <;> cases s' <;> first | rfl | (simp only [sbEq,allOf,and_true] at hp;simp only [SV.va];rw [hp])
 case h_4=>split at h <;> simp at h;subst h;rename_i hk;simp at hk;simp [allOf] at hp;simp [SV.va,hp,hk]
 case h_5=>rfl
 case h_6=>split at h <;> simp at h;subst h;rename_i hk;simp at hk;simp [allOf] at hp;simp [SV.va,hp,hk]
 case h_7=>rfl
 case h_8=>split at h <;> simp at h;subst h;rename_i hk;simp at hk;simp [allOf] at hp;simp [SV.va,hN _ hk,hp]
 case h_9=>split at h <;> simp at h;subst h;rename_i hk;simp at hk;simp [allOf] at hp;simp [SV.va,hN _ hk,hp]
 case h_10 a b=>simp only [SV.va];rw [eqvs_ok hN a b ps h hp]
 case h_11 a b=>simp only [SV.va];rw [eqvs_ok hN a b ps h hp]
 case h_12 t v t' v'=>
  split at h
  · rename_i hk;simp at hk;subst hk;simp only [SV.va];rw [eqv_ok hN v v' ps h hp]
  · cases h
 case h_13=>rfl
 case h_14 f a b f' a' b'=>
  split at h
  rotate_left
  · cases h
  rename_i hk;simp at hk;subst hk
  split at h <;> simp at h
  rename_i p q hp' hq'
  subst h
  have:=(allOf_append p q).1 hp
  simp only [SV.va]
  rw [eqvs_ok hN a a' p hp' this.1,eqvs_ok hN b b' q hq' this.2]
 case h_15=>simp at h;subst h;simp [allOf] at hp;simp [SV.va,hp]
 case h_16=>rfl
 case h_17=>split at h <;> simp at h;rename_i hk;simp at hk;subst hk;rfl
 case h_18=>split at h <;> simp at h;rename_i hk;simp at hk;subst hk;rfl
 case h_19=>simp at h;subst h;simp [allOf] at hp;simp [SV.va,hp]
 case h_20=>simp at h;subst h;simp [allOf] at hp;simp [SV.va,hp]
 case h_21=>cases h
theorem eqvs_ok {N:Nat} {ad:Nat→Ad} (hN:∀ c,N≤c→(ad c).on=false):∀ (a b:List SV) (ps:List Prop),eqvs N a b=some ps→allOf ps→SV.vas ad a=SV.vas ad b:=by
 intro a b ps h hp
 unfold eqvs at h
 split at h
 · rfl
 · rename_i a r b s
   split at h <;> simp at h
   rename_i p q hp' hq'
   subst h
   have:=(allOf_append p q).1 hp
   simp only [SV.vas]
   rw [eqv_ok hN a b p hp' this.1,eqvs_ok hN r s q hq' this.2]
 · cases h
end
def castMp {C:Nat→Codec} {tk tv tk' tv':Nat} (h:tk'=tk∧tv'=tv) (l:List ((C tk').α×(C tv').α×Nat)):List ((C tk).α×(C tv).α×Nat):=h.1 ▸ h.2 ▸ l
def cellsEq (N:Nat) (ρ:List Nat):Cells C→Cells C→Option (List Prop)
 | .rows t l,.rows t' l'=>if h:t'=t then some [l=castL h l'] else none
 | .one vs,.one vs'=>onesEq (SV.rens ρ vs) vs'
 | .mp tk tv l clk,.mp tk' tv' l' clk'=>if h:tk'=tk∧tv'=tv then some [l=castMp h l',clk=clk'] else none
 | .it mc seen clk,.it mc' seen' clk'=>if zi (rn ρ mc) mc' then some [seen=seen',clk=clk'] else none
 | .dead,_=>some []
 | _,_=>none
where
 onesEq:List SV→List SV→Option (List Prop)
 | [],_=>some []
 | .junk :: r,_ :: s=>onesEq r s
 | a :: r,b :: s=>match eqv N a b,onesEq r s with
   | some p,some q=>some (p ++ q)
   | _,_=>none
 | _,_=>none
def onEq:Option Bool→Option Bool→List Prop
 | none,none=>[]
 | none,some b=>[b=true]
 | some a,none=>[a=true]
 | some a,some b=>[a=b]
def bImp:Bool→Bool→Bool
 | true,b=>b
 | false,_=>true
def ckEq (N:Nat) (ρ:List Nat) (a b:Ck C):Option (List Prop):=
 if zi a.sz b.sz && bImp a.wr b.wr then
  (cellsEq N ρ a.cells b.cells).map fun ps=>onEq a.gl b.gl ++ (a.block=b.block) :: (a.base=b.base) :: ps
 else none
def cksEq (N:Nat) (ρ:List Nat) (M:List (Ck C)):List Nat→List (Ck C)→Option (List Prop)
 | [],[]=>some []
 | p :: r,a :: s=>if ye p M.length then match ckEq N ρ a (nth M p),cksEq N ρ M r s with
     | some x,some y=>some (x ++ y)
     | _,_=>none else none
 | _,_=>none
def notIn (p:Nat):List Nat→Bool
 | []=>true
 | x :: r=>!(zi x p) && notIn p r
def apartB:List Nat→List (Ck C)→Bool
 | [],_=>true
 | p :: r,[]=>notIn p r && apartB r []
 | p :: r,a :: s=>(if a.wr then notIn p r else wrNot p r s) && apartB r s
where
 wrNot (p:Nat):List Nat→List (Ck C)→Bool
 | x :: r,a :: s=>(if a.wr then !(zi x p) else true) && wrNot p r s
 | _,_=>true
def renCells (ρ:List Nat):Cells C→Cells C
 | .rows t l=>.rows t l
 | .one vs=>.one (SV.rens ρ vs)
 | .mp tk tv l clk=>.mp tk tv l clk
 | .it mc seen clk=>.it (rn ρ mc) seen clk
 | .dead=>.dead
def renCk (ρ:List Nat):Ck C→Ck C
 | ⟨b,ba,sz,w,g,cs⟩=>⟨b,ba,sz,w,g,renCells ρ cs⟩
def backU (ρ':List Nat):List Nat→List (Ck C)→List (Ck C)→List (Ck C)→List (Ck C)
 | p :: r,a :: s,o :: out,M=>backU ρ' r s out (match a.wr with
     | true=>setCk M p (renCells ρ' o.cells)
     | false=>M)
 | _,_,_,M=>M
def backN (ρ':List Nat):List (Ck C)→List (Ck C)→List (Ck C)
 | _ :: s,_ :: out=>backN ρ' s out
 | [],out=>out.map (renCk ρ')
 | _ :: _,[]=>[]
def upFrom:Nat→Nat→List Nat
 | _,0=>[]
 | n,k+1=>n :: upFrom (n+1) k
def extB:List (Ck C)→List (Ck C)→Bool
 | [],out=>out.all fun c=>c.wr || !c.live
 | _ :: s,_ :: out=>extB s out
 | _ :: _,[]=>false
structure Ext (m m':List (Ck C)):Prop where
 len:m.length≤m'.length
 same:∀ k,k<m.length→(nth m' k).block=(nth m k).block∧(nth m' k).base=(nth m k).base∧(nth m' k).sz=(nth m k).sz∧(nth m' k).wr=(nth m k).wr∧(nth m' k).on=(nth m k).on
 new:∀ k,m.length≤k→k<m'.length→(nth m' k).live=true→(nth m' k).wr=true
def Ck.noOwn (c:Ck C):Bool:=match c.cells with
 | .rows t _=>!((C t).own && c.wr)
 | .mp _ tv _ _=>!((C tv).own && c.wr)
 | _=>true
theorem Ck.noOwn_ok {c:Ck C} (h:c.noOwn=true) {t:Nat} {x:(C t).α} (hx:c.cells.Has t x):((C t).own && c.wr)=false:=by
 unfold Ck.noOwn at h
 rcases hx with ⟨l,he,_⟩ | ⟨tk,l,clk,he,_⟩
 · rw [he] at h;simp only [yi] at h;exact h
 · rw [he] at h;simp only [yi] at h;exact h
theorem Ck.noOwn_ro {c:Ck C} (h:c.wr=false):c.noOwn=true:=by
 unfold Ck.noOwn
 split <;> simp [h]
def wrS (m:List (Ck C)):Sx:=⟨fun k=>∃ c∈m,c.wr=true∧c.on=true∧c.block=k,[],fun b=>∃ c∈m,∃ t x,c.cells.Has t x∧b∈(C t).blks x⟩
theorem onesEq_ok {N:Nat} {ad:Nat→Ad} (hN:∀ c,N≤c→(ad c).on=false) (w:World) (b:Nat→Addr):∀ (a c:List SV) (ps:List Prop),cellsEq.onesEq N a c=some ps→allOf ps→a.length≤c.length∧∀ f,f<a.length→cellIs ad w (b f) (c.getD f .junk)→cellIs ad w (b f) (a.getD f .junk)
 | [],_,_,_,_=>⟨Nat.zero_le _,fun f hf=>by simp at hf⟩
 | x :: r,[],_,h,_=>by cases x <;> simp [cellsEq.onesEq] at h
 | x :: r,y :: s,ps,h,hp=>by
   have cell_any:∀ (v:SV) (a:Addr),cellIs ad w a v→cellIs ad w a .junk:=by
    intro v a hv
    cases v <;> simp only [cellIs] at hv ⊢ <;> first | exact hv | exact ⟨_,hv⟩
   by_cases hx:x=.junk
   · subst hx
     simp only [cellsEq.onesEq] at h
     have ih:=onesEq_ok hN w (fun f=>b (f+1)) r s ps h hp
     refine ⟨by simp [ih.1],fun f hf hc => ?_⟩
     cases f with
     | zero=>exact cell_any _ _ hc
     | succ f=>exact ih.2 f (by simpa using hf) hc
   · have h':(match eqv N x y,cellsEq.onesEq N r s with | some p,some q=>some (p ++ q) | _,_=>none)=some ps:=by
      cases x <;> first | exact h | exact absurd rfl hx
     split at h' <;> simp at h'
     rename_i p q hp' hq'
     subst h'
     have hpq:=(allOf_append p q).1 hp
     have ih:=onesEq_ok hN w (fun f=>b (f+1)) r s q hq' hpq.2
     refine ⟨by simp [ih.1],fun f hf hc => ?_⟩
     cases f with
     | zero=>
       have e:=eqv_ok hN x y p hp' hpq.1
       simp only [uy] at hc ⊢
       have hy:y≠.junk:=by rintro rfl;cases x <;> simp [eqv] at hp'
       cases x <;> first | exact absurd rfl hx | (cases y <;> first | exact absurd rfl hy | (simp only [cellIs] at hc ⊢;rw [e];exact hc))
     | succ f=>exact ih.2 f (by simpa using hf) hc
def offOf (a:Ck C):Ck C:=match a with
 | ⟨b,ba,sz,w,_,cs⟩=>⟨b,ba,sz,w,some false,match cs with
   | .rows t _=>.rows t []
   | _=>.dead⟩
def fixR (n0:Nat):Nat→List Nat→List Nat
 | _,[]=>[]
 | n,p :: r=>match ye p n0 with
   | true=>p :: fixR n0 n r
   | false=>n :: fixR n0 (n+1) r
def offs (n0:Nat):List Nat→List (Ck C)→List (Ck C)
 | p :: r,a :: s=>match ye p n0 with
   | true=>offs n0 r s
   | false=>offOf a :: offs n0 r s
 | _,_=>[]
theorem offs_off (n0:Nat):∀ (r:List Nat) (s:List (Ck C)),∀ x∈offs n0 r s,x.on=false∧(∀ t y,¬ x.cells.Has t y)∧∀ n,x.lt n=true
 | [],_,x,hx=>by simp [offs] at hx
 | _ :: _,[],x,hx=>by simp [offs] at hx
 | p :: r,a :: s,x,hx=>by
   simp only [offs] at hx
   split at hx
   · exact offs_off n0 r s x hx
   · rcases List.mem_cons.1 hx with rfl | hx
     · obtain ⟨b,ba,sz,w,g,cs⟩:=a
       refine ⟨rfl,fun t y h => ?_,fun n => ?_⟩
       · rcases h with ⟨l,h,hy⟩ | ⟨_,_,_,h,_⟩
         · cases cs <;> simp only [offOf] at h <;> first | (cases h;done) | (simp only [Cells.rows.injEq] at h;obtain ⟨rfl,h⟩:=h;rw [← eq_of_heq h] at hy;cases hy)
         · cases cs <;> simp only [offOf] at h <;> cases h
       · cases cs <;> rfl
     · exact offs_off n0 r s x hx
theorem nth_app:∀ (a b:List (Ck C)) (j:Nat),nth (a ++ b) j=if j<a.length then nth a j else nth b (j - a.length):=by
 intro a
 induction a with
 | nil=>intro b j;simp
 | cons x a ih=>intro b j;cases j with
   | zero=>simp [nth]
   | succ j=>simp [nth,ih]
theorem memLt_app {n:Nat}:∀ {a b:List (Ck C)},memLt n a=true→memLt n b=true→memLt n (a ++ b)=true
 | [],_,_,h=>h
 | x :: a,b,h,h'=>by
   simp only [memLt,List.cons_append,zq] at h ⊢
   exact ⟨h.1,memLt_app h.2 h'⟩
mutual
theorem SV.lt_mono {k n:Nat} (h:k≤n):∀ v:SV,SV.lt k v=true→SV.lt n v=true
 | .ptr c _ _,hv=>by simp [SV.lt] at hv ⊢;omega
 | .sl c _ _ _,hv=>by simp [SV.lt] at hv ⊢;omega
 | .mp c,hv=>by simp [SV.lt] at hv ⊢;omega
 | .agg vs,hv=>by simp [SV.lt] at hv ⊢;exact SV.lts_mono h vs hv
 | .tup vs,hv=>by simp [SV.lt] at hv ⊢;exact SV.lts_mono h vs hv
 | .ifc t v,hv=>by simp [SV.lt] at hv ⊢;exact SV.lt_mono h v hv
 | .fn f a b,hv=>by simp [SV.lt] at hv ⊢;exact ⟨SV.lts_mono h a hv.1,SV.lts_mono h b hv.2⟩
 | .cnd cs v,hv=>by simp [SV.lt] at hv ⊢;exact SV.lt_mono h v hv
 | .junk,_ | .undef,_ | .int _ _,_ | .bool _,_ | .nilp,_ | .nils,_ | .nili,_ | .nilf,_ | .gp _,_ | .val _,_=>by simp [SV.lt]
theorem SV.lts_mono {k n:Nat} (h:k≤n):∀ vs:List SV,SV.lts k vs=true→SV.lts n vs=true
 | [],_=>rfl
 | v :: r,hv=>by simp [SV.lts] at hv ⊢;exact ⟨SV.lt_mono h v hv.1,SV.lts_mono h r hv.2⟩
end
theorem Ck.lt_mono {k n:Nat} (hkn:k≤n) {y:Ck C} (h:y.lt k=true):y.lt n=true:=by
 obtain ⟨b,ba,sz,w,g,cs⟩:=y
 cases cs <;> simp only [Ck.lt] at h ⊢
 · exact SV.lts_mono hkn _ h
 · simp at h ⊢;omega
theorem memLt_mono {k n:Nat} (hkn:k≤n):∀ {l:List (Ck C)},memLt k l=true→memLt n l=true
 | [],h=>h
 | y :: l,h=>by
   simp only [memLt,zq] at h ⊢
   exact ⟨Ck.lt_mono hkn h.1,memLt_mono hkn h.2⟩
theorem MemOK.offs {S:Sx} {w0 w:World}:∀ {o m:List (Ck C)},MemOK S w0 w m→memLt m.length m=true→(∀ x∈o,x.on=false∧(∀ t y,¬ x.cells.Has t y)∧∀ n,x.lt n=true)→MemOK S w0 w (m ++ o)∧memLt (m ++ o).length (m ++ o)=true
 | [],m,h,hl,_=>by simpa using ⟨h,hl⟩
 | x :: o,m,h,hl,ho=>by
   obtain ⟨h1,h2,h3⟩:=ho x (by simp)
   have hm:=h.off hl h1 (fun t y hy=>absurd hy (h2 t y))
   have hl':memLt (m ++ [x]).length (m ++ [x])=true:=memLt_app (memLt_mono (by simp) hl) (by simp [memLt,h3])
   have:=MemOK.offs hm hl' (fun y hy=>ho y (yw _ hy))
   simpa using this
theorem ads_offs {m o:List (Ck C)} (ho:∀ x∈o,x.on=false):(∀ c,c<m.length→ads m c=ads (m ++ o) c)∧∀ c,m.length≤c→(ads (m ++ o) c).on=false:=by
 refine ⟨fun c hc=>by simp [ads,nth_app,hc],fun c hc => ?_⟩
 simp only [ads,nth_app,Nat.not_lt.2 hc,if_false]
 rcases vb (c - m.length) o.length with h | h
 · exact ho _ (nth_mem h)
 · rw [nth_ge h];rfl
end Go.Vx
namespace Go.Vx
open Go
variable {C:Nat→Codec}
theorem cksEq_ok {N:Nat} {ρ:List Nat} {M:List (Ck C)}:∀ {r:List Nat} {s:List (Ck C)} {ps:List Prop},cksEq N ρ M r s=some ps→allOf ps→
 r.length=s.length∧∀ k,k<s.length→rn r k<M.length∧∃ qs,ckEq N ρ (nth s k) (nth M (rn r k))=some qs∧allOf qs
 | [],[],_,_,_=>⟨rfl,fun k hk=>by simp at hk⟩
 | [],_ :: _,_,h,_=>by simp [cksEq] at h
 | _ :: _,[],_,h,_=>by simp [cksEq] at h
 | p :: r,a :: s,ps,h,hp=>by
   simp only [cksEq] at h
   split at h
   · rename_i hlt
     have hlt:p<M.length:=by simpa using hlt
     split at h <;> try contradiction
     rename_i x y hx hy
     simp only [Option.some.injEq] at h;subst h
     have hxy:=(allOf_append x y).1 hp
     have ih:=cksEq_ok hy hxy.2
     refine ⟨by simp [ih.1],fun k hk => ?_⟩
     cases k with
     | zero=>exact ⟨hlt,x,hx,hxy.1⟩
     | succ k=>exact ih.2 k (by simpa using hk)
   · cases h
structure CkEq (N:Nat) (ρ:List Nat) (a b:Ck C):Prop where
 block:a.block=b.block
 base:a.base=b.base
 sz:a.sz=b.sz
 wr:a.wr=true→b.wr=true
 on:a.on=b.on
 alive:a.alive=true→b.alive=true
 cells:∃ qs,cellsEq N ρ a.cells b.cells=some qs∧allOf qs
theorem CkEq.live {N:Nat} {ρ:List Nat} {a b:Ck C} (h:CkEq N ρ a b) (hl:a.live=true):b.live=true:=
 Ck.live_iff.2 ⟨h.alive (Ck.live_iff.1 hl).1,by rw [← h.on];exact (Ck.live_iff.1 hl).2⟩
theorem onEq_ok {a b:Ck C} (h:allOf (onEq a.gl b.gl)):a.on=b.on:=by
 unfold Ck.on
 cases ha:a.gl <;> cases hb:b.gl <;> rw [ha,hb] at h <;> simp only [onEq] at h
 · exact h.1.symm
 · exact h.1
 · exact h.1
theorem ckEq_ok {N:Nat} {ρ:List Nat} {a b:Ck C} {qs:List Prop} (h:ckEq N ρ a b=some qs) (hp:allOf qs):CkEq N ρ a b:=by
 unfold ckEq at h
 split at h
 · rename_i hc
   simp only [zq] at hc
   obtain ⟨h1,h2⟩:=hc
   cases hce:cellsEq N ρ a.cells b.cells with
   | none=>simp [hce] at h
   | some ps=>
     simp only [hce,yr,Option.some.injEq] at h;subst h
     obtain ⟨e0,e1,e2,e3⟩:=(allOf_append _ _).1 hp
     refine ⟨e1,e2,zp h1,fun hw => ?_,onEq_ok e0,fun hl => ?_,_,hce,e3⟩
     · rw [hw] at h2;exact h2
     · unfold Ck.alive at hl ⊢
       unfold cellsEq at hce
       split at hce
       · rename_i heq1 heq2;rw [heq2]
       · rename_i heq1 heq2;rw [heq2]
       · rename_i heq1 heq2;rw [heq2]
       · rename_i heq1 heq2;rw [heq2]
       · rename_i heq1;rw [heq1] at hl;cases hl
       · cases hce
 · cases h
theorem apartB_ok:∀ {r:List Nat} {s:List (Ck C)},apartB r s=true→r.length=s.length→∀ i j,i<s.length→j<s.length→i≠j→(nth s i).wr=true→rn r i≠rn r j
 | [],[],_,_,i,_,hi,_,_,_=>by simp at hi
 | [],_ :: _,_,h,_,_,_,_,_,_=>by simp at h
 | _ :: _,[],_,h,_,_,_,_,_,_=>by simp at h
 | p :: r,a :: s,h,hl,i,j,hi,hj,hij,hw=>by
   have notIn_ok:∀ (r:List Nat),notIn p r=true→∀ k,k<r.length→rn r k≠p:=by
    intro r
    induction r with
    | nil=>intro _ k hk;simp at hk
    | cons x r ih=>
      intro h k hk
      simp only [notIn,zq,yi] at h
      cases k with
      | zero=>exact xc h.1
      | succ k=>exact ih h.2 k (by simpa using hk)
   have wrNot_ok:∀ (r:List Nat) (s:List (Ck C)),apartB.wrNot p r s=true→∀ k,k<r.length→k<s.length→(nth s k).wr=true→rn r k≠p:=by
    intro r
    induction r with
    | nil=>intro s _ k hk;simp at hk
    | cons x r ih=>
      intro s h k hk hks hwk
      cases s with
      | nil=>simp at hks
      | cons y s=>
        simp only [apartB.wrNot,zq] at h
        cases k with
        | zero=>
          simp only [nth] at hwk
          have:=h.1
          rw [hwk] at this
          simp only [if_true,yi] at this
          exact xc this
        | succ k=>exact ih s h.2 k (by simpa using hk) (by simpa using hks) hwk
   simp only [apartB,zq] at h
   have hl':r.length=s.length:=by simpa using hl
   cases i with
   | zero=>
     cases j with
     | zero=>exact absurd rfl hij
     | succ j=>
       simp only [nth] at hw
       have h1:=h.1
       rw [hw] at h1
       simp only [if_true] at h1
       exact (notIn_ok r h1 j (by simp at hj;omega)).symm
   | succ i=>
     cases j with
     | zero=>
       have h1:=h.1
       simp only [nth] at hw
       show rn r i≠p
       cases ha:a.wr with
       | true=>rw [ha] at h1;exact notIn_ok r (by simpa using h1) i (by simp at hi;omega)
       | false=>rw [ha] at h1;exact wrNot_ok r s (by simpa using h1) i (by simp at hi;omega) (by simpa using hi) hw
     | succ j=>exact apartB_ok h.2 hl' i j (by simpa using hi) (by simpa using hj) (fun e=>hij (by omega)) hw
theorem CkEq.rows {N:Nat} {ρ:List Nat} {a b:Ck C} (h:CkEq N ρ a b) {t:Nat} {l:List (C t).α} (hc:a.cells=.rows t l):b.cells=.rows t l:=by
 obtain ⟨qs,hq,hqs⟩:=h.cells
 rw [hc] at hq
 cases hb:b.cells with
 | rows t' l'=>
   rw [hb] at hq
   simp only [cellsEq] at hq
   split at hq
   · rename_i htt
     simp only [Option.some.injEq] at hq;subst hq
     obtain ⟨e,_⟩:=hqs
     subst htt
     rw [castL_self] at e
     rw [e]
   · cases hq
 | one _=>rw [hb] at hq;simp [cellsEq] at hq
 | mp _ _ _ _=>rw [hb] at hq;simp [cellsEq] at hq
 | it _ _ _=>rw [hb] at hq;simp [cellsEq] at hq
 | dead=>rw [hb] at hq;simp [cellsEq] at hq
theorem CkEq.has {N:Nat} {ρ:List Nat} {a b:Ck C} (h:CkEq N ρ a b) {t:Nat} {x:(C t).α} (hx:a.cells.Has t x):b.cells.Has t x:=by
 rcases hx with ⟨l,hc,hx⟩ | ⟨tk,l,clk,hc,e,he,rfl⟩
 · exact .of_rows (h.rows hc) hx
 · obtain ⟨qs,hq,hqs⟩:=h.cells
   rw [hc] at hq
   cases hb:b.cells with
   | mp tk' tv' l' clk'=>
     rw [hb] at hq
     simp only [cellsEq] at hq
     split at hq
     · rename_i htt
       simp only [Option.some.injEq] at hq;subst hq
       obtain ⟨e1,_⟩:=hqs
       obtain ⟨rfl,rfl⟩:=htt
       have e2:l=l':=e1
       rw [e2] at he
       exact .inr ⟨_,_,_,rfl,e,he,rfl⟩
     · cases hq
   | rows _ _=>rw [hb] at hq;simp [cellsEq] at hq
   | one _=>rw [hb] at hq;simp [cellsEq] at hq
   | it _ _ _=>rw [hb] at hq;simp [cellsEq] at hq
   | dead=>rw [hb] at hq;simp [cellsEq] at hq
theorem MemOK.enterP {S:Sx} {w0 w:World} {M:List (Ck C)} (h:MemOK S w0 w M) {N:Nat} (hN:∀ c,N≤c→(ads M c).on=false) {ρ:List Nat} {m:List (Ck C)} (hlt:memLt m.length m=true)
 (hk:∀ k,k<m.length→rn ρ k<M.length∧CkEq N ρ (nth m k) (nth M (rn ρ k))) (hap:∀ i j,i<m.length→j<m.length→i≠j→(nth m i).wr=true→rn ρ i≠rn ρ j):
 ((∀ c∈m,c.on=true→Ck.ok (ads m) w c)∧(∀ c∈m,c.wr=true→c.live=true→∀ a:Addr,a.block=c.block→w.frozen? a=false)∧
   (∀ i j,i<m.length→j<m.length→i≠j→(nth m i).wr=true→(nth m i).live=true→(nth m j).live=true→(nth m i).block≠(nth m j).block)∧(∀ c∈m,c.on=true→c.block<w.heap.size))∧
 ∀ c,c<m.length→ads m c=ads M (rn ρ c):=by
 have hads:∀ c,c<m.length→ads m c=ads M (rn ρ c):=by
  intro c hc
  have:=(hk c hc).2
  simp [ads,Ck.ad,this.block,this.base,this.sz,this.on]
 refine ⟨⟨?_,?_,?_,?_⟩,hads⟩
 · intro c hc hco
   obtain ⟨k,hkl,rfl⟩:=mem_nth hc
   obtain ⟨hb,he⟩:=hk k hkl
   have hok:=h.ok _ (nth_mem hb) (by rw [← he.on];exact hco)
   have had:(nth m k).ad=(nth M (rn ρ k)).ad:=by simp [Ck.ad,he.block,he.base,he.sz,he.on]
   obtain ⟨qs,hq,hqs⟩:=he.cells
   have hltk:=memLt_mem hlt (nth_mem hkl)
   unfold Ck.ok
   rw [had]
   split
   · rename_i t l hcl
     rw [hcl] at hq
     cases hcM:(nth M (rn ρ k)).cells with
     | rows t' l'=>
       rw [hcM] at hq
       simp only [cellsEq] at hq
       split at hq
       · rename_i htt
         simp only [Option.some.injEq] at hq;subst hq
         obtain ⟨e,_⟩:=hqs
         subst htt
         rw [castL_self] at e;subst e
         simp only [Ck.ok,hcM] at hok
         refine ⟨by rw [he.sz];exact hok.1,fun i hi f hf => ?_⟩
         rw [hok.2 i hi f hf,enc_flat (C t') (ads M) (ads m) _ f hf]
       · cases hq
     | one _=>rw [hcM] at hq;simp [cellsEq] at hq
     | mp _ _ _ _=>rw [hcM] at hq;simp [cellsEq] at hq
     | it _ _ _=>rw [hcM] at hq;simp [cellsEq] at hq
     | dead=>rw [hcM] at hq;simp [cellsEq] at hq
   · rename_i vs hcl
     rw [hcl] at hq
     cases hcM:(nth M (rn ρ k)).cells with
     | rows t' l'=>rw [hcM] at hq;simp [cellsEq] at hq
     | one vs'=>
       rw [hcM] at hq
       simp only [cellsEq] at hq
       simp only [Ck.ok,hcM] at hok
       have h1:=onesEq_ok hN w (fun f=>(nth M (rn ρ k)).ad.at 0 f) _ _ _ hq hqs
       have hrl:∀ vs:List SV,(SV.rens ρ vs).length=vs.length:=by
        intro vs;induction vs with
        | nil=>rfl
        | cons v r ih=>simp [SV.rens,ih]
       rw [hrl] at h1
       refine ⟨by rw [he.sz];exact hok.1.imp (xl h1.1) id,fun f hf => ?_⟩
       have h2:=h1.2 f hf (hok.2 f (by omega))
       have hrg:∀ (vs:List SV) (f:Nat),(SV.rens ρ vs).getD f .junk=(vs.getD f .junk).ren ρ:=by
        intro vs
        induction vs with
        | nil=>intro f;rfl
        | cons v r ih=>intro f;cases f with
          | zero=>rfl
          | succ f=>exact ih f
       rw [hrg] at h2
       have hv:SV.lt m.length (vs.getD f .junk)=true:=by
        unfold Ck.lt at hltk;rw [hcl] at hltk;exact SV.lts_getD hltk f
       have e:=SV.va_ren hads _ hv
       revert h2 e
       generalize vs.getD f .junk=v
       intro h2 e
       cases v <;> simp only [cellIs,SV.ren] at h2 ⊢ <;> first | exact h2 | (rw [e];exact h2)
     | mp _ _ _ _=>rw [hcM] at hq;simp [cellsEq] at hq
     | it _ _ _=>rw [hcM] at hq;simp [cellsEq] at hq
     | dead=>rw [hcM] at hq;simp [cellsEq] at hq
   · rename_i tk tv l clk hcl
     rw [hcl] at hq
     cases hcM:(nth M (rn ρ k)).cells with
     | mp tk' tv' l' clk'=>
       rw [hcM] at hq
       simp only [cellsEq] at hq
       split at hq
       · rename_i htt
         simp only [Option.some.injEq] at hq;subst hq
         obtain ⟨e1,e2,_⟩:=hqs
         obtain ⟨rfl,rfl⟩:=htt
         have e1:l=l':=e1
         subst e1;subst e2
         simp only [Ck.ok,hcM] at hok
         rw [he.block];exact hok
       · cases hq
     | rows _ _=>rw [hcM] at hq;simp [cellsEq] at hq
     | one _=>rw [hcM] at hq;simp [cellsEq] at hq
     | it _ _ _=>rw [hcM] at hq;simp [cellsEq] at hq
     | dead=>rw [hcM] at hq;simp [cellsEq] at hq
   · rename_i mc seen clk hcl
     rw [hcl] at hq
     cases hcM:(nth M (rn ρ k)).cells with
     | it mc' seen' clk'=>
       rw [hcM] at hq
       simp only [cellsEq] at hq
       split at hq
       · rename_i hmc
         have hmc:=zp hmc
         simp only [Option.some.injEq] at hq;subst hq
         obtain ⟨e1,e2,_⟩:=hqs
         subst e1;subst e2;subst hmc
         simp only [Ck.ok,hcM] at hok
         have hv:mc<m.length:=by unfold Ck.lt at hltk;rw [hcl] at hltk;simpa using hltk
         rw [he.block,hads mc hv];exact hok
       · cases hq
     | rows _ _=>rw [hcM] at hq;simp [cellsEq] at hq
     | one _=>rw [hcM] at hq;simp [cellsEq] at hq
     | mp _ _ _ _=>rw [hcM] at hq;simp [cellsEq] at hq
     | dead=>rw [hcM] at hq;simp [cellsEq] at hq
   · trivial
 · intro c hc hw hl a ha
   obtain ⟨k,hkl,rfl⟩:=mem_nth hc
   obtain ⟨hb,he⟩:=hk k hkl
   exact h.wrok _ (nth_mem hb) (he.wr hw) (he.live hl) a (by rw [ha,he.block])
 · intro i j hi hj hij hw hli hlj
   obtain ⟨hbi,hei⟩:=hk i hi
   obtain ⟨hbj,hej⟩:=hk j hj
   rw [hei.block,hej.block]
   exact h.apart _ _ hbi hbj (hap i j hi hj hij hw) (hei.wr hw) (hei.live hli) (hej.live hlj)
 · intro c hc hco
   obtain ⟨k,hkl,rfl⟩:=mem_nth hc
   obtain ⟨hb,he⟩:=hk k hkl
   rw [he.block];exact h.lt _ (nth_mem hb) (by rw [← he.on];exact hco)
theorem MemOK.enter {S:Sx} {w0 w:World} {M:List (Ck C)} (h:MemOK S w0 w M) {N:Nat} (hN:∀ c,N≤c→(ads M c).on=false) {ρ:List Nat} {m:List (Ck C)} (hlt:memLt m.length m=true)
 (hk:∀ k,k<m.length→rn ρ k<M.length∧CkEq N ρ (nth m k) (nth M (rn ρ k))) (hap:∀ i j,i<m.length→j<m.length→i≠j→(nth m i).wr=true→rn ρ i≠rn ρ j) (hown:∀ c∈m,c.noOwn=true):
 MemOK (wrS m) w w m∧∀ c,c<m.length→ads m c=ads M (rn ρ c):=by
 obtain ⟨⟨p1,p2,p3,p4⟩,hads⟩:=h.enterP hN hlt hk hap
 have hno:∀ k,k<w0.heap.size→¬ S.set k→¬ (wrS m).set k:=by
  rintro k hk0 hns ⟨c,hc,hw,ho,rfl⟩
  obtain ⟨j,hjl,rfl⟩:=mem_nth hc
  obtain ⟨hb,he⟩:=hk j hjl
  rw [he.block] at hk0 hns
  exact hns (h.inS _ (nth_mem hb) (he.wr hw) (by rw [← he.on];exact ho) hk0)
 have hmore:More (wrS m) w w m:=by
  refine ⟨fun g v hv => ?_,fun g p hp => ?_,fun p hp=>(by cases hp),List.nodup_nil,fun c hc t x hx => ?_⟩
  rotate_left 2
  · obtain ⟨j,hjl,rfl⟩:=mem_nth hc
    obtain ⟨hb,he⟩:=hk j hjl
    obtain ⟨g1,g2⟩:=h.more.deep _ (nth_mem hb) t x (he.has hx)
    have hof:=Ck.noOwn_ok (hown _ (nth_mem hjl)) hx
    refine ⟨g1,fun b hb'=>⟨(g2 b hb').lt,fun _=>.inr ⟨hof,_,nth_mem hjl,t,x,hx,hb'⟩,fun c1 hc1 hw1 hl1 => ?_,fun p hp=>by cases hp⟩⟩
    obtain ⟨i,hil,rfl⟩:=mem_nth hc1
    obtain ⟨hb1,he1⟩:=hk i hil
    rw [he1.block]
    exact (g2 b hb').no _ (nth_mem hb1) (he1.wr hw1) (he1.live hl1)
  · obtain ⟨h1,h2,h3⟩:=h.more.gv g v hv
    exact ⟨h1,zk h2 h.size,hno g h2 h3⟩
  · obtain ⟨h1,h2,h3⟩:=h.more.gp g p hp
    exact ⟨h1,zk h2 h.size,hno _ h2 h3⟩
 exact ⟨⟨rfl,⟨rfl,zw _⟩,rfl,zw _,fun _ _ _=>rfl,fun c hc hw ho _=>⟨c,hc,hw,ho,rfl⟩,p1,p2,p3,p4,hmore⟩,hads⟩
theorem backU_spec (ρ':List Nat):∀ (r:List Nat) (m out M:List (Ck C)),r.length=m.length→m.length≤out.length→(∀ k,k<m.length→rn r k<M.length)→
 (∀ i j,i<m.length→j<m.length→i≠j→(nth m i).wr=true→rn r i≠rn r j)→
 (backU ρ' r m out M).length=M.length∧∀ j,(∃ k,k<m.length∧(nth m k).wr=true∧rn r k=j∧nth (backU ρ' r m out M) j={ nth M j with cells:=renCells ρ' (nth out k).cells })∨
   ((∀ k,k<m.length→(nth m k).wr=true→rn r k≠j)∧nth (backU ρ' r m out M) j=nth M j)
 | [],[],out,M,_,_,_,_=>by
   have e:backU ρ' [] [] out M=M:=by cases out <;> rfl
   rw [e];exact ⟨rfl,fun j=>.inr ⟨fun k hk=>by simp at hk,rfl⟩⟩
 | [],_ :: _,_,_,h,_,_,_=>by simp at h
 | _ :: _,[],_,_,h,_,_,_=>by simp at h
 | p :: r,a :: m,[],M,_,h,_,_=>by simp at h
 | p :: r,a :: m,o :: out,M,hl,ho,hlt,hap=>by
   have hp:p<M.length:=hlt 0 (by simp)
   obtain ⟨M1,hM1⟩:∃ M1,M1=(match a.wr with | true=>setCk M p (renCells ρ' o.cells) | false=>M):=⟨_,rfl⟩
   have hlen1:M1.length=M.length:=by rw [hM1];split <;> simp [length_setCk]
   have ih:=backU_spec ρ' r m out M1 (by simpa using hl) (by simpa using ho) (fun k hk=>by rw [hlen1];exact hlt (k+1) (by simpa using hk))
    (fun i j hi hj hij hw=>hap (i+1) (j+1) (by simpa using hi) (by simpa using hj) (by omega) hw)
   have e:backU ρ' (p :: r) (a :: m) (o :: out) M=backU ρ' r m out M1:=by rw [hM1];rfl
   rw [e]
   refine ⟨by rw [ih.1,hlen1],fun j => ?_⟩
   rcases ih.2 j with ⟨k,hk,hw,hj,he⟩ | ⟨hno,he⟩
   · left
     refine ⟨k+1,by simpa using hk,hw,hj,?_⟩
     have hM1j:nth M1 j=nth M j:=by
      rw [hM1]
      split
      · rename_i ha
        rw [nth_setCk,if_neg]
        rintro ⟨hjp,_⟩
        exact hap 0 (k+1) (by simp) (by simpa using hk) (by omega) ha (by show p=rn r k;rw [hj,hjp])
      · rfl
     rw [he,hM1j];rfl
   · cases ha:a.wr with
     | false=>
       right
       refine ⟨fun k hk hw => ?_,by rw [he,hM1,ha]⟩
       cases k with
       | zero=>simp only [nth] at hw;rw [ha] at hw;cases hw
       | succ k=>exact hno k (by simpa using hk) hw
     | true=>
       by_cases hjp:j=p
       · left
         refine ⟨0,by simp,ha,hjp.symm,?_⟩
         rw [he,hM1,ha]
         simp only
         rw [nth_setCk,if_pos ⟨hjp,hp⟩,hjp];rfl
       · right
         refine ⟨fun k hk hw => ?_,by rw [he,hM1,ha];simp only;rw [nth_setCk,if_neg (fun e=>hjp e.1)]⟩
         cases k with
         | zero=>exact fun e=>hjp e.symm
         | succ k=>exact hno k (by simpa using hk) hw
theorem backN_spec (ρ':List Nat):∀ (m out:List (Ck C)),m.length≤out.length→(backN ρ' m out).length=out.length - m.length∧∀ k,k<out.length - m.length→nth (backN ρ' m out) k=renCk ρ' (nth out (m.length+k))
 | [],out,_=>by
   have hmap:∀ (l:List (Ck C)) (k:Nat),k<l.length→nth (l.map (renCk ρ')) k=renCk ρ' (nth l k):=by
    intro l
    induction l with
    | nil=>intro k hk;simp at hk
    | cons x r ih=>intro k hk;cases k with
      | zero=>rfl
      | succ k=>exact ih k (by simpa using hk)
   refine ⟨by simp [backN],fun k hk => ?_⟩
   simp only [backN,List.length_nil,we]
   exact hmap out k (by simpa using hk)
 | _ :: _,[],h=>by simp at h
 | a :: m,o :: out,h=>by
   have ih:=backN_spec ρ' m out (by simpa using h)
   refine ⟨by simp [backN,ih.1],fun k hk => ?_⟩
   simp only [backN]
   rw [ih.2 k (by simpa using hk)]
   simp only [xy]
   rw [show m.length+1+k=(m.length+k)+1 by omega];rfl
theorem rn_upFrom:∀ (n k j:Nat),j<k→rn (upFrom n k) j=n+j
 | _,0,_,h=>by simp at h
 | n,k+1,0,_=>rfl
 | n,k+1,j+1,h=>by simp only [upFrom,rn];rw [rn_upFrom (n+1) k j (by omega)];omega
theorem rn_append:∀ (a b:List Nat) (j:Nat),rn (a ++ b) j=if j<a.length then rn a j else rn b (j - a.length)
 | [],b,j=>by simp
 | x :: a,b,0=>by simp [rn]
 | x :: a,b,j+1=>by simp [rn,rn_append a b j]
theorem renCk_live (ρ:List Nat) (c:Ck C):(renCk ρ c).live=c.live:=by
 cases c with
 | mk b ba s w g cs=>cases cs <;> rfl
theorem Ck.ok_cong {ad:Nat→Ad} {w:World} {a b:Ck C} (h1:b.ad=a.ad) (h2:a.sz=b.sz) (h3:a.block=b.block) (h4:a.cells=b.cells) (h:Ck.ok ad w a):Ck.ok ad w b:=by
 unfold Ck.ok at h ⊢
 rw [h4,h2,h3,← h1] at h
 exact h
theorem MemOK.back {S:Sx} {w0 w w':World} {M:List (Ck C)} (h:MemOK S w0 w M) (hM:memLt M.length M=true) {ρ:List Nat} {m out:List (Ck C)} (hlen:ρ.length=m.length)
 {NN:Nat} (hk:∀ k,k<m.length→rn ρ k<M.length∧CkEq NN ρ (nth m k) (nth M (rn ρ k))) (hap:∀ i j,i<m.length→j<m.length→i≠j→(nth m i).wr=true→rn ρ i≠rn ρ j)
 (hwl:∀ c∈m,c.wr=true→c.alive=true) (ho:MemOK (wrS m) w w' out) (hx0:Ext m out) (hol:memLt out.length out=true):
 MemOK S w0 w' (backU (ρ ++ upFrom M.length (out.length - m.length)) ρ m out M ++ backN (ρ ++ upFrom M.length (out.length - m.length)) m out)∧
 (∀ c,c<out.length→ads out c=ads (backU (ρ ++ upFrom M.length (out.length - m.length)) ρ m out M ++ backN (ρ ++ upFrom M.length (out.length - m.length)) m out) (rn (ρ ++ upFrom M.length (out.length - m.length)) c))∧
 (∀ c,c<M.length→ads M c=ads (backU (ρ ++ upFrom M.length (out.length - m.length)) ρ m out M ++ backN (ρ ++ upFrom M.length (out.length - m.length)) m out) c)∧
 (backU (ρ ++ upFrom M.length (out.length - m.length)) ρ m out M ++ backN (ρ ++ upFrom M.length (out.length - m.length)) m out).length=M.length+(out.length - m.length):=by
 obtain ⟨ρ',hρ'⟩:∃ ρ',ρ'=ρ ++ upFrom M.length (out.length - m.length):=⟨_,rfl⟩
 rw [← hρ']
 have hx:=hx0
 have hU:=backU_spec ρ' ρ m out M hlen hx.len (fun k hkl=>(hk k hkl).1) hap
 have hN:=backN_spec ρ' m out hx.len
 obtain ⟨U,hUe⟩:∃ U,U=backU ρ' ρ m out M:=⟨_,rfl⟩
 obtain ⟨N,hNe⟩:∃ N,N=backN ρ' m out:=⟨_,rfl⟩
 rw [← hUe] at hU ⊢
 rw [← hNe] at hN ⊢
 have hlenA:(U ++ N).length=M.length+(out.length - m.length):=by simp [hU.1,hN.1]
 -- places
 have hplace:∀ c,c<M.length→(nth (U ++ N) c).block=(nth M c).block∧(nth (U ++ N) c).base=(nth M c).base∧(nth (U ++ N) c).sz=(nth M c).sz∧(nth (U ++ N) c).wr=(nth M c).wr∧(nth (U ++ N) c).on=(nth M c).on:=by
  intro c hc
  rw [nth_app,if_pos (by rw [hU.1];exact hc)]
  rcases hU.2 c with ⟨k,_,_,_,he⟩ | ⟨_,he⟩ <;> rw [he] <;> exact ⟨rfl,rfl,rfl,rfl,rfl⟩
 have hnew:∀ j,j<out.length - m.length→nth (U ++ N) (M.length+j)=renCk ρ' (nth out (m.length+j)):=by
  intro j hj
  rw [nth_app,if_neg (by rw [hU.1];omega),hU.1,show M.length+j - M.length=j by omega]
  exact hN.2 j hj
 have hadsM:∀ c,c<M.length→ads M c=ads (U ++ N) c:=by
  intro c hc
  obtain ⟨e1,e2,e3,_,e5⟩:=hplace c hc
  simp [ads,Ck.ad,e1,e2,e3,e5]
 have hadsO:∀ c,c<out.length→ads out c=ads (U ++ N) (rn ρ' c):=by
  intro c hc
  rw [hρ',rn_append]
  by_cases hcm:c<m.length
  · rw [if_pos (by omega)]
    obtain ⟨h1,h2⟩:=hk c hcm
    rw [← hadsM _ h1]
    obtain ⟨e1,e2,e3,_,e5⟩:=hx.same c hcm
    simp [ads,Ck.ad,e1,e2,e3,e5,h2.block,h2.base,h2.sz,h2.on]
  · rw [if_neg (by omega),rn_upFrom _ _ _ (by omega)]
    have:=hnew (c - m.length) (by omega)
    rw [show M.length+(c - ρ.length)=M.length+(c - m.length) by omega]
    simp only [ads]
    rw [this,show m.length+(c - m.length)=c by omega];rfl
 have hren:∀ cs:Cells C,(match cs with | .one vs=>SV.lts out.length vs | .it mc _ _=>ye mc out.length | _=>true)=true→∀ (c:Ck C),c.cells=cs→Ck.ok (ads out) w' c→Ck.ok (ads (U ++ N)) w' { c with cells:=renCells ρ' cs }:=by
  intro cs hl c hcs hok
  subst hcs
  unfold Ck.ok at hok ⊢
  cases hcc:c.cells with
  | rows t l=>
    simp only [hcc,renCells] at hok ⊢
    refine ⟨hok.1,fun i hi f hf => ?_⟩
    rw [enc_flat (C t) (ads (U ++ N)) (ads out) _ f hf]
    exact hok.2 i hi f hf
  | one vs=>
    simp only [hcc,renCells] at hok hl ⊢
    have hrl:∀ vs:List SV,(SV.rens ρ' vs).length=vs.length:=by
     intro vs;induction vs with
     | nil=>rfl
     | cons v r ih=>simp [SV.rens,ih]
    have hrg:∀ (vs:List SV) (f:Nat),(SV.rens ρ' vs).getD f .junk=(vs.getD f .junk).ren ρ':=by
     intro vs
     induction vs with
     | nil=>intro f;rfl
     | cons v r ih=>intro f;cases f with
       | zero=>rfl
       | succ f=>exact ih f
    refine ⟨by rw [hrl];exact hok.1,fun f hf => ?_⟩
    rw [hrl] at hf
    have h2:=hok.2 f hf
    rw [hrg]
    have e:=SV.va_ren hadsO _ (SV.lts_getD hl f)
    revert h2 e
    generalize vs.getD f .junk=v
    intro h2 e
    cases v <;> simp only [cellIs,SV.ren] at h2 ⊢ <;> first | exact h2 | exact h2.trans (congrArg some e)
  | mp tk tv l clk=>simp only [hcc,renCells] at hok ⊢;exact hok
  | it mc seen clk=>
    simp only [hcc,renCells] at hok hl ⊢
    rw [← hadsO mc (by simpa using hl)];exact hok
  | dead=>simp only [renCells]
 have hrlive:∀ cs:Cells C,∀ c:Ck C,({ c with cells:=renCells ρ' cs }:Ck C).live=({ c with cells:=cs }:Ck C).live:=by
  intro cs c;cases cs <;> rfl
 have houtlt:∀ c,c∈out→(match c.cells with | .one vs=>SV.lts out.length vs | .it mc _ _=>ye mc out.length | _=>true)=true:=fun c hc=>memLt_mem hol hc
 -- blocks that the callee may have turned
 have hSM:∀ b,(wrS m).set b→∃ k,k<m.length∧(nth m k).wr=true∧(nth m k).block=b∧(nth M (rn ρ k)).block=b∧(nth M (rn ρ k)).wr=true∧(nth M (rn ρ k)).live=true:=by
  rintro b ⟨c,hc,hw,ho',hb⟩
  obtain ⟨k,hkl,rfl⟩:=mem_nth hc
  obtain ⟨_,he⟩:=hk k hkl
  exact ⟨k,hkl,hw,hb,by rw [← he.block];exact hb,he.wr hw,he.live (Ck.live_iff.2 ⟨hwl _ hc hw,ho'⟩)⟩
 have hblk:∀ j,j<M.length→(nth M j).live=true→(∀ k,k<m.length→(nth m k).wr=true→rn ρ k≠j)→w'.heap[(nth M j).block]? = w.heap[(nth M j).block]? := by
  intro j hj hlv hno
  refine ho.keep _ (h.lt _ (nth_mem hj) (Ck.live_iff.1 hlv).2) fun hS => ?_
  obtain ⟨k,hkl,hw,_,hb,hMw,hMl⟩:=hSM _ hS
  exact h.apart _ j (hk k hkl).1 hj (hno k hkl hw) hMw hMl hlv hb
 have hmore:More S w0 w' (U ++ N):=by
  refine h.more.mono' h.inS (fun k hkw hno=>ho.keep k hkw fun hS => ?_) (fun c hc hl => ?_) h.size ho.size (fun c hc t x hx => ?_)
  rotate_left 2
  · have fromOut:∀ c1∈out,c1.cells.Has t x→(c.wr=true→c1.wr=true)→(C t).good w' x∧∀ b∈(C t).blks x,Blk S w0 w' (U ++ N) ((C t).own && c.wr) b:=by
     intro c1 hc1 hcl1 hww
     obtain ⟨g1,g2⟩:=ho.more.deep c1 hc1 t x hcl1
     refine ⟨g1,fun b hb => ?_⟩
     have hB:=(g2 b hb).weak (o':=(C t).own && c.wr) (fun e=>by
      simp only [zq] at e ⊢
      exact ⟨e.1,hww e.2⟩)
     -- what is known of an elder block
     have elder:b<w.heap.size→(∃ k,k<m.length∧(nth m k).wr=true∧(nth M (rn ρ k)).block=b∧(nth M (rn ρ k)).wr=true∧(nth M (rn ρ k)).live=true)∨(((C t).own && c.wr)=false∧Blk S w0 w M false b):=by
      intro hlt
      rcases hB.old hlt with hS | ⟨hof,c2,hc2,t2,x2,hx2,hb2⟩
      · obtain ⟨k,hkl,hkw,_,h4,h5,h6⟩:=hSM _ hS
        exact .inl ⟨k,hkl,hkw,h4,h5,h6⟩
      · obtain ⟨j,hjl,rfl⟩:=mem_nth hc2
        obtain ⟨hb3,he⟩:=hk j hjl
        exact .inr ⟨hof,((h.more.deep _ (nth_mem hb3) t2 x2 (he.has hx2)).2 b hb2).weak (fun e=>by cases e)⟩
     refine ⟨hB.lt,fun hlt => ?_,fun c2 hc2 hw2 hl2 => ?_,fun p hp => ?_⟩
     · rcases elder (zk hlt h.size) with ⟨k,hkl,_,h4,h5,h6'⟩ | ⟨hof,hE⟩
       · refine .inl ?_
         rw [← h4];exact h.inS _ (nth_mem (hk k hkl).1) h5 (Ck.live_iff.1 h6').2 (by rw [h4];exact hlt)
       · rcases hE.old hlt with h7 | h7
         · exact .inl h7
         · exact .inr ⟨hof,h7.2⟩
     · obtain ⟨j,hjl,rfl⟩:=mem_nth hc2
       rw [hlenA] at hjl
       by_cases hjM:j<M.length
       · obtain ⟨e1,_,_,e4,_⟩:=hplace j hjM
         rw [e1]
         rw [e4] at hw2
         rw [nth_app,if_pos (by rw [hU.1];exact hjM)] at hl2
         rcases hU.2 j with ⟨k,hkl,hkw,hkj,he⟩ | ⟨hno,he⟩
         · have hko:k<out.length:=zk hkl hx0.len
           obtain ⟨f1,_,_,f4,f5⟩:=hx0.same k hkl
           have hck:=(hk k hkl).2
           rw [he,hrlive] at hl2
           have hl2':(nth out k).live=true:=by
            have hl3:=Ck.live_iff.1 hl2
            refine Ck.live_iff.2 ⟨hl3.1,?_⟩
            rw [f5,hck.on,hkj];exact hl3.2
           have:=hB.no _ (nth_mem hko) (by rw [f4];exact hkw) hl2'
           rw [f1,hck.block,hkj] at this
           exact this
         · rw [he] at hl2
           intro e
           have hlt:b<w.heap.size:=by rw [← e];exact h.lt _ (nth_mem hjM) (Ck.live_iff.1 hl2).2
           rcases elder hlt with ⟨k,hkl,hkw,h4,h5,h6⟩ | ⟨_,hE⟩
           · exact h.apart _ j (hk k hkl).1 hjM (hno k hkl hkw) h5 h6 hl2 (by rw [h4,e])
           · exact hE.no _ (nth_mem hjM) hw2 hl2 e
       · have e:=hnew (j - M.length) (by omega)
         rw [show M.length+(j - M.length)=j by omega] at e
         rw [e] at hw2 hl2 ⊢
         rw [renCk_live] at hl2
         show (nth out (m.length+(j - M.length))).block≠b
         exact hB.no _ (nth_mem (show m.length+(j - M.length)<out.length by omega)) hw2 hl2
     · intro e
       obtain ⟨h1,_,h3⟩:=h.more.pin p hp
       have hlt:b<w.heap.size:=by rw [← e];exact heap_size_of h1
       rcases elder hlt with ⟨k,hkl,_,h4,_,h6⟩ | ⟨_,hE⟩
       · exact h3 _ (nth_mem (hk k hkl).1) h6 (by rw [h4,e])
       · exact hE.pin p hp e
    have hren2:∀ (cs:Cells C),(renCells ρ' cs).Has t x→cs.Has t x:=by
     intro cs he
     cases cs <;> simp only [renCells] at he <;> first | exact he | (rcases he with ⟨_,he,_⟩ | ⟨_,_,_,he,_⟩ <;> cases he)
    obtain ⟨j,hjl,rfl⟩:=mem_nth hc
    rw [hlenA] at hjl
    by_cases hjM:j<M.length
    · have hwj:=(hplace j hjM).2.2.2.1
      have eU:nth (U ++ N) j=nth U j:=by rw [nth_app,if_pos (by rw [hU.1];exact hjM)]
      rw [eU] at hx hwj fromOut ⊢
      rcases hU.2 j with ⟨k,hkl,hkw,hkj,he⟩ | ⟨hno,he⟩
      · rw [he] at hx
        have hx:=hren2 _ hx
        obtain ⟨f1,_,_,f4,f5⟩:=hx0.same k hkl
        exact .inr (fromOut _ (nth_mem (zk hkl hx0.len)) hx fun _=>by rw [f4];exact hkw)
      · rw [he] at hx
        exact .inl ⟨_,nth_mem hjM,hx,fun _ hw=>by rw [← hwj];exact hw⟩
    · have e:=hnew (j - M.length) (by omega)
      rw [show M.length+(j - M.length)=j by omega] at e
      rw [e] at hx fromOut ⊢
      refine .inr (fromOut _ (nth_mem (show m.length+(j - M.length)<out.length by omega)) (hren2 _ ?_) ?_)
      · revert hx
        generalize nth out (m.length+(j - M.length))=c0
        obtain ⟨_,_,_,_,_,cs⟩:=c0
        exact id
      · generalize nth out (m.length+(j - M.length))=c0
        obtain ⟨_,_,_,_,_,cs⟩:=c0
        exact id
  · obtain ⟨j,hjl,_,_,hb,hMw,hMl⟩:=hSM _ hS
    exact hno _ (nth_mem (hk j hjl).1) hMw hMl hb
  · obtain ⟨j,hjl,rfl⟩:=mem_nth hc
    rw [hlenA] at hjl
    by_cases hjM:j<M.length
    · refine .inl ⟨nth M j,nth_mem hjM,?_,(hplace j hjM).1.symm,fun hw'=>by rw [← (hplace j hjM).2.2.2.1];exact hw'⟩
      have hlo:=(Ck.live_iff.1 hl).2
      rw [(hplace j hjM).2.2.2.2] at hlo
      rw [nth_app,if_pos (by rw [hU.1];exact hjM)] at hl
      rcases hU.2 j with ⟨k,hkl,hkw,hjk,he⟩ | ⟨_,he⟩
      · have hck:=(hk k hkl).2
        refine Ck.live_iff.2 ⟨?_,hlo⟩
        rw [← hjk];exact hck.alive (hwl _ (nth_mem hkl) hkw)
      · rw [he] at hl;exact hl
    · have e:=hnew (j - M.length) (by omega)
      rw [show M.length+(j - M.length)=j by omega] at e
      rw [e] at hl ⊢
      rw [renCk_live] at hl
      have hin:m.length+(j - M.length)<out.length:=by omega
      have hw:=hx.new _ (by omega) hin hl
      show _∨w.heap.size≤(nth out (m.length+(j - M.length))).block
      rcases vb (nth out (m.length+(j - M.length))).block w.heap.size with hb | hb
      · have:=ho.inS _ (nth_mem hin) hw (Ck.live_iff.1 hl).2 hb
        obtain ⟨k,hkl,_,_,hkb,hMw,hMl⟩:=hSM _ this
        exact .inl ⟨_,nth_mem (hk k hkl).1,hMl,hkb,fun _=>hMw⟩
      · exact .inr hb
 refine ⟨⟨ho.os.trans h.os,⟨ho.tape.1.trans h.tape.1,xl h.tape.2 ho.tape.2⟩,ho.output.trans h.output,xl h.size ho.size,?_,?_,?_,?_,?_,?_,hmore⟩,hadsO,hadsM,hlenA⟩
 · intro k hkl hno
   have hkw:k<w.heap.size:=zk hkl h.size
   rw [ho.keep k hkw fun hS => ?_]
   · exact h.keep k hkl hno
   · obtain ⟨j,hjl,hw,_,hb,hMw,hMl⟩:=hSM _ hS
     exact hno (hb ▸ h.inS _ (nth_mem (hk j hjl).1) hMw (Ck.live_iff.1 hMl).2 (by rw [hb];exact hkl))
 · intro c hc hw hco hb
   obtain ⟨j,hjl,rfl⟩:=mem_nth hc
   rw [hlenA] at hjl
   by_cases hjM:j<M.length
   · obtain ⟨e1,_,_,e4,e5⟩:=hplace j hjM
     rw [e1] at hb ⊢
     rw [e4] at hw
     rw [e5] at hco
     exact h.inS _ (nth_mem hjM) hw hco hb
   · have e:=hnew (j - M.length) (by omega)
     rw [show M.length+(j - M.length)=j by omega] at e
     rw [e] at hw hb hco ⊢
     have hin:m.length+(j - M.length)<out.length:=by omega
     have:=ho.inS _ (nth_mem hin) hw hco (zk hb h.size)
     obtain ⟨k,hkl,_,_,hkb,hMw,hMl⟩:=hSM _ this
     show S.set (nth out (m.length+(j - M.length))).block
     rw [← hkb]
     exact h.inS _ (nth_mem (hk k hkl).1) hMw (Ck.live_iff.1 hMl).2 (by rw [hkb];exact hb)
 · intro c hc hco
   obtain ⟨j,hjl,rfl⟩:=mem_nth hc
   rw [hlenA] at hjl
   by_cases hjM:j<M.length
   · rw [(hplace j hjM).2.2.2.2] at hco
     rw [nth_app,if_pos (by rw [hU.1];exact hjM)]
     rcases hU.2 j with ⟨k,hkl,hw,hj,he⟩ | ⟨hno,he⟩
     · rw [he]
       have hko:k<out.length:=zk hkl hx.len
       obtain ⟨e1,e2,e3,_,e5⟩:=hx.same k hkl
       have hck:=(hk k hkl).2
       rw [hj] at hck
       have h1:=hren _ (houtlt _ (nth_mem hko)) (nth out k) rfl (ho.ok _ (nth_mem hko) (by rw [e5,hck.on];exact hco))
       have had:({ nth M j with cells:=renCells ρ' (nth out k).cells }:Ck C).ad=({ nth out k with cells:=renCells ρ' (nth out k).cells }:Ck C).ad:=by
        show (nth M j).ad=(nth out k).ad
        simp [Ck.ad,e1,e2,e3,e5,hck.block,hck.base,hck.sz,hck.on]
       exact Ck.ok_cong had (by rw [e3,hck.sz]) (by rw [e1,hck.block]) rfl h1
     · rw [he]
       cases hlv:(nth M j).alive with
       | false=>unfold Ck.alive at hlv;unfold Ck.ok;split at hlv <;> simp_all
       | true=>exact Ck.ok_ads hadsM (memLt_mem hM (nth_mem hjM)) (Ck.ok_same (h.ok _ (nth_mem hjM) hco) (hblk j hjM (Ck.live_iff.2 ⟨hlv,hco⟩) hno))
   · have e:=hnew (j - M.length) (by omega)
     rw [show M.length+(j - M.length)=j by omega] at e
     rw [e] at hco ⊢
     have hin:m.length+(j - M.length)<out.length:=by omega
     have h1:=hren _ (houtlt _ (nth_mem hin)) _ rfl (ho.ok _ (nth_mem hin) hco)
     unfold Ck.ok at h1 ⊢
     exact h1
 · intro c hc hw hl a ha
   obtain ⟨j,hjl,rfl⟩:=mem_nth hc
   rw [hlenA] at hjl
   by_cases hjM:j<M.length
   · obtain ⟨e1,_,_,e4,_⟩:=hplace j hjM
     rw [e1] at ha
     rw [e4] at hw
     rw [nth_app,if_pos (by rw [hU.1];exact hjM)] at hl
     rcases hU.2 j with ⟨k,hkl,hkw,hj,he⟩ | ⟨hno,he⟩
     · rw [he,hrlive] at hl
       have hko:k<out.length:=zk hkl hx.len
       obtain ⟨f1,_,_,f4,f5⟩:=hx.same k hkl
       have hck:=(hk k hkl).2
       rw [hj] at hck
       have hl':(nth out k).live=true:=by
        have hl3:=Ck.live_iff.1 hl
        exact Ck.live_iff.2 ⟨hl3.1,by rw [f5,hck.on];exact hl3.2⟩
       refine ho.wrok _ (nth_mem hko) (by rw [f4];exact hkw) hl' a ?_
       rw [f1,hck.block];exact ha
     · rw [he] at hl
       rw [World.frozen?_of_block (w:=w) (by rw [ha];exact hblk j hjM hl hno)]
       exact h.wrok _ (nth_mem hjM) hw hl a ha
   · have e:=hnew (j - M.length) (by omega)
     rw [show M.length+(j - M.length)=j by omega] at e
     rw [e] at hw hl ha
     have hin:m.length+(j - M.length)<out.length:=by omega
     rw [renCk_live] at hl
     exact ho.wrok _ (nth_mem hin) hw hl a ha
 · -- apart
   have old_live:∀ j,j<M.length→(nth (U ++ N) j).live=true→(nth M j).live=true∧((∃ k,k<m.length∧(nth m k).wr=true∧rn ρ k=j∧(nth out k).live=true)∨(∀ k,k<m.length→(nth m k).wr=true→rn ρ k≠j)):=by
    intro j hj hl
    have hlo:=(Ck.live_iff.1 hl).2
    rw [(hplace j hj).2.2.2.2] at hlo
    rw [nth_app,if_pos (by rw [hU.1];exact hj)] at hl
    rcases hU.2 j with ⟨k,hkl,hkw,hjk,he⟩ | ⟨hno,he⟩
    · rw [he,hrlive] at hl
      have hck:=(hk k hkl).2
      obtain ⟨_,_,_,_,f5⟩:=hx.same k hkl
      refine ⟨Ck.live_iff.2 ⟨?_,hlo⟩,.inl ⟨k,hkl,hkw,hjk,Ck.live_iff.2 ⟨(Ck.live_iff.1 hl).1,by rw [f5,hck.on,hjk];exact hlo⟩⟩⟩
      rw [← hjk];exact hck.alive (hwl _ (nth_mem hkl) hkw)
    · rw [he] at hl;exact ⟨hl,.inr hno⟩
   have new_facts:∀ j,M.length≤j→j<M.length+(out.length - m.length)→(nth (U ++ N) j).live=true→
    (nth (U ++ N) j).block=(nth out (m.length+(j - M.length))).block∧(nth out (m.length+(j - M.length))).live=true∧(nth out (m.length+(j - M.length))).wr=true:=by
    intro j h1 h2 hl
    have e:=hnew (j - M.length) (by omega)
    rw [show M.length+(j - M.length)=j by omega] at e
    rw [e] at hl ⊢
    rw [renCk_live] at hl
    exact ⟨rfl,hl,hx.new _ (by omega) (by omega) hl⟩
   have old_new:∀ i j,i<M.length→M.length≤j→j<M.length+(out.length - m.length)→(nth (U ++ N) i).live=true→(nth (U ++ N) j).live=true→(nth (U ++ N) i).block≠(nth (U ++ N) j).block:=by
    intro i j hi hj1 hj2 hil hjl
    obtain ⟨n1,n2,n3⟩:=new_facts j hj1 hj2 hjl
    have hin:m.length+(j - M.length)<out.length:=by omega
    obtain ⟨o1,o2⟩:=old_live i hi hil
    rw [(hplace i hi).1,n1]
    rcases o2 with ⟨k,hkl,hkw,hki,hkl2⟩ | hno
    · have hck:=(hk k hkl).2
      have hko:k<out.length:=zk hkl hx.len
      obtain ⟨f1,_,_,f4,_⟩:=hx.same k hkl
      have:=ho.apart k _ hko hin (by omega) (by rw [f4];exact hkw) hkl2 n2
      rw [f1,hck.block,hki] at this
      exact this
    · intro e
      have hlt:=h.lt _ (nth_mem hi) (Ck.live_iff.1 o1).2
      have hS:=ho.inS _ (nth_mem hin) n3 (Ck.live_iff.1 n2).2 (by rw [← e];exact hlt)
      obtain ⟨k,hkl,hkw,_,hb,hMw,hMl⟩:=hSM _ hS
      exact h.apart _ i (hk k hkl).1 hi (hno k hkl hkw) hMw hMl o1 (by rw [hb,e])
   intro i j hi hj hij hw hil hjl
   rw [hlenA] at hi hj
   by_cases hiM:i<M.length
   · by_cases hjM:j<M.length
     · obtain ⟨e1,_,_,e4,_⟩:=hplace i hiM
       rw [e1,(hplace j hjM).1]
       rw [e4] at hw
       exact h.apart i j hiM hjM hij hw (old_live i hiM hil).1 (old_live j hjM hjl).1
     · exact old_new i j hiM (by omega) hj hil hjl
   · by_cases hjM:j<M.length
     · exact (old_new j i hjM (by omega) hi hjl hil).symm
     · obtain ⟨n1,n2,n3⟩:=new_facts i (by omega) hi hil
       obtain ⟨m1,m2,m3⟩:=new_facts j (by omega) hj hjl
       rw [n1,m1]
       exact ho.apart _ _ (by omega) (by omega) (by omega) n3 n2 m2
 · intro c hc hco
   obtain ⟨j,hjl,rfl⟩:=mem_nth hc
   rw [hlenA] at hjl
   by_cases hjM:j<M.length
   · rw [(hplace j hjM).2.2.2.2] at hco
     rw [(hplace j hjM).1]
     exact zk (h.lt _ (nth_mem hjM) hco) ho.size
   · have e:=hnew (j - M.length) (by omega)
     rw [show M.length+(j - M.length)=j by omega] at e
     rw [e] at hco ⊢
     have hin:m.length+(j - M.length)<out.length:=by omega
     exact ho.lt (nth out (m.length+(j - M.length))) (nth_mem hin) hco
end Go.Vx
namespace Go.Vx
open Go
variable {C:Nat→Codec}
def fL {α:Type 1}:List α→(List α→Tr)→Tr
 | [],K=>K []
 | x :: r,K=>fL r fun r=>K (x :: r)
theorem fL_eq {α:Type 1}:∀ (l:List α) (K:List α→Tr),fL l K=K l
 | [],_=>rfl
 | x :: r,K=>by simp only [fL,fL_eq r]
def fLN:List Nat→(List Nat→Tr)→Tr
 | [],K=>K []
 | x :: r,K=>fLN r fun r=>K (x :: r)
theorem fLN_eq:∀ (l:List Nat) (K:List Nat→Tr),fLN l K=K l
 | [],_=>rfl
 | x :: r,K=>by simp only [fLN,fLN_eq r]
def fN:Nat→(Nat→Tr)→Tr
 | 0,K=>K 0
 | n+1,K=>fN n fun k=>K (k+1)
theorem fN_eq:∀ (n:Nat) (K:Nat→Tr),fN n K=K n
 | 0,_=>rfl
 | n+1,K=>by simp only [fN,fN_eq n]
mutual
def fSV:SV→(SV→Tr)→Tr
 | .junk,K=>K .junk
 | .undef,K=>K .undef
 | .int k n,K=>K (.int k n)
 | .bool .t,K=>K (.bool .t)
 | .bool .f,K=>K (.bool .f)
 | .bool (.tm b),K=>K (.bool (.tm b))
 | .ptr c i f,K=>fN c fun c=>K (.ptr c i f)
 | .nilp,K=>K .nilp
 | .sl c i n m,K=>fN c fun c=>K (.sl c i n m)
 | .nils,K=>K .nils
 | .agg vs,K=>fSVs vs fun vs=>K (.agg vs)
 | .tup vs,K=>fSVs vs fun vs=>K (.tup vs)
 | .ifc t v,K=>fSV v fun v=>K (.ifc t v)
 | .nili,K=>K .nili
 | .fn f a b,K=>fSVs a fun a=>fSVs b fun b=>K (.fn f a b)
 | .nilf,K=>K .nilf
 | .gp g,K=>K (.gp g)
 | .mp c,K=>fN c fun c=>K (.mp c)
 | .val v,K=>K (.val v)
 | .cnd cs v,K=>fSV v fun v=>K (.cnd cs v)
def fSVs:List SV→(List SV→Tr)→Tr
 | [],K=>K []
 | v :: r,K=>fSV v fun v=>fSVs r fun r=>K (v :: r)
end
mutual
theorem fSV_eq:∀ (v:SV) (K:SV→Tr),fSV v K=K v
 | .junk,_=>by simp only [fSV]
 | .undef,_=>by simp only [fSV]
 | .int _ _,_=>by simp only [fSV]
 | .bool .t,_=>by simp only [fSV]
 | .bool .f,_=>by simp only [fSV]
 | .bool (.tm _),_=>by simp only [fSV]
 | .ptr _ _ _,_=>by simp only [fSV,fN_eq]
 | .nilp,_=>by simp only [fSV]
 | .sl _ _ _ _,_=>by simp only [fSV,fN_eq]
 | .nils,_=>by simp only [fSV]
 | .agg vs,_=>by simp only [fSV,fSVs_eq vs]
 | .tup vs,_=>by simp only [fSV,fSVs_eq vs]
 | .ifc _ v,_=>by simp only [fSV,fSV_eq v]
 | .nili,_=>by simp only [fSV]
 | .fn _ a b,_=>by simp only [fSV,fSVs_eq a,fSVs_eq b]
 | .nilf,_=>by simp only [fSV]
 | .gp _,_=>by simp only [fSV]
 | .mp _,_=>by simp only [fSV,fN_eq]
 | .val _,_=>by simp only [fSV]
 | .cnd _ v,_=>by simp only [fSV,fSV_eq v]
theorem fSVs_eq:∀ (l:List SV) (K:List SV→Tr),fSVs l K=K l
 | [],_=>by simp only [fSVs]
 | v :: r,_=>by simp only [fSVs,fSV_eq v,fSVs_eq r]
end
def fTm1:Tm→(Tm→Tr)→Tr
 | [],K=>K []
 | (k,v) :: r,K=>fSV v fun v=>K ((k,v) :: r)
theorem fTm1_eq (tm:Tm) (K:Tm→Tr):fTm1 tm K=K tm:=by
 cases tm with
 | nil=>rfl
 | cons x r=>simp only [fTm1,fSV_eq]
def fTm:Tm→(Tm→Tr)→Tr
 | [],K=>K []
 | (k,v) :: r,K=>fSV v fun v=>fTm r fun r=>K ((k,v) :: r)
theorem fTm_eq:∀ (tm:Tm) (K:Tm→Tr),fTm tm K=K tm
 | [],_=>rfl
 | (k,v) :: r,K=>by simp only [fTm,fSV_eq,fTm_eq r]
def fCs:Cells C→(Cells C→Tr)→Tr
 | .rows t l,K=>K (.rows t l)
 | .one vs,K=>fSVs vs fun vs=>K (.one vs)
 | .mp tk tv l clk,K=>K (.mp tk tv l clk)
 | .it mc seen clk,K=>fN mc fun mc=>K (.it mc seen clk)
 | .dead,K=>K .dead
theorem fCs_eq (c:Cells C) (K:Cells C→Tr):fCs c K=K c:=by
 cases c <;> simp only [fCs,fSVs_eq,fN_eq]
def fM:List (Ck C)→(List (Ck C)→Tr)→Tr
 | [],K=>K []
 | ⟨b,ba,sz,w,g,cs⟩ :: r,K=>fCs cs fun cs=>fM r fun r=>K (⟨b,ba,sz,w,g,cs⟩ :: r)
theorem fM_eq:∀ (m:List (Ck C)) (K:List (Ck C)→Tr),fM m K=K m
 | [],_=>rfl
 | ⟨_,_,_,_,_,cs⟩ :: r,K=>by simp only [fM,fCs_eq,fM_eq r]
def allLt (n:Nat):List Nat→Bool
 | []=>true
 | p :: r=>ye p n && allLt n r
def withOffs (m:List (Ck C)) (ρ:List Nat) (s:List (Ck C)) (K:List Nat→List (Ck C)→Tr):Tr:=
 match allLt m.length ρ with
 | true=>K ρ m
 | false=>fM (m ++ offs m.length ρ s) fun m'=>fLN (fixR m.length m.length ρ) fun ρ'=>K ρ' m'
theorem withOffs_ok {m:List (Ck C)} {ρ:List Nat} {s:List (Ck C)} {K:List Nat→List (Ck C)→Tr} (h:(withOffs m ρ s K).holds) (hl:memLt m.length m=true):
 ∃ ρ' o,(K ρ' (m ++ o)).holds∧(∀ x∈o,x.on=false∧(∀ t y,¬ x.cells.Has t y)∧∀ n,x.lt n=true)∧memLt (m ++ o).length (m ++ o)=true∧(allLt m.length ρ=true→ρ'=ρ∧o=[]):=by
 unfold withOffs at h
 split at h
 · exact ⟨ρ,[],by rw [wx];exact h,⟨fun x hx=>by simp at hx,by rw [wx];exact hl,fun _=>⟨rfl,rfl⟩⟩⟩
 · rw [fM_eq,fLN_eq] at h
   have ho:=offs_off m.length ρ s
   rename_i hall
   refine ⟨_,_,h,ho,memLt_app (memLt_mono (by simp) hl) ?_,fun h=>by rw [hall] at h;cases h⟩
   have:∀ (l:List (Ck C)) (n:Nat),(∀ x∈l,∀ n,x.lt n=true)→memLt n l=true:=by
    intro l n
    induction l with
    | nil=>intro _;rfl
    | cons y l ih=>
      intro hy
      simp only [memLt,zq]
      exact ⟨hy y (by simp) n,ih fun x hx=>hy x (yw _ hx)⟩
   exact this _ _ fun x hx n=>(ho x hx).2.2 n
theorem MemOK.withO {S:Sx} {w0 w:World} {m o:List (Ck C)} (h:MemOK S w0 w m) (hl:memLt m.length m=true) (ho:∀ x∈o,x.on=false∧(∀ t y,¬ x.cells.Has t y)∧∀ n,x.lt n=true):MemOK S w0 w (m ++ o):=(h.offs hl ho).1
theorem MemOK.dropO {S:Sx} {w0 w:World} {m o:List (Ck C)} (hl:memLt m.length m=true) (h:MemOK S w0 w (m ++ o)):MemOK S w0 w m:=by
 have hin:∀ y,y∈m→y∈m ++ o:=fun y hy=>uq _ hy
 have e:∀ k,k<m.length→nth (m ++ o) k=nth m k:=fun k hk=>by rw [nth_app,if_pos hk]
 refine ⟨h.os,h.tape,h.output,h.size,h.keep,fun y hy=>h.inS y (hin y hy),fun y hy ho => ?_,fun y hy=>h.wrok y (hin y hy),fun p q hp hq hpq hw hlp hlq => ?_,fun y hy=>h.lt y (hin y hy),?_⟩
 · refine Ck.ok_ads (fun c hc => ?_) (memLt_mem hl hy) (h.ok y (hin y hy) ho)
   simp only [ads];rw [e c hc]
 · have:=h.apart p q (by simp;omega) (by simp;omega) hpq
   rw [e p hp,e q hq] at this
   exact this hw hlp hlq
 · refine ⟨h.more.gv,h.more.gp,fun p hp => ?_,h.more.nod,fun y hy t z hz => ?_⟩
   · obtain ⟨h1,h2,h3⟩:=h.more.pin p hp
     exact ⟨h1,h2,fun y hy=>h3 y (hin y hy)⟩
   · obtain ⟨k1,k2⟩:=h.more.deep y (hin y hy) t z hz
     exact ⟨k1,fun b' hb'=>⟨(k2 b' hb').lt,(k2 b' hb').old,fun c' hc'=>(k2 b' hb').no c' (hin c' hc'),(k2 b' hb').pin⟩⟩
end Go.Vx
namespace Go.Vx
open Go
abbrev Ent' (c d:Codec):=c.α×d.α×Nat
def entryOf (c d:Codec) (e:Ent' c d):MapEntry:=⟨packV c e.1,packV d e.2.1,e.2.2⟩
def mfix (c d:Codec) (q:c.α):List (Ent' c d)→Nat→Option (Nat×d.α)
 | [],_=>none
 | e :: r,i=>match c.beq q e.1 with
   | true=>some (i,e.2.1)
   | false=>mfix c d q r (i+1)
def mhas (c d:Codec) (l:List (Ent' c d)) (q:c.α):Bool:=(mfix c d q l 0).isSome
def mget (c d:Codec) (l:List (Ent' c d)) (q:c.α):d.α:=((mfix c d q l 0).map (·.2)).getD d.dflt
def mat (c d:Codec) (s:Nat):List (Ent' c d)→Ent' c d
 | []=>(c.dflt,d.dflt,0)
 | e :: r=>match zi e.2.2 s with
   | true=>e
   | false=>mat c d s r
structure KeyOK (P:Program) (t:TypeId) (c:Codec):Prop where
 chk:∀ (b:Bool) (x:c.α) (w:World),(Instr.checkKey b 10000 t (packV c x)).run P w=.ok () w
 find:∀ (d:Codec) (l:List (Ent' c d)) (q:c.α) (w:World),(Instr.findKey t (packV c q) (l.map (entryOf c d))).run P w=.ok ((mfix c d q l 0).map fun p=>(p.1,packV d p.2)) w
 bits:∀ x y,c.beq x y=true→Instr.sameBits 10000 (packV c y) (packV c x)=true
structure ZeroIs (P:Program) (t:TypeId) (c:Codec):Prop where
 z:∀ w:World,(zeroValue t).run P w=.ok (packV c c.dflt) w
def decV (c:Codec) (v:SV):Option c.α:=match c.agg,v with
 | true,.agg vs=>match zi vs.length c.sz with
   | true=>updParts c c.dflt 0 vs
   | false=>none
 | true,_=>none
 | false,v=>match zi c.sz 1,v.cell with
   | true,true=>c.upd c.dflt 0 v
   | _,_=>none
theorem updParts'_vas (c:Codec) (ad:Nat→Ad):∀ (vs:List SV) (x y:c.α) (f:Nat),updParts' c x f vs=some y→f+vs.length≤c.sz→
 (c.enc y).map (SV.va ad)=((c.enc x).map (SV.va ad)).take f ++ vs.map (SV.va ad) ++ ((c.enc x).map (SV.va ad)).drop (f+vs.length)
 | [],x,y,f,h,_=>by
   simp only [updParts',Option.some.injEq] at h;subst h
   simp
 | v :: vs,x,y,f,h,hl=>by
   simp only [updParts'] at h
   split at h
   · rename_i z hz
     simp only [xy] at hl
     have ih:=updParts'_vas c ad vs z y (f+1) h (by omega)
     have hu:=c.upd_ok ad x f v z hz
     have hlen:((c.enc x).map (SV.va ad)).length=c.sz:=by simp [c.len]
     rw [ih,hu]
     generalize (c.enc x).map (SV.va ad)=L at hlen
     have hf:f<L.length:=by omega
     have hft:(L.take f).length=f:=by rw [ze];omega
     rw [List.set_eq_take_append_cons_drop,if_pos hf]
     have h1:(L.take f ++ SV.va ad v :: L.drop (f+1)).take (f+1)=L.take f ++ [SV.va ad v]:=by
      rw [List.take_append,hft,List.take_of_length_le (by omega),show f+1 - f=1 by omega];rfl
     have h2:(L.take f ++ SV.va ad v :: L.drop (f+1)).drop (f+1+vs.length)=L.drop (f+(v :: vs).length):=by
      rw [List.drop_append,hft,sh (by omega),show f+1+vs.length - f=vs.length+1 by omega]
      simp only [rz,List.drop_succ_cons,List.drop_drop,xy]
      congr 1;omega
     rw [h1,h2]
     simp
   · cases h
theorem updParts_vas (c:Codec) (ad:Nat→Ad) (vs:List SV) (x y:c.α) (h:updParts c x 0 vs=some y) (hl:vs.length≤c.sz):
 (c.enc y).map (SV.va ad)=vs.map (SV.va ad) ++ ((c.enc x).map (SV.va ad)).drop vs.length:=by
 simp only [updParts] at h
 split at h
 · rename_i y' hw
   simp only [Option.some.injEq] at h;subst h
   have e:=c.whole_ok ad _ _ hw
   have hl':=congrArg List.length e
   simp only [zn,c.len] at hl'
   rw [e,sh (by simp [c.len,hl']),wx]
 · have:=updParts'_vas c ad vs x y 0 h (by omega)
   simpa using this
theorem decV_ok {c:Codec} {v:SV} {x:c.α} (h:decV c v=some x) (ad:Nat→Ad):packV c x=v.va ad:=by
 unfold decV at h
 unfold packV
 split at h
 · rename_i vs ha
   split at h
   · rename_i hl
     have hl:=zp hl
     rw [ha]
     have:=updParts_vas c ad vs _ _ h (by omega)
     rw [sh (by simp [c.len,hl])] at this
     simp only [SV.va,SV.vas_eq]
     rw [c.flat x noAd ad,this,wx]
   · cases h
 · cases h
 · rename_i ha
   split at h
   · rename_i hs hc
     have hs:=zp hs
     rw [ha]
     have hu:=c.upd_ok ad _ _ _ _ h
     have hlen:=c.len c.dflt
     have e:=c.flat x noAd ad
     rw [hu] at e
     have h0:=congrArg (fun l=>l[0]?) e
     simp only [zf] at h0
     rw [List.getElem?_set_self (by simp [hlen,hs])] at h0
     cases hx:(c.enc x)[0]? with
     | none=>rw [hx] at h0;cases h0
     | some u=>rw [hx] at h0;simpa [zy,hx] using h0
   · cases h
section
variable {P:Program} {w:World} {c d:Codec}
theorem mfix_lt {q:c.α}:∀ {l:List (Ent' c d)} {i k:Nat} {x:d.α},mfix c d q l i=some (k,x)→i≤k∧k<i+l.length∧∃ e,l[k - i]? = some e∧c.beq q e.1=true∧e.2.1=x
 | [],_,_,_,h=>by cases h
 | e :: r,i,k,x,h=>by
   simp only [mfix] at h
   split at h
   · rename_i hb
     simp only [Option.some.injEq,Prod.mk.injEq] at h
     obtain ⟨rfl,rfl⟩:=h
     exact ⟨zw _,by simp,e,by simp,hb,rfl⟩
   · obtain ⟨h1,h2,e',h3,h4⟩:=mfix_lt h
     refine ⟨by omega,by simp only [xy];omega,e',?_,h4⟩
     rw [show k - i=(k - (i+1))+1 by omega];simpa using h3
theorem run_obj {b:Nat} {es:Array MapEntry} {clk:Nat} (hb:w.heap[b]? = some (.map es clk)):(getObj b).run P w=.ok (.map es clk) w:=by simp [getObj,Sem.run,hb]
theorem run_lookup {xt kt et:TypeId} {b:Nat} (ht:P.underlying xt=some (.map kt et)) (hk:KeyOK P kt c) (hz:ZeroIs P et d) {l:List (Ent' c d)} {clk:Nat} (hb:w.heap[b]? = some (.map (l.map (entryOf c d)).toArray clk)) (q:c.α) (ok:Bool):
 (Instr.lookup xt (.map (some b)) (packV c q) ok).run P w=.ok (if ok then .tuple #[packV d (mget c d l q),.bool (mhas c d l q)] else packV d (mget c d l q)) w:=by
 have hf:=hk.find d l q w
 have hc:=hk.chk (l.map (entryOf c d)).toArray.isEmpty q w
 unfold mget mhas
 cases hm:mfix c d q l 0 with
 | none=>
   rw [hm] at hf
   cases ok <;> simp_all [Instr.lookup,run_underlying' ht,run_obj hb,hz.z w]
 | some p=>
   obtain ⟨i,x⟩:=p
   rw [hm] at hf
   cases ok <;> simp_all [Instr.lookup,run_underlying' ht,run_obj hb,hz.z w]
end
variable {C:Nat→Codec}
def Ck.sure (c:Ck C):Cells C:=match c.gl with
 | none=>c.cells
 | some _=>.dead
theorem Ck.sure_ok {c:Ck C} {cs:Cells C} (h:c.sure=cs) (hd:cs≠.dead):c.cells=cs∧c.on=true:=by
 unfold Ck.sure at h
 split at h
 · rename_i hg;exact ⟨h,by simp [Ck.on,hg]⟩
 · exact absurd h.symm hd
theorem MemOK.drawn {S:Sx} {w0 w:World} {m:List (Ck C)} (h:MemOK S w0 w m) (k:Nat):MemOK S w0 { w with drawn:=w.drawn+k } m:=by
 refine ⟨h.os,⟨h.tape.1,xl h.tape.2 (Nat.le_add_right _ _)⟩,h.output,h.size,h.keep,h.inS,fun c hc ho => ?_,h.wrok,h.apart,h.lt,h.more.mono h.inS (fun _ _ _=>rfl) (fun c hc hl=>.inl ⟨c,hc,hl,rfl,id⟩) h.size (zw _) (fun c hc=>CsIn.self hc)⟩
 exact Ck.ok_same (h.ok c hc ho) rfl
theorem mget_val (c d:Codec) (l:List (Ent' c d)) (q:c.α):(∃ e∈l,e.2.1=mget c d l q)∨mget c d l q=d.dflt:=by
 unfold mget
 cases h:mfix c d q l 0 with
 | none=>exact .inr rfl
 | some p=>
   obtain ⟨i,x⟩:=p
   obtain ⟨_,_,e,h3,_,h5⟩:=mfix_lt h
   exact .inl ⟨e,List.mem_of_getElem? h3,by simpa using h5⟩
end Go.Vx
namespace Go.Vx
open Go
variable {C:Nat→Codec}
inductive Tg where
 | fn (f:Nat)
 | inv (t:Nat) (name:String)
def tgSem (tg:Tg) (vals:Array Value):Sem Next:=
 match tg with
 | .fn f=>callFunc f vals
 | .inv t name=>callMethod (.iface t (vals.getD 0 Go.undef)) name (vals.extract 1 vals.size)
def tgEq:Tg→Tg→Bool
 | .fn a,.fn b=>zi a b
 | .inv t n,.inv u k=>zi t u && decide (n=k)
 | _,_=>false
theorem tgEq_ok {a b:Tg} (h:tgEq a b=true):a=b:=by
 cases a <;> cases b <;> simp_all [tgEq]
def LocG (P:Program) (tg:Tg) (m:List (Ck C)) (args:List SV) (post:SV→List (Ck C)→Prop):Prop:=
 ∀ w,MemOK (wrS m) w w m→∃ f vals,(tgSem tg (SV.vas (ads m) args).toArray).run P w=.ok (.enter f vals) w∧
   Calls P f vals w fun e w'=>∃ r m',e=.returned (r.va (ads m'))∧MemOK (wrS m) w w' m'∧Ext m m'∧post r m'
structure Alt (C:Nat→Codec) where
 Y:Type
 post:Y→Prop
 res:Y→SV
 out:Y→List (Ck C)
def Ends (l:List (Alt C)) (f:(A:Alt C)→A.Y→Prop):Prop:=∃ A∈l,∃ y:A.Y,A.post y∧f A y
theorem Ends.one {Y:Type} {post:Y→Prop} {res:Y→SV} {out:Y→List (Ck C)} {f:(A:Alt C)→A.Y→Prop} {r:List (Alt C)} (y:Y) (h:post y) (hf:f ⟨Y,post,res,out⟩ y):Ends (⟨Y,post,res,out⟩ :: r) f:=
 ⟨_,List.mem_cons_self ..,y,h,hf⟩
theorem Ends.next {A:Alt C} {r:List (Alt C)} {f:(A:Alt C)→A.Y→Prop} (h:Ends r f):Ends (A :: r) f:=by
 obtain ⟨B,hB,y,h⟩:=h
 exact ⟨B,yw _ hB,y,h⟩
abbrev Does (P:Program) (tg:Tg) (mem:List (Ck C)) (args:List SV) (alts:List (Alt C)):Prop:=
 LocG P tg mem args fun r m'=>Ends alts fun A y=>r=A.res y∧m'=A.out y
abbrev Tells (P:Program) (tg:Tg) (mem:List (Ck C)) (args:List SV) (res:SV):Prop:=
 LocG P tg mem args fun r m'=>r=res∧m'=mem
structure Fc (P:Program) (C:Nat→Codec) where
 tg:Tg
 X:Type
 args:X→List SV
 mem:X→List (Ck C)
 pre:X→Prop
 alts:X→List (Alt C)
 mat:List SV→List (Ck C)→Option (X×List Nat)
 ok:∀ x,pre x→LocG P tg (mem x) (args x) fun r m'=>Ends (alts x) fun A y=>r=A.res y∧m'=A.out y
structure Pc (P:Program) (C:Nat→Codec) where
 tg:Tg
 X:Type
 args:X→List SV
 mem:X→List (Ck C)
 pre:X→Prop
 res:X→SV
 mat:List SV→List (Ck C)→Option (X×List Nat)
 ok:∀ x,pre x→LocG P tg (mem x) (args x) fun r m'=>r=res x∧m'=mem x
def findFc {P:Program} (tg:Tg) (az:List SV) (m:List (Ck C)):List (Fc P C)→Option (Sigma fun b:Fc P C=>b.X×List Nat)
 | []=>none
 | b :: r=>if tgEq b.tg tg then match b.mat az m with
     | some q=>some ⟨b,q⟩
     | none=>findFc tg az m r
   else findFc tg az m r
def findPc {P:Program} (tg:Tg) (az:List SV) (m:List (Ck C)):List (Pc P C)→Option (Sigma fun b:Pc P C=>b.X×List Nat)
 | []=>none
 | b :: r=>if tgEq b.tg tg then match b.mat az m with
     | some q=>some ⟨b,q⟩
     | none=>findPc tg az m r
   else findPc tg az m r
theorem findFc_tg {P:Program} {tg:Tg} {az:List SV} {m:List (Ck C)}:∀ {l:List (Fc P C)} {b:Fc P C} {q:b.X×List Nat},findFc tg az m l=some ⟨b,q⟩→b.tg=tg
 | [],_,_,h=>by simp [findFc] at h
 | x :: r,b,q,h=>by
   simp only [findFc] at h
   split at h
   · rename_i he
     split at h
     · simp only [Option.some.injEq,Sigma.mk.injEq] at h
       obtain ⟨rfl,_⟩:=h
       exact tgEq_ok he
     · exact findFc_tg h
   · exact findFc_tg h
theorem findPc_tg {P:Program} {tg:Tg} {az:List SV} {m:List (Ck C)}:∀ {l:List (Pc P C)} {b:Pc P C} {q:b.X×List Nat},findPc tg az m l=some ⟨b,q⟩→b.tg=tg
 | [],_,_,h=>by simp [findPc] at h
 | x :: r,b,q,h=>by
   simp only [findPc] at h
   split at h
   · rename_i he
     split at h
     · simp only [Option.some.injEq,Sigma.mk.injEq] at h
       obtain ⟨rfl,_⟩:=h
       exact tgEq_ok he
     · exact findPc_tg h
   · exact findPc_tg h
def callTg (tm:Tm) (m:List (Ck C)) (al:List (Nat×Bool)) (c:Call):Option (Tg×List SV):=
 match c.callee with
 | .value f=>match ev tm m al f,optAll (ev tm m al) c.args.toList with
   | some (.fn (.func g) first cap),some az=>some (.fn g,first ++ az ++ cap)
   | _,_=>none
 | .invoke r name=>match ev tm m al r,optAll (ev tm m al) c.args.toList with
   | some (.ifc t v),some az=>some (.inv t name,v :: az)
   | _,_=>none
 | .builtin _=>none
theorem callTg_ok {P:Program} {n:Nat} {tm:Tm} {m:List (Ck C)} {a:Act} (h:ActOK (ads m) n tm a) (hg:GlOK m) {al:List (Nat×Bool)} (ha:AlOK tm al) {c:Call} {tg:Tg} {az:List SV}
 (hc:callTg tm m al c=some (tg,az)) {dst:Option Tmp} {ty:TypeId} {pos:String} {after:Array Edge} {g:Option (Nat×Bool)} (w:World):
 (execOp a.eval ⟨dst,.call c,ty,pos,after,g⟩).run P w=(tgSem tg (SV.vas (ads m) az).toArray).run P w:=by
 have hev:=ev_ok h hg ha
 obtain ⟨callee,args,argTypes⟩:=c
 simp only [callTg] at hc
 split at hc
 · split at hc <;> try (first | contradiction | exact False.elim hc)
   rename_i f first cap az' hf has
   simp only [Option.some.injEq,Prod.mk.injEq] at hc
   obtain ⟨rfl,rfl⟩:=hc
   have e1:=hev _ _ hf
   have e2:=optAll_ok (g:=SV.va (ads m)) hev has
   have e3:args.map a.eval=(SV.vas (ads m) az').toArray:=by apply wd;simp [SV.vas_eq,e2]
   simp [execOp,resolve,e1,e3,SV.va,Deferred.ofValue,invoke,tgSem,SV.vas_eq]
 · split at hc <;> try (first | contradiction | exact False.elim hc)
   rename_i t v az' hf has
   simp only [Option.some.injEq,Prod.mk.injEq] at hc
   obtain ⟨rfl,rfl⟩:=hc
   have e1:=hev _ _ hf
   have e2:=optAll_ok (g:=SV.va (ads m)) hev has
   have e3:args.map a.eval=(SV.vas (ads m) az').toArray:=by apply wd;simp [SV.vas_eq,e2]
   simp [execOp,resolve,e1,e3,SV.va,invoke,tgSem,SV.vas]
 · cases hc
def wrLive:List (Ck C)→Bool
 | []=>true
 | c :: r=>(!c.wr || c.alive) && (c.noOwn && wrLive r)
theorem wrLive_ok {m:List (Ck C)} (h:wrLive m=true):∀ c∈m,c.wr=true→c.alive=true:=by
 induction m with
 | nil=>intro c hc;cases hc
 | cons x r ih=>
   simp only [wrLive,zq,Bool.or_eq_true,yi] at h
   intro c hc hw
   rcases List.mem_cons.1 hc with rfl | hc
   · rcases h.1 with h | h
     · rw [hw] at h;cases h
     · exact h
   · exact ih h.2.2 c hc hw
theorem wrLive_own {m:List (Ck C)} (h:wrLive m=true):∀ c∈m,c.noOwn=true:=by
 induction m with
 | nil=>intro c hc;cases hc
 | cons x r ih=>
   simp only [wrLive,zq] at h
   intro c hc
   rcases List.mem_cons.1 hc with rfl | hc
   · exact h.2.1
   · exact ih h.2.2 c hc
def altsP (K:SV→List (Ck C)→Tr) (ρ:List Nat) (mem M:List (Ck C)):List (Alt C)→Tr
 | []=>.yes
 | A :: r=>.and (.all fun y=>.imp (A.post y)
     (match memLt (A.out y).length (A.out y) && SV.lt (A.out y).length (A.res y) with
     | true=>K ((A.res y).ren (ρ ++ upFrom M.length ((A.out y).length - mem.length)))
        (backU (ρ ++ upFrom M.length ((A.out y).length - mem.length)) ρ mem (A.out y) M ++ backN (ρ ++ upFrom M.length ((A.out y).length - mem.length)) mem (A.out y))
     | false=>.no)) (altsP K ρ mem M r)
theorem altsP_ok {K:SV→List (Ck C)→Tr} {ρ:List Nat} {mem M:List (Ck C)}:∀ {l:List (Alt C)},(altsP K ρ mem M l).holds→∀ A∈l,∀ y:A.Y,A.post y→
 memLt (A.out y).length (A.out y)=true∧SV.lt (A.out y).length (A.res y)=true∧(K ((A.res y).ren (ρ ++ upFrom M.length ((A.out y).length - mem.length)))
       (backU (ρ ++ upFrom M.length ((A.out y).length - mem.length)) ρ mem (A.out y) M ++ backN (ρ ++ upFrom M.length ((A.out y).length - mem.length)) mem (A.out y))).holds
 | [],_,A,hA,_,_=>by cases hA
 | B :: r,h,A,hA,y,hy=>by
   rcases List.mem_cons.1 hA with rfl | hA
   · have h1:=h.1 y hy
     split at h1 <;> try (first | contradiction | exact False.elim h1)
     rename_i hc
     simp only [zq] at hc
     exact ⟨hc.1,hc.2,h1⟩
   · exact altsP_ok h.2 A hA y hy
def callP {P:Program} (fcs:List (Fc P C)) (tm:Tm) (m:List (Ck C)) (al:List (Nat×Bool)) (c:Call) (K:SV→List (Ck C)→Tr):Tr:=
 match callTg tm m al c with
 | none=>.no
 | some (tg,az)=>match findFc tg az m fcs with
   | none=>.no
   | some ⟨b,x,ρ⟩=>match memLt m.length m && tmLt m.length tm && memLt (b.mem x).length (b.mem x) && SV.lts (b.mem x).length (b.args x) && wrLive (b.mem x) && SV.lts m.length az with
      | false=>.no
      | true=>withOffs m ρ (b.mem x) fun ρ M=>match apartB ρ (b.mem x) with
        | false=>.no
        | true=>match eqvs m.length (SV.rens ρ (b.args x)) az,cksEq m.length ρ M ρ (b.mem x) with
          | some ps,some qs=>conj ps (conj qs (.and (.lf (b.pre x)) (altsP K ρ (b.mem x) M (b.alts x))))
          | _,_=>.no
def noWr:List (Ck C)→Bool
 | []=>true
 | c :: r=>!c.wr && noWr r
def callQ1 {P:Program} (N:Nat) (b:Pc P C) (x:b.X) (az:List SV) (ρ:List Nat) (M:List (Ck C)):Ans:=
 match SV.lt N ((b.res x).ren ρ) with
 | false=>none
 | true=>match eqvs N (SV.rens ρ (b.args x)) az,cksEq N ρ M ρ (b.mem x) with
   | some ps,some qs=>some (ps ++ qs ++ [b.pre x],(b.res x).ren ρ)
   | _,_=>none
def callQ {P:Program} (pcs:List (Pc P C)) (tm:Tm) (m:List (Ck C)) (al:List (Nat×Bool)) (o:Op):Ans:=
 match o with
 | .call c=>match callTg tm m al c with
   | none=>none
   | some (tg,az)=>match findPc tg az m pcs with
     | none=>none
     | some ⟨b,x,ρ⟩=>match memLt m.length m && memLt (b.mem x).length (b.mem x) && SV.lts (b.mem x).length (b.args x) && SV.lt (b.mem x).length (b.res x) && noWr (b.mem x) && SV.lts m.length az with
        | false=>none
        | true=>match allLt m.length ρ with
          | true=>callQ1 m.length b x az ρ m
          | false=>callQ1 m.length b x az (fixR m.length m.length ρ) (m ++ offs m.length ρ (b.mem x))
 | _=>none
theorem noWr_ok {m:List (Ck C)} (h:noWr m=true):∀ c∈m,c.wr=false:=by
 induction m with
 | nil=>intro c hc;cases hc
 | cons x r ih=>
   simp only [noWr,zq,yi] at h
   intro c hc
   rcases List.mem_cons.1 hc with rfl | hc
   · exact h.1
   · exact ih h.2 c hc
theorem vas_rens {n:Nat} {ρ:List Nat} {ad ad':Nat→Ad} (h:∀ c,c<n→ad c=ad' (rn ρ c)) {N:Nat} (hN:∀ c,N≤c→(ad' c).on=false) {vs az:List SV} (hl:SV.lts n vs=true) {ps:List Prop} (he:eqvs N (SV.rens ρ vs) az=some ps) (hp:allOf ps):
 SV.vas ad vs=SV.vas ad' az:=by
 rw [SV.vas_ren h vs hl,eqvs_ok hN _ _ ps he hp]
def OpTo (P:Program) (S:Sx) (w0:World) (n:Nat) (tm:Tm) (m:List (Ck C)) (o:Oper) (a:Act) (w:World) (K:SV→List (Ck C)→Tr):Prop:=
 ∀ (next:Act→World→Prop) (Q:Exit→Act→World→Prop),
   (∀ r m' w' v,K r m'→MemOK S w0 w' m'→ActOK (ads m') n tm a→v=r.va (ads m')→(m.length≤m'.length∧∀ k,k<m.length→ads m k=ads m' k)→next (a.put o.dst v) w')→o.wp P a w next Q
theorem callP_ok {P:Program} {S:Sx} {w0 w:World} {n:Nat} {tm:Tm} {m:List (Ck C)} {a:Act} (h:ActOK (ads m) n tm a) (hm:MemOK S w0 w m) {al:List (Nat×Bool)} (ha:AlOK tm al)
 {fcs:List (Fc P C)} {c:Call} {dst:Option Tmp} {ty:TypeId} {pos:String} {after:Array Edge} {g:Option (Nat×Bool)} {K:SV→List (Ck C)→Tr} (hK:callP fcs tm m al c K):
 OpTo P S w0 n tm m ⟨dst,.call c,ty,pos,after,g⟩ a w K:=by
 unfold callP at hK
 split at hK <;> try (first | contradiction | exact False.elim hK)
 rename_i tg az htg
 split at hK <;> try (first | contradiction | exact False.elim hK)
 rename_i b x ρ hb
 split at hK <;> try (first | contradiction | exact False.elim hK)
 rename_i hc
 simp only [zq] at hc
 obtain ⟨⟨⟨⟨⟨c1,c2⟩,c3⟩,c4⟩,c6⟩,c7⟩:=hc
 obtain ⟨ρ,o,hK,ho,hlM,_⟩:=withOffs_ok hK c1
 obtain ⟨M,hMe⟩:∃ M,M=m ++ o:=⟨_,rfl⟩
 have hmM:=hm.withO c1 ho
 obtain ⟨hadsP,hN⟩:=ads_offs (m:=m) (o:=o) (fun x hx=>(ho x hx).1)
 rw [← hMe] at hK hlM hmM hadsP hN
 split at hK <;> try (first | contradiction | exact False.elim hK)
 rename_i c5
 split at hK <;> try (first | contradiction | exact False.elim hK)
 rename_i ps qs hps hqs
 obtain ⟨hps',hK⟩:=(conj_iff _ _).1 hK
 obtain ⟨hqs',hK⟩:=(conj_iff _ _).1 hK
 obtain ⟨hpre,hK⟩:=hK
 obtain ⟨hlen,hk⟩:=cksEq_ok hqs hqs'
 have hk':∀ k,k<(b.mem x).length→rn ρ k<M.length∧CkEq m.length ρ (nth (b.mem x) k) (nth M (rn ρ k)):=fun k hkl=>by
  obtain ⟨h1,qs,h2,h3⟩:=hk k hkl
  exact ⟨h1,ckEq_ok h2 h3⟩
 have hap:=apartB_ok c5 hlen
 obtain ⟨hent,hads⟩:=hmM.enter hN c3 hk' hap (wrLive_own c6)
 have hvals:=vas_rens hads hN c4 hps hps'
 have hasl:SV.vas (ads M) az=SV.vas (ads m) az:=SV.vas_congr (fun c hc=>(hadsP c hc).symm) az c7
 rw [hasl] at hvals
 have hex:=callTg_ok (P:=P) h hm.glob ha htg (dst:=dst) (ty:=ty) (pos:=pos) (after:=after) (g:=g) w
 obtain ⟨f,vals,hrun,hcalls⟩:=b.ok x hpre w hent
 rw [findFc_tg hb,hvals] at hrun
 intro next Q hnext
 unfold Oper.wp
 rw [hex,hrun]
 simp only [Oper.upon]
 refine hcalls.mono ?_
 rintro e w' ⟨r,m',he,hm',hext,A,hA,y,hy,rfl,rfl⟩
 subst he
 simp only
 obtain ⟨hol1,hol2,hKy⟩:=altsP_ok hK A hA y hy
 have hol:=And.intro hol1 hol2
 obtain ⟨hback,hadsO,hadsM,hlenM⟩:=hmM.back hlM hlen hk' hap (wrLive_ok c6) hm' hext hol.1
 have hmM':m.length≤M.length:=by rw [hMe];simp
 have hall:∀ k,k<m.length→ads m k=ads (backU (ρ ++ upFrom M.length ((A.out y).length - (b.mem x).length)) ρ (b.mem x) (A.out y) M ++ backN (ρ ++ upFrom M.length ((A.out y).length - (b.mem x).length)) (b.mem x) (A.out y)) k:=
  fun k hkl=>(hadsP k hkl).trans (hadsM k (by omega))
 exact hnext _ _ w' _ hKy hback (h.ads hall c2) (SV.va_ren hadsO _ hol.2) ⟨by omega,hall⟩
theorem callQ_ok {P:Program} {S:Sx} {w0 w:World} {n:Nat} {tm:Tm} {m:List (Ck C)} {a:Act} (h:ActOK (ads m) n tm a) (hm:MemOK S w0 w m) {al:List (Nat×Bool)} (ha:AlOK tm al)
 {pcs:List (Pc P C)} {o:Oper} {ps:List Prop} {r:SV} (hK:callQ pcs tm m al o.op=some (ps,r)) (hp:allOf ps):
 ∃ f vals,(execOp a.eval o).run P w=.ok (.enter f vals) w∧Calls P f vals w fun e w'=>e=.returned (r.va (ads m))∧MemOK S w0 w' m:=by
 obtain ⟨dst,op,ty,pos,after,g⟩:=o
 simp only at hK
 cases op <;> simp only [callQ] at hK <;> try contradiction
 rename_i c
 split at hK <;> try (first | contradiction | exact False.elim hK)
 rename_i tg az htg
 split at hK <;> try (first | contradiction | exact False.elim hK)
 rename_i b x ρ hb
 split at hK <;> try (first | contradiction | exact False.elim hK)
 rename_i hc
 simp only [zq] at hc
 obtain ⟨⟨⟨⟨⟨c1,c2⟩,c3⟩,c4⟩,c5⟩,c7⟩:=hc
 have key:∃ ρ o,callQ1 m.length b x az ρ (m ++ o)=some (ps,r)∧(∀ x∈o,x.on=false∧(∀ t y,¬ x.cells.Has t y)∧∀ n,x.lt n=true):=by
  split at hK
  · exact ⟨ρ,[],by rw [wx];exact hK,fun x hx=>by simp at hx⟩
  · exact ⟨_,_,hK,offs_off _ _ _⟩
 clear hK
 obtain ⟨ρ,o,hK,ho⟩:=key
 obtain ⟨hmM,hlM⟩:=hm.offs c1 ho
 obtain ⟨hadsP,hN⟩:=ads_offs (m:=m) (o:=o) (fun x hx=>(ho x hx).1)
 obtain ⟨M,hMe⟩:∃ M,M=m ++ o:=⟨_,rfl⟩
 rw [← hMe] at hK hlM hmM hadsP hN
 unfold callQ1 at hK
 split at hK <;> try (first | contradiction | exact False.elim hK)
 rename_i hresl
 split at hK <;> try (first | contradiction | exact False.elim hK)
 rename_i ps' qs hps hqs
 simp only [Option.some.injEq,Prod.mk.injEq] at hK
 obtain ⟨rfl,rfl⟩:=hK
 obtain ⟨hpq,hpre⟩:=(allOf_append _ _).1 hp
 obtain ⟨hps',hqs'⟩:=(allOf_append _ _).1 hpq
 simp only [allOf,and_true] at hpre
 obtain ⟨hlen,hk⟩:=cksEq_ok hqs hqs'
 have hk':∀ k,k<(b.mem x).length→rn ρ k<M.length∧CkEq m.length ρ (nth (b.mem x) k) (nth M (rn ρ k)):=fun k hkl=>by
  obtain ⟨h1,qs,h2,h3⟩:=hk k hkl
  exact ⟨h1,ckEq_ok h2 h3⟩
 have hnw:=noWr_ok c5
 have hap:∀ i j,i<(b.mem x).length→j<(b.mem x).length→i≠j→(nth (b.mem x) i).wr=true→rn ρ i≠rn ρ j:=by
  intro i j hi _ _ hw
  rw [hnw _ (nth_mem hi)] at hw;cases hw
 obtain ⟨hent,hads⟩:=hmM.enter hN c2 hk' hap fun c hc=>Ck.noOwn_ro (hnw c hc)
 have hvals:=vas_rens hads hN c3 hps hps'
 have hasl:SV.vas (ads M) az=SV.vas (ads m) az:=SV.vas_congr (fun c hc=>(hadsP c hc).symm) az c7
 rw [hasl] at hvals
 have hex:=callTg_ok (P:=P) h hm.glob ha htg (dst:=dst) (ty:=ty) (pos:=pos) (after:=after) (g:=g) w
 obtain ⟨f,vals,hrun,hcalls⟩:=b.ok x hpre w hent
 rw [findPc_tg hb,hvals] at hrun
 refine ⟨f,vals,by rw [hex,hrun],hcalls.mono ?_⟩
 rintro e w' ⟨r,m',he,hm',hext,rfl,rfl⟩
 subst he
 obtain ⟨hback,_,_,_⟩:=hmM.back hlM hlen hk' hap (fun c hc hw=>by rw [hnw c hc] at hw;cases hw) hm' hext c2
 have hU:∀ (ρ':List Nat) (r:List Nat) (s out M:List (Ck C)),(∀ c∈s,c.wr=false)→backU ρ' r s out M=M:=by
  intro ρ' r
  induction r with
  | nil=>intro s out M _;cases s <;> cases out <;> rfl
  | cons p r ih=>
    intro s out M hs
    cases s with
    | nil=>cases out <;> rfl
    | cons a s=>
      cases out with
      | nil=>rfl
      | cons o out=>
        simp only [backU,hs a (by simp)]
        exact ih s out M (fun c hc=>hs c (by simp [hc]))
 have hN':∀ (ρ':List Nat) (s:List (Ck C)),backN ρ' s s=[]:=by
  intro ρ' s
  induction s with
  | nil=>rfl
  | cons a s ih=>exact ih
 rw [hU _ _ _ _ _ hnw,hN',wx] at hback
 refine ⟨?_,?_⟩
 · rw [SV.va_ren hads _ c4,SV.va_congr (fun c hc=>(hadsP c hc).symm) _ hresl]
 · rw [hMe] at hback
   exact MemOK.dropO c1 hback
end Go.Vx
namespace Go.Vx
open Go
structure Rw (α:Type) where
 on:Bool
 b:Nat
 base:Nat
 m:Nat
 l:List α
def Rw.nil {α:Type}:Rw α:=⟨false,0,0,0,[]⟩
def Rw.val {α:Type} (r:Rw α):Value:=match r.on with
 | false=>.slice none 0 0
 | true=>.slice (some ⟨r.b,r.base,none⟩) r.l.length r.m
def Rw.blks {α:Type} (r:Rw α):List Nat:=match r.on with
 | false=>[]
 | true=>[r.b]
def Rw.ok (c:Codec) (w:World) (r:Rw c.α):Prop:=match r.on with
 | false=>r.l=[]∧r.m=0
 | true=>∀ i,i<r.l.length→∀ f,f<c.sz→w.cell? ⟨r.b,r.base+(i*c.sz+f),none⟩=some (((c.enc (r.l.getD i c.dflt)).getD f .junk).va noAd)
theorem Rw.ok_keep (c:Codec) (w w':World) (r:Rw c.α) (hb:∀ b∈r.blks,w'.heap[b]? = w.heap[b]?) (h:Rw.ok c w r):Rw.ok c w' r:=by
 unfold Rw.ok at *
 split
 · rename_i he;simp only [he] at h;exact h
 · rename_i he
   simp only [he] at h
   intro i hi f hf
   rw [World.cell?_of_block (w:=w) (a:=⟨r.b,r.base+(i*c.sz+f),none⟩) (hb r.b (by simp [Rw.blks,he]))]
   exact h i hi f hf
def Rw.sv {α:Type} (r:Rw α):SV:=match r.on with
 | false=>.nils
 | true=>.val (.slice (some ⟨r.b,r.base,none⟩) r.l.length r.m)
theorem Rw.sv_va {α:Type} (r:Rw α) (ad:Nat→Ad):r.sv.va ad=r.val:=by
 unfold Rw.sv Rw.val
 split <;> simp [SV.va]
abbrev rwCodec (c:Codec):Codec where
 α:=Rw c.α
 dflt:=Rw.nil
 sz:=1
 enc x:=[x.sv]
 upd _ _ _:=none
 len _:=rfl
 cell x v hv:=by
  rw [List.mem_singleton.1 hv]
  unfold Rw.sv
  split <;> rfl
 flat x ad ad':=by simp [Rw.sv_va]
 upd_ok _ _ _ _ _ h:=by cases h
 deep:=true
 blks:=Rw.blks
 good:=Rw.ok c
 good_keep w w' x:=Rw.ok_keep c w w' x
 flat_deep h:=by cases h
 upd_deep _ _ _ _:=rfl
 whole_deep _ _:=rfl
 dflt_deep:=⟨rfl,fun _=>⟨rfl,rfl⟩⟩
def Gw.ok (c:Codec) (w:World) (r:Rw c.α):Prop:=Rw.ok c w r∧(r.on=true→r.l.length≤r.m∧(∀ j,j<r.m*c.sz→(w.cell? ⟨r.b,r.base+j,none⟩).isSome=true)∧∀ a:Addr,a.block=r.b→w.frozen? a=false)
structure GroOK (C:Nat→Codec) (te t:Nat) (get:(C te).α→Rw (C t).α) (put:Rw (C t).α→(C te).α):Prop where
 gp:∀ r,get (put r)=r
 sz:(C te).sz=1
 enc:∀ r,(C te).enc (put r)=[.val r.val]
 agg:(C te).agg=false
 own:(C te).own=true
 blks:∀ r,(C te).blks (put r)=r.blks
 good:∀ w r,Gw.ok (C t) w r→(C te).good w (put r)
 ungood:∀ w r,(C te).good w (put r)→Gw.ok (C t) w r
structure Fam (C:Nat→Codec) where
 te:Nat
 off:Nat
 t:Nat
 get:(C te).α→Rw (C t).α
 enc:∀ x,(((C te).enc x).getD off .junk).va noAd=(get x).val
 good:∀ w x,(C te).good w x→Rw.ok (C t) w (get x)
 blk:∀ x,∀ b∈(get x).blks,b∈(C te).blks x
 flat:(C t).deep=false
 hoff:off<(C te).sz
 put:Option (Rw (C t).α→(C te).α):=none
 gro:∀ p,put=some p→GroOK C te t get p:=by intro p h;cases h
structure FamW (C:Nat→Codec) where
 te:Nat
 t:Nat
 put:Rw (C t).α→(C te).α
 sz:(C te).sz=1
 enc:∀ r,(((C te).enc (put r)).getD 0 .junk).va noAd=r.val
 blks:∀ r,(C te).blks (put r)=r.blks
 good:∀ w r,Rw.ok (C t) w r→(C te).good w (put r)
variable {C:Nat→Codec}
def findFam (te f:Nat):List (Fam C)→Option { F:Fam C // F.te=te∧F.off=f }
 | []=>none
 | F :: r=>if h:F.te=te∧F.off=f then some ⟨F,h⟩ else findFam te f r
def findFamW (te:Nat):List (FamW C)→Option { F:FamW C // F.te=te }
 | []=>none
 | F :: r=>if h:F.te=te then some ⟨F,h⟩ else findFamW te r
structure FamHit (C:Nat→Codec) where
 F:Fam C
 c:Nat
 asks:List Prop
 x:(C F.te).α
def famOf (P:Program) (fams:List (Fam C)) (tm:Tm) (m:List (Ck C)) (al:List (Nat×Bool)) (o:Op):Option (FamHit C):=
 match fams with
 | []=>none
 | _ :: _=>match o with
   | .load t a=>match ev tm m al a with
     | some (.ptr c i f)=>match (nth m c).cells with
       | .rows te l=>match findFam te f fams with
         | some ⟨F,h⟩=>match aggTy P t with
           | some false=>some ⟨F,c,(nth m c).there ++ [i<(castL h.1.symm l).length],(castL h.1.symm l).getD i (C F.te).dflt⟩
           | _=>none
         | none=>none
       | _=>none
     | _=>none
   | .lookup t x k false=>match P.underlying t,ev tm m al x,ev tm m al k with
     | some (.map kt vt),some (.mp c),some kv=>match (nth m c).sure with
       | .mp tk tv l _=>match zi kt tk && zi vt tv,decV (C tk) kv,findFam tv 0 fams with
         | true,some q,some ⟨F,h⟩=>match (C F.te).agg,zi (C F.te).sz 1 with
           | false,true=>some ⟨F,c,[KeyOK P tk (C tk),ZeroIs P tv (C tv)],h.1 ▸ mget (C tk) (C tv) l q⟩
           | _,_=>none
         | _,_,_=>none
       | _=>none
     | _,_,_=>none
   | _=>none
def famT (h:FamHit C) (tm:Tm) (m:List (Ck C)) (K:SV→List (Ck C)→Tr):Tr:=
 match memLt m.length m && tmLt m.length tm with
 | false=>.no
 | true=>match h with
   | ⟨F,_,asks,x⟩=>conj asks (.all fun r:Rw (C F.t).α=>.imp (F.get x=r)
     (K (.sl m.length 0 r.l.length r.m) (m ++ [⟨r.b,r.base,(C F.t).sz,false,some r.on,.rows F.t r.l⟩])))
theorem MemOK.ghostB {S:Sx} {w0 w:World} {m:List (Ck C)} (h:MemOK S w0 w m) (hl:memLt m.length m=true) {t:Nat} (ht:(C t).deep=false) {r:Rw (C t).α} (hr:Rw.ok (C t) w r) (hon:r.on=true) {o:Bool} (hB:Blk S w0 w m o r.b) (g:Option Bool):
 MemOK S w0 w (m ++ [⟨r.b,r.base,(C t).sz,false,g,.rows t r.l⟩]):=by
 unfold Rw.ok at hr
 simp only [hon] at hr
 have hin:∀ y,y∈m ++ [(⟨r.b,r.base,(C t).sz,false,g,.rows t r.l⟩:Ck C)]→y∈m∨y=⟨r.b,r.base,(C t).sz,false,g,.rows t r.l⟩:=by intro y hy;simpa using hy
 refine ⟨h.os,h.tape,h.output,h.size,h.keep,?_,?_,?_,?_,?_,?_⟩
 · intro y hy hw ho hb
   rcases hin y hy with hy | rfl
   · exact h.inS y hy hw ho hb
   · cases hw
 · intro y hy ho
   rcases hin y hy with hy | rfl
   · exact Ck.ok_ads (ads_append m _) (memLt_mem hl hy) (h.ok y hy ho)
   · refine ⟨rfl,fun i hi f hf => ?_⟩
     rw [enc_flat (C t) _ noAd _ f hf]
     exact hr i hi f hf
 · intro y hy hw hlv a hab
   rcases hin y hy with hy | rfl
   · exact h.wrok y hy hw hlv a hab
   · cases hw
 · intro p q hp hq hpq hw hlp hlq
   simp only [zx,vu] at hp hq
   rw [nth_append] at hw hlp ⊢
   rw [nth_append] at hlq ⊢
   by_cases h1:p<m.length
   · rw [if_pos h1] at hw hlp ⊢
     by_cases h2:q<m.length
     · rw [if_pos h2] at hlq ⊢
       exact h.apart p q h1 h2 hpq hw hlp hlq
     · rw [if_neg h2,if_pos (by omega)]
       exact hB.no _ (nth_mem h1) hw hlp
   · rw [if_neg h1,if_pos (by omega)] at hw
     cases hw
 · intro y hy ho
   rcases hin y hy with hy | rfl
   · exact h.lt y hy ho
   · exact hB.lt
 · refine ⟨h.more.gv,h.more.gp,fun p hp => ?_,h.more.nod,fun y hy t' z hz => ?_⟩
   · obtain ⟨h1,h2,h3⟩:=h.more.pin p hp
     refine ⟨h1,h2,fun y hy hlv => ?_⟩
     rcases hin y hy with hy | rfl
     · exact h3 y hy hlv
     · exact (hB.pin p hp).symm
   · rcases hin y hy with hy | rfl
     · obtain ⟨k1,k2⟩:=h.more.deep y hy t' z hz
       refine ⟨k1,fun b' hb'=>⟨(k2 b' hb').lt,(k2 b' hb').old,fun c' hc' hw' hl' => ?_,(k2 b' hb').pin⟩⟩
       rcases hin c' hc' with hc' | rfl
       · exact (k2 b' hb').no c' hc' hw' hl'
       · cases hw'
     · obtain ⟨rfl,_⟩:=Cells.Has.inv hz
       obtain ⟨f1,f2⟩:=(C t).flat_deep ht z
       exact ⟨f2 w,fun b' hb'=>by rw [f1] at hb';cases hb'⟩
theorem MemOK.ghost {S:Sx} {w0 w:World} {m:List (Ck C)} (h:MemOK S w0 w m) (hl:memLt m.length m=true) (F:Fam C) {x:(C F.te).α} (hx:(∃ c∈m,c.cells.Has F.te x)∨x=(C F.te).dflt) {r:Rw (C F.t).α}
 (hr:F.get x=r):MemOK S w0 w (m ++ [⟨r.b,r.base,(C F.t).sz,false,some r.on,.rows F.t r.l⟩])∧(r.on=false→r.l=[]∧r.m=0):=by
 have hg:(C F.te).good w x∧∀ b∈(C F.te).blks x,Blk S w0 w m false b:=by
  rcases hx with ⟨c,hc,hx⟩ | rfl
  · obtain ⟨g1,g2⟩:=h.more.deep c hc F.te x hx
    exact ⟨g1,fun b hb=>(g2 b hb).weak (fun e=>by cases e)⟩
  · obtain ⟨g1,g2⟩:=(C F.te).dflt_deep
    exact ⟨g2 w,fun b hb=>by rw [g1] at hb;cases hb⟩
 obtain ⟨g1,g2⟩:=hg
 have hok:=F.good w x g1
 rw [hr] at hok
 have hbk0:=F.blk x
 rw [hr] at hbk0
 cases hon:r.on with
 | false=>
   have hok':=hok
   unfold Rw.ok at hok'
   simp only [hon] at hok'
   exact ⟨h.off hl rfl (CsIn.rows (RowsOf.flat F.flat r.l)),fun _=>hok'⟩
 | true=>
   refine ⟨?_,fun h=>by cases h⟩
   exact h.ghostB hl F.flat hok hon (g2 r.b (hbk0 r.b (by simp [Rw.blks,hon]))) _
theorem ghost_val {t:Nat} (r:Rw (C t).α) (m:List (Ck C)) (hr:r.on=false→r.l=[]∧r.m=0):
 r.val=(SV.sl m.length 0 r.l.length r.m).va (ads (m ++ [(⟨r.b,r.base,(C t).sz,false,some r.on,.rows t r.l⟩:Ck C)])):=by
 have had:ads (m ++ [(⟨r.b,r.base,(C t).sz,false,some r.on,.rows t r.l⟩:Ck C)]) m.length=⟨r.b,r.base,(C t).sz,r.on⟩:=ads_append_new _ _
 simp only [SV.va,had,Rw.val,Ad.at,Nat.zero_mul,za]
 cases hon':r.on with
 | false=>obtain ⟨e1,e2⟩:=hr hon';simp [e1,e2]
 | true=>rfl
theorem packV_get (F:Fam C) (h0:F.off=0) (ha:(C F.te).agg=false) (hs:(C F.te).sz=1) (x:(C F.te).α):packV (C F.te) x=(F.get x).val:=by
 have:=F.enc x
 rw [h0] at this
 rw [← this]
 unfold packV
 rw [ha]
 have hl:=(C F.te).len x
 rw [hs] at hl
 simp only [zy]
 rw [zt (by omega)];rfl
theorem famOf_run {P:Program} {n:Nat} {fams:List (Fam C)} {tm:Tm} {m:List (Ck C)} {a:Act} (h:ActOK (ads m) n tm a) (hg:GlOK m) {al:List (Nat×Bool)} (ha:AlOK tm al) {o:Oper} {ht:FamHit C}
 (hf:famOf P fams tm m al o.op=some ht) (hp:allOf ht.asks):ht.c<m.length∧(nth m ht.c).on=true∧((nth m ht.c).cells.Has ht.F.te ht.x∨ht.x=(C ht.F.te).dflt)∧
   ∀ w,Ck.ok (ads m) w (nth m ht.c)→(execOp a.eval o).run P w=.ok (.value (ht.F.get ht.x).val) w:=by
 obtain ⟨dst,op,ty,pos,after,g⟩:=o
 unfold famOf at hf
 simp only at hf
 split at hf <;> try contradiction
 split at hf <;> try contradiction
 · rename_i t x
   split at hf <;> try contradiction
   rename_i c i f he
   split at hf <;> try contradiction
   rename_i te l hcl
   split at hf <;> try contradiction
   rename_i F hF _
   split at hf <;> try contradiction
   rename_i hag
   simp only [Option.some.injEq] at hf
   subst hf
   obtain ⟨rfl,rfl⟩:=hF
   have hcast:castL rfl l=l:=rfl
   simp only [hcast] at hp ⊢
   obtain ⟨hth,hp⟩:=(allOf_append _ _).1 hp
   have hon:=Ck.there_ok hth
   have hi:i<l.length:=hp.1
   have h1:=ev_ok h hg ha _ _ he
   refine ⟨lt_of_alive (show (nth m c).alive=true by simp [Ck.alive,hcl]),hon,.inl (.of_rows hcl ?_),fun w hok => ?_⟩
   · rw [zy,zt hi];exact List.getElem_mem hi
   simp only [Ck.ok,hcl] at hok
   have hcell:=hok.2 i hi F.off F.hoff
   rw [enc_flat (C F.te) _ noAd _ F.off F.hoff,F.enc] at hcell
   generalize (F.get (l.getD i (C F.te).dflt)).val=rv at hcell ⊢
   have h2:=run_loadVar (P:=P) (w:=w) (a:=(ads m c).at i F.off) hag (vs:=[rv]) 0 (fun h=>by cases h) (fun _=>by simp) (fun j u hj _ h2=>by
    have:j=0:=by simp at h2;omega
    subst this
    simp only [List.getElem?_cons_zero,Option.some.injEq] at hj
    subst hj
    simpa [Addr.add,ads] using hcell)
   simp only [uy] at h2
   simp [execOp,Instr.loadAt,h1,SV.va,Instr.sureAddr,h2]
 · rename_i t x k
   split at hf <;> try contradiction
   rename_i kt vt c kv hu hx hk
   split at hf <;> try contradiction
   rename_i tk tv l clk hc
   split at hf <;> try contradiction
   rename_i q F hF hb hq _
   split at hf <;> try contradiction
   rename_i hagg hsz
   simp only [Option.some.injEq] at hf
   subst hf
   obtain ⟨rfl,h0⟩:=hF
   simp only [zq] at hb
   have e1:=zp hb.1
   have e2:=zp hb.2
   subst e1;subst e2
   obtain ⟨hK,hZ,_⟩:=hp
   obtain ⟨hcc,hon⟩:=Ck.sure_ok hc (by simp)
   have ex:=ev_ok h hg ha _ _ hx
   have ek:=ev_ok h hg ha _ _ hk
   rw [← decV_ok hq (ads m)] at ek
   refine ⟨lt_of_alive (show (nth m c).alive=true by simp [Ck.alive,hcc]),hon,?_,fun w hok => ?_⟩
   · rcases mget_val (C kt) (C F.te) l q with ⟨e,he,h1⟩ | h1
     · refine .inl ?_
       rw [show (_:(C F.te).α)=e.2.1 from h1.symm]
       exact .of_mp hcc he
     · exact .inr h1
   simp only [Ck.ok,hcc] at hok
   have hr:=run_lookup hu hK hZ hok q false
   rw [if_neg (by simp)] at hr
   rw [packV_get F h0 hagg (zp hsz)] at hr
   rw [show (nth m c).block=(ads m c).block from rfl] at hr
   simp [execOp,ex,ek,SV.va,hr]
theorem famT_ok {P:Program} {S:Sx} {w0:World} {n:Nat} {fams:List (Fam C)} {tm:Tm} {m:List (Ck C)} {a:Act} (h:ActOK (ads m) n tm a) (hg:GlOK m) {al:List (Nat×Bool)} (ha:AlOK tm al) {o:Oper} {ht:FamHit C}
 (hf:famOf P fams tm m al o.op=some ht) {K:SV→List (Ck C)→Tr} (hK:(famT ht tm m K).holds):
 ∃ v m',(∀ w,MemOK S w0 w m→(execOp a.eval o).run P w=.ok (.value (v.va (ads m'))) w)∧(K v m').holds∧(∀ w,MemOK S w0 w m↔MemOK S w0 w m')∧ActOK (ads m') n tm a∧GlOK m'∧
   (m.length≤m'.length∧∀ k,k<m.length→ads m k=ads m' k∧nth m' k=nth m k):=by
 obtain ⟨F0,c0,as0,x0⟩:=ht
 unfold famT at hK
 split at hK <;> try exact hK.elim
 rename_i hlt
 simp only [zq] at hlt
 obtain ⟨hp,hK⟩:=(conj_iff _ _).1 hK
 have hK:=hK _ rfl
 obtain ⟨hc,hon,hx,hrun⟩:=famOf_run h hg ha hf hp
 have hx':(∃ c∈m,c.cells.Has F0.te x0)∨x0=(C F0.te).dflt:=hx.imp (fun hx=>⟨_,nth_mem hc,hx⟩) id
 refine ⟨_,_,fun w hm => ?_,hK,fun w=>⟨fun hm=>(hm.ghost hlt.1 F0 hx' rfl).1,MemOK.dropO hlt.1⟩,h.ads (ads_append m _) hlt.2,trivial,by simp,fun k hk=>⟨ads_append m _ k hk,by rw [nth_append,if_pos hk]⟩⟩
 rw [hrun w (hm.ok _ (nth_mem hc) hon),ghost_val _ m (hm.ghost hlt.1 F0 hx' rfl).2]
def frz:List (Ck C)→Nat→List (Ck C)
 | [],_=>[]
 | ⟨b,ba,sz,_,g,cs⟩ :: r,0=>⟨b,ba,sz,false,g,cs⟩ :: r
 | x :: r,c+1=>x :: frz r c
theorem length_frz:∀ (m:List (Ck C)) (c:Nat),(frz m c).length=m.length
 | [],_=>rfl
 | _ :: _,0=>rfl
 | x :: r,c+1=>by simp [frz,length_frz r c]
theorem nth_frz:∀ (m:List (Ck C)) (c k:Nat),nth (frz m c) k=if k=c∧c<m.length then { nth m c with wr:=false } else nth m k
 | [],c,k=>by simp [frz]
 | x :: r,0,k=>by
   cases k with
   | zero=>simp [frz,nth]
   | succ k=>simp [frz,nth]
 | x :: r,c+1,k=>by
   cases k with
   | zero=>simp [frz,nth]
   | succ k=>simp [frz,nth,nth_frz r c k]
theorem ads_frz (m:List (Ck C)) (c:Nat):ads (frz m c)=ads m:=by
 funext k
 simp only [ads,nth_frz]
 split
 · rename_i h;rw [h.1];rfl
 · rfl
theorem memLt_frz (n:Nat):∀ (m:List (Ck C)) (c:Nat),memLt n m=true→memLt n (frz m c)=true
 | [],_,h=>h
 | ⟨b,ba,sz,w,g,cs⟩ :: r,0,h=>h
 | x :: r,c+1,h=>by
   simp only [memLt,zq,frz] at h ⊢
   exact ⟨h.1,memLt_frz n r c h.2⟩
theorem MemOK.frz {S:Sx} {w0 w:World} {m:List (Ck C)} (h:MemOK S w0 w m) (c:Nat):MemOK S w0 w (frz m c):=by
 have hn:∀ k,(nth (Vx.frz m c) k).block=(nth m k).block∧(nth (Vx.frz m c) k).base=(nth m k).base∧(nth (Vx.frz m c) k).on=(nth m k).on∧(nth (Vx.frz m c) k).cells=(nth m k).cells∧((nth (Vx.frz m c) k).wr=true→(nth m k).wr=true)∧
  (nth (Vx.frz m c) k).live=(nth m k).live∧∀ w,Ck.ok (ads m) w (nth m k)→Ck.ok (ads m) w (nth (Vx.frz m c) k):=by
  intro k
  rw [nth_frz]
  split
  · rename_i e;rw [e.1];exact ⟨rfl,rfl,rfl,rfl,fun h=>by simp at h,rfl,fun _ h=>h⟩
  · exact ⟨rfl,rfl,rfl,rfl,id,rfl,fun _ h=>h⟩
 have hin:∀ x,x∈Vx.frz m c→∃ k,k<m.length∧nth (Vx.frz m c) k=x:=by
  intro x hx
  obtain ⟨k,hk,rfl⟩:=mem_nth hx
  rw [length_frz] at hk
  exact ⟨k,hk,rfl⟩
 refine ⟨h.os,h.tape,h.output,h.size,h.keep,?_,?_,?_,?_,?_,?_⟩
 · intro x hx hw ho hb
   obtain ⟨k,hk,rfl⟩:=hin x hx
   obtain ⟨e1,_,e3,_,e5,_⟩:=hn k
   rw [e1] at hb ⊢
   rw [e3] at ho
   exact h.inS _ (nth_mem hk) (e5 hw) ho hb
 · intro x hx ho
   obtain ⟨k,hk,rfl⟩:=hin x hx
   rw [(hn k).2.2.1] at ho
   rw [ads_frz]
   exact (hn k).2.2.2.2.2.2 w (h.ok _ (nth_mem hk) ho)
 · intro x hx hw hl a ha
   obtain ⟨k,hk,rfl⟩:=hin x hx
   obtain ⟨e1,_,_,_,e5,e6,_⟩:=hn k
   rw [e1] at ha
   rw [e6] at hl
   exact h.wrok _ (nth_mem hk) (e5 hw) hl a ha
 · intro i j hi hj hij hw hil hjl
   rw [length_frz] at hi hj
   rw [(hn i).1,(hn j).1]
   rw [(hn i).2.2.2.2.2.1] at hil
   rw [(hn j).2.2.2.2.2.1] at hjl
   exact h.apart i j hi hj hij ((hn i).2.2.2.2.1 hw) hil hjl
 · intro x hx ho
   obtain ⟨k,hk,rfl⟩:=hin x hx
   rw [(hn k).2.2.1] at ho
   rw [(hn k).1];exact h.lt _ (nth_mem hk) ho
 · refine h.more.mono h.inS (fun _ _ _=>rfl) (fun x hx hxl => ?_) h.size (zw _) (fun x hx => ?_)
   · obtain ⟨k,hk,rfl⟩:=hin x hx
     rw [(hn k).2.2.2.2.2.1] at hxl
     exact .inl ⟨_,nth_mem hk,hxl,(hn k).1.symm,(hn k).2.2.2.2.1⟩
   · obtain ⟨k,hk,rfl⟩:=hin x hx
     rw [(hn k).2.2.2.1]
     exact CsIn.self (nth_mem hk) (hn k).2.2.2.2.1
inductive FamSrc (C:Nat→Codec) (t:Nat) where
 | nils
 | sl (k i n mm:Nat) (l:List (C t).α)
structure FamWHit (C:Nat→Codec) where
 F:FamW C
 s:FamSrc C F.t
def famWOf (P:Program) (famw:List (FamW C)) (tm:Tm) (m:List (Ck C)) (al:List (Nat×Bool)) (o:Op):Option (FamWHit C):=
 match famw with
 | []=>none
 | _ :: _=>match o with
   | .buildSlice t len ps=>match zi len 1,P.underlying t,ps.toList with
     | true,some (.slice e),[(0,x)]=>match findFamW e famw with
       | some ⟨F,_⟩=>match ev tm m al x with
         | some .nils=>some ⟨F,.nils⟩
         | some (.sl k i n mm)=>match (nth m k).cells with
           | .rows t' l=>if h':t'=F.t then some ⟨F,.sl k i n mm (castL h' l)⟩ else none
           | _=>none
         | _=>none
       | none=>none
     | _,_,_=>none
   | _=>none
def famWT (P:Program) (h:FamWHit C) (tm:Tm) (m:List (Ck C)) (K:SV→List (Ck C)→Tr):Tr:=
 match memLt m.length m && tmLt m.length tm && zeroOK P (C h.F.te) h.F.te with
 | false=>.no
 | true=>match h.s with
   | .nils=>.all fun b=>K (.sl m.length 0 1 1) (m ++ [⟨b,0,(C h.F.te).sz,true,none,.rows h.F.te [h.F.put Rw.nil]⟩])
   | .sl k i n mm l=>match (nth m k).wr with
     | true=>.and (.lf (i+n≤l.length)) (conj ((nth m k).orNil n mm) (.all fun b=>K (.sl m.length 0 1 1) (Vx.frz m k ++ [⟨b,0,(C h.F.te).sz,true,none,.rows h.F.te [h.F.put ⟨(nth m k).on,(nth m k).block,(nth m k).base+i*(nth m k).sz,mm,(l.drop i).take n⟩]⟩])))
     | false=>.no
theorem famWT_ok {P:Program} {S:Sx} {w0 w:World} {n:Nat} {famw:List (FamW C)} {tm:Tm} {m:List (Ck C)} {a:Act} (h:ActOK (ads m) n tm a) (hm:MemOK S w0 w m) {al:List (Nat×Bool)} (ha:AlOK tm al) {o:Oper} {ht:FamWHit C}
 (hf:famWOf P famw tm m al o.op=some ht) {K:SV→List (Ck C)→Tr} (hK:(famWT P ht tm m K).holds):Left P S w0 tm m w (execOp a.eval o) K:=by
 obtain ⟨dst,op,ty,pos,after,g⟩:=o
 unfold famWOf at hf
 simp only at hf
 split at hf <;> try contradiction
 split at hf <;> try contradiction
 rename_i t len ps
 split at hf <;> try contradiction
 rename_i e x hlen hu hps
 have hlen:=zp hlen
 subst hlen
 split at hf <;> try contradiction
 rename_i F hF _
 subst hF
 have hps':ps = #[(0,x)]:=by apply wd;simpa using hps
 subst hps'
 -- the making itself, whatever is laid
 have hbuild:∀ (r:Rw (C F.t).α),zeroOK P (C F.te) F.te=true→a.eval x=r.val→
  (execOp a.eval ⟨dst,.buildSlice t 1 #[(0,x)],ty,pos,after,g⟩).run P w=.ok (.value (.slice (some ⟨w.heap.size,0,none⟩) 1 1)) (w.alloc (.cells #[r.val] F.te)):=by
  intro r hz hx
  obtain ⟨i,z,hi,hz,hzz,hsz,hn0,hzs⟩:=zeroOK_ok hz
  have hso:(sizeOf F.te).run P w=.ok 1 w:=by simp [sizeOf,typeInfo,hi,hsz,F.sz]
  have hvc:r.val.cells = #[r.val]:=by unfold Rw.val;split <;> rfl
  have hzs1:z.cells.size=1:=by rw [hzs,F.sz]
  have hrange:(Array.range 1).map (z.cells[· % z.cells.size]!) = #[z.cells[0 % z.cells.size]!]:=by
   apply wd
   simp [List.range_succ]
  have hfill:Instr.fill (fun i=>some (i,1)) #[z.cells[0 % z.cells.size]!] [(0,r.val)]=some #[r.val]:=by
   simp [Instr.fill,hvc]
  simp [execOp,Instr.buildSlice,run_underlying' hu,hso,zeroValue,typeInfo,hi,hz,newRow,hx]
  rw [hrange,hfill]
  simp
 have hblk0:w.heap.size=w.heap.size:=rfl
 split at hf <;> try contradiction
 · rename_i hx
   simp only [Option.some.injEq] at hf
   subst hf
   unfold famWT at hK
   split at hK <;> try exact hK.elim
   rename_i hc
   simp only [zq] at hc
   obtain ⟨⟨c1,c2⟩,c3⟩:=hc
   have hxv:=ev_ok h hm.glob ha _ _ hx
   have hb:=hbuild Rw.nil c3 (by rw [hxv];rfl)
   have hgood:∀ w',(C F.te).good w' (F.put Rw.nil):=fun w'=>F.good w' _ ⟨rfl,rfl⟩
   have hbl:(C F.te).blks (F.put Rw.nil)=[]:=F.blks _
   refine ⟨_,_,_,.inl ?_,hm.newO' c1 (.cells #[Rw.nil.val (α:=(C F.t).α)] F.te) (fun w a hw=>by simp [World.frozen?,hw]) (C F.te).sz (.rows F.te [F.put Rw.nil]) none rfl ?_ ?_,hK w.heap.size,ads_append _ _,by simp,.inr c2⟩
   · have:ads (m ++ [(⟨w.heap.size,0,(C F.te).sz,true,none,.rows F.te [F.put Rw.nil]⟩:Ck C)]) m.length=⟨w.heap.size,0,(C F.te).sz,true⟩:=ads_append_new _ _
     rw [hb];simp [SV.va,this,Ad.at]
   · refine ⟨rfl,fun i hi f hf => ?_⟩
     simp only [vu] at hi
     have hi0:i=0:=by omega
     have hf0:f=0:=by have:=F.sz;omega
     subst hi0 hf0
     rw [enc_flat (C F.te) _ noAd _ 0 (by have:=F.sz;omega)]
     simp only [uy,F.enc]
     show (w.alloc _).cell? ⟨w.heap.size,0+(0*_+0),none⟩=_
     rw [cell?_alloc]
     simp
   · intro t' y hy
     obtain ⟨rfl,hy⟩:=hy.inv
     rw [List.mem_singleton.1 hy]
     exact .inr ⟨hgood _,fun b hb=>by rw [hbl] at hb;cases hb⟩
 · rename_i k i nn mm hx
   split at hf <;> try contradiction
   rename_i t' l hcl
   split at hf <;> try contradiction
   rename_i htt
   subst htt
   simp only [Option.some.injEq] at hf
   subst hf
   unfold famWT at hK
   split at hK <;> try exact hK.elim
   rename_i hc
   simp only [zq] at hc
   obtain ⟨⟨c1,c2⟩,c3⟩:=hc
   have hcast:castL rfl l=l:=rfl
   simp only [hcast] at hK
   split at hK <;> try exact hK.elim
   rename_i hwr
   obtain ⟨hlen,hK⟩:=hK
   have hlen:i+nn≤l.length:=hlen
   obtain ⟨hnil,hK⟩:=(conj_iff _ _).1 hK
   have hnil:=Ck.orNil_ok hnil
   have hxv:=ev_ok h hm.glob ha _ _ hx
   have hk:k<m.length:=lt_of_alive (show (nth m k).alive=true by simp [Ck.alive,hcl])
   generalize hr:(⟨(nth m k).on,(nth m k).block,(nth m k).base+i*(nth m k).sz,mm,(l.drop i).take nn⟩:Rw (C F.t).α)=r at hK
   have hrl:r.l.length=nn:=by rw [← hr];simp;omega
   have hro0:r.on=(nth m k).on:=by rw [← hr]
   have hrv:a.eval x=r.val:=by
    rw [hxv]
    rcases hnil with hon | ⟨hon,rfl,rfl⟩
    · have e:((l.drop i).take nn).length=nn:=by simp;omega
      have hao:(ads m k).on=true:=hon
      rw [← hr]
      simp only [SV.va,hao,cond_true,Rw.val,hon,e]
      simp [ads,Ck.ad,Ad.at]
    · have hao:(ads m k).on=false:=hon
      rw [← hr]
      simp only [SV.va,hao,cond_false,Rw.val,hon]
   have hb:=hbuild r c3 hrv
   have hrb:r.blks=bif (nth m k).on then [(nth m k).block] else []:=by
    rw [← hr];unfold Rw.blks
    cases (nth m k).on <;> rfl
   have hro:∀ w',((nth m k).on=true→w'.heap[(nth m k).block]? = w.heap[(nth m k).block]?)→Rw.ok (C F.t) w' r:=by
    intro w' hw'
    rcases hnil with hon | ⟨hon,rfl,rfl⟩
    · refine Rw.ok_keep _ w w' r (fun b hb=>by rw [hrb,hon] at hb;rw [List.mem_singleton.1 hb];exact hw' hon) ?_
      have hok:=hm.ok _ (nth_mem hk) hon
      simp only [Ck.ok,hcl] at hok
      obtain ⟨hsz,hok⟩:=hok
      rw [← hr]
      unfold Rw.ok
      simp only [hon]
      intro j hj f hf
      simp only [ze,wk] at hj
      have:=hok (i+j) (by omega) f hf
      have e1:((l.drop i).take nn).getD j (C F.t).dflt=l.getD (i+j) (C F.t).dflt:=by
       simp only [zy]
       rw [yn (by omega),vp]
      rw [e1]
      have e2:(nth m k).ad.at (i+j) f=⟨(nth m k).block,(nth m k).base+i*(nth m k).sz+(j*(C F.t).sz+f),none⟩:=by
       simp only [Ck.ad,Ad.at,hsz,wn];congr 1;omega
      rw [← e2,this]
      rw [enc_flat (C F.t) (ads m) noAd _ f hf]
    · rw [← hr]
      unfold Rw.ok
      simp [hon]
   have hlt:=hm.lt _ (nth_mem hk)
   have hmf:=hm.frz k
   have hadsn:∀ (x:Ck C),ads (Vx.frz m k ++ [x]) m.length=x.ad:=by
    intro x
    have:=ads_append_new (Vx.frz m k) x
    rwa [length_frz] at this
   refine ⟨_,_,_,.inl ?_,hmf.newO' (by rw [length_frz];exact memLt_frz _ _ _ c1) (.cells #[r.val] F.te) (fun w a hw=>by simp [World.frozen?,hw]) (C F.te).sz (.rows F.te [F.put r]) none rfl ?_ ?_,hK w.heap.size,fun j hj => ?_,by simp [length_frz],.inr c2⟩
   · rw [hb];simp [SV.va,hadsn,Ck.ad,Ck.on,Ad.at]
   · refine ⟨rfl,fun j hj f hf => ?_⟩
     simp only [vu] at hj
     have hi0:j=0:=by omega
     have hf0:f=0:=by have:=F.sz;omega
     subst hi0 hf0
     rw [enc_flat (C F.te) _ noAd _ 0 (by have:=F.sz;omega)]
     simp only [uy,F.enc]
     show (w.alloc _).cell? ⟨w.heap.size,0+(0*_+0),none⟩=_
     rw [cell?_alloc]
     simp
   · intro t' y hy
     obtain ⟨rfl,hy⟩:=hy.inv
     rw [List.mem_singleton.1 hy]
     refine .inr ⟨F.good _ _ (hro _ fun hon=>heap_alloc_lt w _ (hlt hon)),fun b hb => ?_⟩
     rw [F.blks,hrb] at hb
     cases hon:(nth m k).on with
     | false=>rw [hon] at hb;cases hb
     | true=>
     rw [hon] at hb
     rw [List.mem_singleton.1 hb]
     have hlt:=hlt hon
     have hlive:(nth m k).live=true:=by simp [Ck.live,Ck.alive,hcl,hon]
     refine ⟨by simp;omega,fun hb0=>.inl (hm.inS _ (nth_mem hk) hwr hon hb0),fun c' hc' hw' hl' => ?_,fun p hp => ?_⟩
     · rcases List.mem_append.1 hc' with hc' | hc'
       · obtain ⟨j,hj,rfl⟩:=mem_nth hc'
         rw [length_frz] at hj
         rw [nth_frz] at hw' hl' ⊢
         split at hw'
         · simp at hw'
         · rename_i hne
           rw [if_neg hne] at hl' ⊢
           exact hm.apart j k hj hk (fun e=>hne ⟨e,hk⟩) hw' hl' hlive
       · rw [List.mem_singleton.1 hc']
         exact fun e=>absurd hlt (by simp only at e;omega)
     · exact ((hm.more.pin p hp).2.2 _ (nth_mem hk) hlive).symm
   · rw [← ads_append _ _ j (by rw [length_frz];exact hj),ads_frz]
end Go.Vx
namespace Go.Vx
open Go
variable {C:Nat→Codec}
@[irreducible] def bytesOf (c:Codec) (l:List c.α):List Int:=l.map fun x=>match c.enc x with
  | [.int _ n]=>n
  | _=>0
@[irreducible] def strOf (ns:List Int):ByteArray:=ns.foldl (fun r n=>r.push (UInt8.ofNat n.toNat)) ByteArray.empty
@[irreducible] def strEq (a b:ByteArray):Bool:=a.toList == b.toList
def strQ (P:Program) (tm:Tm) (m:List (Ck C)) (al:List (Nat×Bool)) (o:Op):Ans:=
 match o with
 | .convert s d x=>match P.underlying s,P.underlying d,ev tm m al x with
   | some (.slice e),some .string,some .nils=>match P.underlying e with
     | some (.int .u8)=>some ([],.val (.string (strOf [])))
     | _=>none
   | some (.slice e),some .string,some (.sl c i n _)=>match P.underlying e,(nth m c).cells with
     | some (.int .u8),.rows t l=>match zi (C t).sz 1 with
       | true=>some ((nth m c).orNil n n ++ [i+n≤l.length∧∀ x,∃ k,(C t).enc x=[.int .u8 k]],.val (.string (strOf (bytesOf (C t) ((l.drop i).take n)))))
       | false=>none
     | _,_=>none
   | _,_,_=>none
 | .binOp .eql t x y _=>match P.underlying t,ev tm m al x,ev tm m al y with
   | some .string,some (.val (.string a)),some (.val (.string b))=>some ([],.bool (.tm (strEq a b)))
   | _,_,_=>none
 | _=>none
theorem strQ_ok {P:Program} {S:Sx} {w0 w:World} {n:Nat} {tm:Tm} {m:List (Ck C)} {a:Act} (h:ActOK (ads m) n tm a) (hm:MemOK S w0 w m) {al:List (Nat×Bool)} (ha:AlOK tm al) {o:Oper} {ps:List Prop} {r:SV}
 (hl:strQ P tm m al o.op=some (ps,r)) (hp:allOf ps):(execOp a.eval o).run P w=.ok (.value (r.va (ads m))) w:=by
 obtain ⟨dst,op,type,pos,after,guard⟩:=o
 simp only at hl
 cases op <;> simp only [strQ] at hl <;> try contradiction
 case convert s d x=>
  split at hl <;> try contradiction
  · rename_i e hs hd hx
    split at hl <;> try contradiction
    rename_i he
    simp only [Option.some.injEq,Prod.mk.injEq] at hl
    obtain ⟨rfl,rfl⟩:=hl
    have ex:=ev_ok h hm.glob ha _ _ hx
    have:=run_convert_bytes_string (P:=P) w s d e none 0 0 hs he hd
    simp only [execOp,ex,SV.va,Sem.run_bind,this,Conv.bytesToString,Sem.run_pure,Result.andThen_ok]
    simp [strOf]
  · rename_i e c i n' m' hs hd hx
    split at hl <;> try contradiction
    rename_i t l he hcl
    split at hl <;> try contradiction
    rename_i hsz
    have hsz:=zp hsz
    simp only [Option.some.injEq,Prod.mk.injEq] at hl
    obtain ⟨rfl,rfl⟩:=hl
    obtain ⟨hp0,⟨hlen,henc⟩,_⟩:=(allOf_append _ _).1 hp
    have ex:=ev_ok h hm.glob ha _ _ hx
    rcases Ck.orNil_ok hp0 with hon | ⟨hon,rfl,_⟩
    · have hao:(ads m c).on=true:=hon
      have hb:=run_convert_bytes_string (P:=P) w s d e (some ((ads m c).at i 0)) n' m' hs he hd
      have hc:=lt_of_alive (show (nth m c).alive=true by simp [Ck.alive,hcl])
      have hok:=hm.ok _ (nth_mem hc) hon
      simp only [Ck.ok,hcl] at hok
      obtain ⟨hcs,hok⟩:=hok
      have hrd:=read_rows hm hcl hon hlen (by omega)
      have hvals:∀ l':List (C t).α,(flatSV (C t) l').map (SV.va (ads m))=(bytesOf (C t) l').map (Value.int .u8):=by
       intro l'
       induction l' with
       | nil=>unfold bytesOf;rfl
       | cons y l' ih=>
         obtain ⟨k,hk⟩:=henc y
         have:bytesOf (C t) (y :: l')=k :: bytesOf (C t) l':=by unfold bytesOf;simp [hk]
         rw [this]
         simp only [flatSV,hk,vq,List.map_cons,List.map_nil,ih,SV.va,List.cons_append,rz]
      rw [hvals] at hrd
      have hlb:(bytesOf (C t) ((l.drop i).take n')).length=n':=by unfold bytesOf;simp;omega
      have hld:(loadCells ((ads m c).at i 0) n').run P w=.ok ((bytesOf (C t) ((l.drop i).take n')).map (Value.int .u8)).toArray w:=by
       have:=run_loadCells_list (P:=P) w ((ads m c).at i 0) ((bytesOf (C t) ((l.drop i).take n')).map (Value.int .u8)) (fun j v hj=>hrd j v hj)
       rw [zn,hlb] at this
       exact this
      have hs2:=run_bytesToString (P:=P) w _ n' m' _ hld
      simp only [execOp,ex,SV.va,hao,cond_true,Sem.run_bind,hb,hs2,Result.andThen_ok]
      simp [strOf]
    · have hao:(ads m c).on=false:=hon
      have hb:=run_convert_bytes_string (P:=P) w s d e none 0 m' hs he hd
      simp only [execOp,ex,SV.va,hao,cond_false,Sem.run_bind,hb,Conv.bytesToString,Sem.run_pure,Result.andThen_ok]
      simp [strOf,bytesOf]
 case binOp bo t x y yt=>
  cases bo <;> simp only [strQ] at hl <;> try contradiction
  split at hl <;> try contradiction
  rename_i ht hx hy
  simp only [Option.some.injEq,Prod.mk.injEq] at hl
  obtain ⟨rfl,rfl⟩:=hl
  have ex:=ev_ok h hm.glob ha _ _ hx
  have ey:=ev_ok h hm.glob ha _ _ hy
  simp [execOp,ex,ey,SV.va,binOp,Op.stringOp,SB.val,eqGuard,strEq]
end Go.Vx
namespace Go.Vx
open Go
variable {C:Nat→Codec}
theorem MemOK.turn {S:Sx} {w0 w w':World} {m:List (Ck C)} (h:MemOK S w0 w m) {B:Nat} (hB:Blk S w0 w m true B) (heap:∀ k,k≠B→w'.heap[k]? = w.heap[k]?) (hsz:w'.heap.size=w.heap.size)
 (hos:w'.os=w.os) (htp:w'.tape=w.tape∧w.drawn≤w'.drawn) (hout:w'.output=w.output) (hfz:∀ a,w'.frozen? a=w.frozen? a) (hb:∀ c∈m,c.live=true→c.block≠B)
 (hd:∀ c∈m,∀ t x,c.cells.Has t x→B∉(C t).blks x∨(C t).good w' x):MemOK S w0 w' m:=by
 have hold:∀ k,k<w0.heap.size→¬ S.set k→k≠B:=by
  rintro k hk hn rfl
  rcases hB.old hk with h1 | ⟨h1,_⟩
  · exact hn h1
  · cases h1
 refine ⟨hos.trans h.os,⟨htp.1.trans h.tape.1,xl h.tape.2 htp.2⟩,hout.trans h.output,by rw [hsz];exact h.size,fun k hk hn => ?_,h.inS,fun c hc ho => ?_,fun c hc hw hl a ha => ?_,h.apart,fun c hc ho=>by rw [hsz];exact h.lt c hc ho,?_⟩
 · rw [heap k (hold k hk hn)];exact h.keep k hk hn
 · cases hl:c.alive with
   | false=>unfold Ck.alive at hl;unfold Ck.ok;split at hl <;> simp_all
   | true=>exact Ck.ok_same (h.ok c hc ho) (heap _ (hb c hc (Ck.live_iff.2 ⟨hl,ho⟩)))
 · rw [hfz];exact h.wrok c hc hw hl a ha
 · refine ⟨fun g v hv => ?_,fun g p hp => ?_,fun p hp => ?_,h.more.nod,fun c hc t x hx => ?_⟩
   · obtain ⟨h1,h2,h3⟩:=h.more.gv g v hv
     exact ⟨(World.cell?_of_block (w:=w) (a:=⟨g,0,none⟩) (heap g (hold g h2 h3))).trans h1,h2,h3⟩
   · obtain ⟨h1,h2,h3⟩:=h.more.gp g p hp
     exact ⟨(heap _ (hold _ h2 h3)).trans h1,h2,h3⟩
   · obtain ⟨h1,h2,h3⟩:=h.more.pin p hp
     exact ⟨(heap _ (hB.pin p hp)).trans h1,h2,h3⟩
   · obtain ⟨g1,g2⟩:=h.more.deep c hc t x hx
     refine ⟨?_,fun b hb' => ?_⟩
     · rcases hd c hc t x hx with h1 | h1
       · exact (C t).good_keep w w' x (fun b hb'=>heap b (fun e=>h1 (e ▸ hb'))) g1
       · exact h1
     · obtain ⟨k1,k2,k3,k4⟩:=g2 b hb'
       exact ⟨by rw [hsz];exact k1,k2,k3,k4⟩
def ckOff (b:Nat) (x:Ck C):List Prop:=
 (match x.cells with
 | .dead=>[]
 | _=>match x.gl with
   | none=>[x.block≠b]
   | some o=>[o=true→x.block≠b])
def ckOffD (b:Nat) (x:Ck C):List Prop:=
 (match x.cells with
 | .rows t l=>match (C t).deep with
   | true=>[∀ y∈l,b∉(C t).blks y]
   | false=>[]
 | .mp _ t l _=>match (C t).deep with
   | true=>[∀ e∈l,b∉(C t).blks e.2.1]
   | false=>[]
 | _=>[])
def freshL (b:Nat):List (Ck C)→List Prop
 | []=>[]
 | x :: r=>ckOff b x ++ (ckOffD b x ++ freshL b r)
theorem ckOff_of {b:Nat} {x:Ck C} (h:x.live=true→x.block≠b):allOf (ckOff b x):=by
 unfold ckOff
 cases hc:x.cells <;> simp only [] <;> first | trivial | skip
 all_goals
  have ha:x.alive=true:=by simp [Ck.alive,hc]
  cases hg:x.gl with
  | none=>exact ⟨h (Ck.live_iff.2 ⟨ha,by simp [Ck.on,hg]⟩),trivial⟩
  | some o=>exact ⟨fun ho=>h (Ck.live_iff.2 ⟨ha,by simp [Ck.on,hg,ho]⟩),trivial⟩
theorem ckOffD_of {b:Nat} {x:Ck C} (h:∀ t y,x.cells.Has t y→b∉(C t).blks y):allOf (ckOffD b x):=by
 unfold ckOffD
 cases hc:x.cells <;> simp only [] <;> first | trivial | skip
 · split
   · exact ⟨fun y hy=>h _ y (.of_rows hc hy),trivial⟩
   · trivial
 · split
   · exact ⟨fun e he=>h _ e.2.1 (.of_mp hc he),trivial⟩
   · trivial
theorem freshL_of {b:Nat}:∀ {m:List (Ck C)},(∀ x∈m,x.live=true→x.block≠b)→(∀ x∈m,∀ t y,x.cells.Has t y→b∉(C t).blks y)→allOf (freshL b m)
 | [],_,_=>trivial
 | x :: r,h1,h2=>(allOf_append _ _).2 ⟨ckOff_of (h1 x (by simp)),(allOf_append _ _).2 ⟨ckOffD_of (h2 x (by simp)),freshL_of (fun y hy=>h1 y (yw _ hy)) fun y hy=>h2 y (yw _ hy)⟩⟩
theorem Blk.ofBlocks {S:Sx} {w0 w w':World} {m m':List (Ck C)} {o:Bool} {b:Nat} (h:Blk S w0 w m o b) (hsz:w.heap.size≤w'.heap.size) (hm:∀ c∈m',c.wr=true→c.live=true→c∈m∨c.block≠b):Blk S w0 w' m' o b:=
 ⟨zk h.lt hsz,h.old,fun c hc hw hl=>(hm c hc hw hl).elim (fun hc=>h.no c hc hw hl) id,h.pin⟩
theorem MemOK.know {S:Sx} {w0 w:World} {m:List (Ck C)} (h:MemOK S w0 w m) (hl:memLt m.length m=true) (F:Fam C) {p:Rw (C F.t).α→(C F.te).α} (hp:F.put=some p) {r:Rw (C F.t).α} (hon:r.on=true) (hg:Gw.ok (C F.t) w r) (hB:Blk S w0 w m true r.b):
 MemOK S w0 w (m ++ [⟨r.b,r.base,(C F.t).sz,false,none,.rows F.t r.l⟩,⟨0,0,1,true,some false,.rows F.te [p r]⟩]):=by
 have hG:=F.gro p hp
 have h1:=h.ghostB hl F.flat hg.1 hon hB none
 have e:m ++ [(⟨r.b,r.base,(C F.t).sz,false,none,.rows F.t r.l⟩:Ck C),⟨0,0,1,true,some false,.rows F.te [p r]⟩]=(m ++ [⟨r.b,r.base,(C F.t).sz,false,none,.rows F.t r.l⟩]) ++ [⟨0,0,1,true,some false,.rows F.te [p r]⟩]:=by simp
 rw [e]
 have hl1:memLt (m ++ [(⟨r.b,r.base,(C F.t).sz,false,none,.rows F.t r.l⟩:Ck C)]).length (m ++ [⟨r.b,r.base,(C F.t).sz,false,none,.rows F.t r.l⟩])=true:=memLt_app (memLt_mono (by simp) hl) (by simp [memLt,Ck.lt])
 refine h1.off' hl1 rfl fun t y hy => ?_
 obtain ⟨rfl,hy⟩:=hy.inv
 have hy:y∈[p r]:=hy
 rw [List.mem_singleton.1 hy]
 refine .inr ⟨hG.good w r hg,fun b hb => ?_⟩
 rw [hG.blks] at hb
 have hb:b=r.b:=by simpa [Rw.blks,hon] using hb
 subst hb
 refine (hB.weak (o':=(C F.te).own && true) fun _=>rfl).ofBlocks (zw _) fun c hc hw hlv => ?_
 rcases List.mem_append.1 hc with hc | hc
 · rcases List.mem_append.1 hc with hc | hc
   · exact .inl hc
   · rw [List.mem_singleton.1 hc] at hw;cases hw
 · rw [List.mem_singleton.1 hc] at hlv
   exact absurd (Ck.live_iff.1 hlv).2 (by simp [Ck.on])
theorem MemOK.made {S:Sx} {w0 w:World} {m:List (Ck C)} {t b:Nat} {l sp:List (C t).α} (h:MemOK S w0 w (m ++ [⟨b,0,(C t).sz,true,none,.rows t (l ++ sp)⟩])):
 Gw.ok (C t) w ⟨true,b,0,l.length+sp.length,l⟩∧Blk S w0 w m true b∧allOf (freshL b m):=by
 have hme:(⟨b,0,(C t).sz,true,none,.rows t (l ++ sp)⟩:Ck C)∈m ++ [⟨b,0,(C t).sz,true,none,.rows t (l ++ sp)⟩]:=by simp
 have hlive:(⟨b,0,(C t).sz,true,none,.rows t (l ++ sp)⟩:Ck C).live=true:=rfl
 have hok:=h.ok _ hme rfl
 have hen:nth (m ++ [(⟨b,0,(C t).sz,true,none,.rows t (l ++ sp)⟩:Ck C)]) m.length=⟨b,0,(C t).sz,true,none,.rows t (l ++ sp)⟩:=by rw [nth_append,if_neg (Nat.lt_irrefl _),if_pos rfl]
 have hno:∀ c∈m,c.live=true→c.block≠b:=by
  intro c hc hcl
  obtain ⟨j,hj,rfl⟩:=mem_nth hc
  have:=h.apart m.length j (by simp) (by simp;omega) (by omega)
  rw [hen,nth_append,if_pos hj] at this
  exact (this rfl hlive hcl).symm
 refine ⟨⟨?_,fun _=>⟨by simp,fun j hj => ?_,fun a ha=>h.wrok _ hme rfl hlive a ha⟩⟩,⟨h.lt _ hme rfl,fun hb=>.inl (h.inS _ hme rfl rfl hb),fun c hc _ hcl=>hno c hc hcl,fun q hq e => ?_⟩,freshL_of hno fun c hc t' y hy hb => ?_⟩
 · unfold Rw.ok
   simp only
   intro i hi f hf
   have:=hok.2 i (by simp;omega) f hf
   have e:(l ++ sp).getD i (C t).dflt=l.getD i (C t).dflt:=by
    rw [zy,yx hi,← zy]
   rw [e,enc_flat (C t) _ noAd _ f hf] at this
   simpa [Ck.ad,Ad.at] using this
 · have hj:j<(l.length+sp.length)*(C t).sz:=hj
   have hpos:0<(C t).sz:=by
    rcases Nat.eq_zero_or_pos (C t).sz with e | e
    · rw [e] at hj;simp at hj
    · exact e
   have hd:j / (C t).sz<(l ++ sp).length:=by
    rw [zx]
    exact sc (by rw [xn];exact hj)
   have:=hok.2 _ hd (j % (C t).sz) (yv _ hpos)
   have hdm:=qp j (C t).sz
   have e:(⟨b,0,(C t).sz,true,none,.rows t (l ++ sp)⟩:Ck C).ad.at (j / (C t).sz) (j % (C t).sz)=⟨b,0+j,none⟩:=by
    simp only [Ck.ad,Ad.at]
    congr 1
    rw [xn];omega
   rw [e] at this
   rw [this];rfl
 · obtain ⟨_,_,h3⟩:=h.more.pin q hq
   exact h3 _ hme hlive e.symm
 · exact (((h.more.deep c (uq _ hc) t' y hy).2 b hb).no _ hme rfl hlive) rfl
end Go.Vx
