/-
  The symbolic evaluator, eleventh part: append.
  The symbolic evaluator, twelfth part: a call, az a change of the chunks.
  The symbolic evaluator, thirteenth part: the chunks ahead of a call and behind it.
  The symbolic evaluator: values and chunks written out before they are used again.
  The symbolic evaluator: maps: look-ups, updates, deletions, lengths; new ones; iterators over them.
  Conditions: none.
-/
import Derived.Test.YtfjogcklhibboaaGreatDoorM1
import Derived.Lib.AppendZerosOnto
import Derived.RangeFuncRecord
import Derived.Laws.StructEq
open Array renaming ext' → xm, getElem?_toList → vp, toList_filter → qf
open Bool renaming and_eq_true → zn, false_eq_true → we, not_eq_true' → yp
open List renaming append_assoc → wt, append_nil → vj, drop_append_of_le_length → qh, drop_of_length_le → sg, ext_getElem? → re, findIdx?_cons → ny, getD → xg, getD_eq_getElem?_getD → zy, getElem?_append_left → zf, getElem?_append_right → yi, getElem?_drop → wd, getElem?_eq_getElem → zt, getElem?_eq_none → yr, getElem?_map → zh, getElem?_replicate → uz, getElem?_take_of_lt → yf, length_append → zu, length_cons → xq, length_map → zm, length_replicate → ye, map_append → vk, map_cons → wx, mem_cons_of_mem → yv, mem_of_mem_drop → wk, mem_of_mem_take → xu, modify_succ_cons → qq, replicate → zw
open Nat renaming add_mul → yj, add_zero → yx, beq → zj, blt → xz, blt_eq → uk, div_add_mod → uc, div_lt_of_lt_mul → vb, eq_of_beq_eq_true → zp, le_mul_of_pos_right → oz, le_refl → zx, le_trans → xk, lt_of_lt_of_le → zk, lt_or_ge → vu, mod_lt → zc, mul_comm → xn, mul_le_mul_right → xr, ne_of_beq_eq_false → xl, sub_zero → uh, zero_add → wo
open Option renaming map_some → yk
set_option linter.unusedVariables false
set_option linter.unusedSimpArgs false
set_option linter.unusedSectionVars false
namespace Go.Vx
open Go
variable {C:Nat→Codec}
theorem MemOK.kill {S:Sx} {w0 w:World} {m:List (Ck C)} (h:MemOK S w0 w m) (c:Nat):MemOK S w0 w (setCk m c .dead):=by
 have hnth:∀ k,(nth (setCk m c .dead) k).block=(nth m k).block∧(nth (setCk m c .dead) k).wr=(nth m k).wr∧((nth (setCk m c .dead) k).live=true→(nth m k).live=true):=by
  intro k
  rw [nth_setCk]
  split
  · rename_i e;rw [e.1];exact ⟨rfl,rfl,fun h=>by simp [Ck.live,Ck.alive] at h⟩
  · exact ⟨rfl,rfl,id⟩
 have hmore:More S w0 w (setCk m c .dead):=by
  refine h.more.mono h.inS (fun _ _ _=>rfl) (fun x hx hxl => ?_) h.size (zx _) (fun x hx => ?_)
  · rcases mem_setCk hx with ⟨k,hk,_,rfl⟩ | ⟨_,rfl⟩
    · exact .inl ⟨_,nth_mem hk,hxl,rfl,id⟩
    · simp [Ck.live,Ck.alive] at hxl
  · rcases mem_setCk hx with ⟨k,hk,_,rfl⟩ | ⟨_,rfl⟩
    · exact CsIn.self (nth_mem hk)
    · exact CsIn.other (fun _ _ e=>by cases e) (fun _ _ _ _ e=>by cases e)
 have hon:∀ k,(nth (setCk m c .dead) k).on=(nth m k).on:=by
  intro k
  rw [nth_setCk]
  split
  · rename_i e;rw [e.1];rfl
  · rfl
 refine ⟨h.os,h.tape,h.output,h.size,?_,?_,?_,?_,?_,?_,hmore⟩
 · exact h.keep
 · intro x hx hxw hxo hxb
   rcases mem_setCk hx with ⟨k,hk,_,rfl⟩ | ⟨hc,rfl⟩
   · exact h.inS _ (nth_mem hk) hxw hxo hxb
   · exact h.inS (nth m c) (nth_mem hc) hxw hxo hxb
 · intro x hx hxo
   rw [ads_setCk]
   rcases mem_setCk hx with ⟨k,hk,_,rfl⟩ | ⟨_,rfl⟩
   · exact h.ok _ (nth_mem hk) hxo
   · trivial
 · intro x hx hxw hxl a ha
   rcases mem_setCk hx with ⟨k,hk,_,rfl⟩ | ⟨_,rfl⟩
   · exact h.wrok _ (nth_mem hk) hxw hxl a ha
   · simp [Ck.live,Ck.alive] at hxl
 · intro i j hi hj hij hiw hil hjl
   rw [length_setCk] at hi hj
   rw [(hnth i).1,(hnth j).1]
   rw [(hnth i).2.1] at hiw
   exact h.apart i j hi hj hij hiw ((hnth i).2.2 hil) ((hnth j).2.2 hjl)
 · intro x hx hxo
   rcases mem_setCk hx with ⟨k,hk,_,rfl⟩ | ⟨hc,rfl⟩
   · exact h.lt _ (nth_mem hk) hxo
   · exact h.lt (nth m c) (nth_mem hc) hxo
theorem setCk_app:∀ (m:List (Ck C)) (x:Ck C) (c:Nat) (cs:Cells C),c<m.length→setCk (m ++ [x]) c cs=setCk m c cs ++ [x]
 | [],_,_,_,h=>by simp at h
 | y :: r,x,0,cs,_=>by simp [setCk0]
 | y :: r,x,c+1,cs,h=>by
   have:=setCk_app r x c cs (by simpa using h)
   simp [setCkS,this]
theorem MemOK.move {S:Sx} {w0 w:World} {m:List (Ck C)} (h:MemOK S w0 w m) (hlt:memLt m.length m=true) {c:Nat} {t:Nat} {l:List (C t).α} (hcl:(nth m c).cells=.rows t l) (hw:(nth m c).wr=true) (hon:(nth m c).on=true) (g:Option Bool) (hg:g.getD true=true) (i:Nat):
 MemOK S w0 w (setCk m c .dead ++ [⟨(nth m c).block,(nth m c).base+i*(nth m c).sz,(nth m c).sz,true,g,.rows t (l.drop i)⟩]):=by
 have hlive:(nth m c).live=true:=by simp [Ck.live,Ck.alive,hcl,hon]
 have hc:=lt_of_alive (Ck.live_iff.1 hlive).1
 have hk:=h.kill c
 have hlen:=length_setCk m c (.dead:Cells C)
 generalize hm':setCk m c (.dead:Cells C)=m' at hk hlen
 generalize hx:(⟨(nth m c).block,(nth m c).base+i*(nth m c).sz,(nth m c).sz,true,g,.rows t (l.drop i)⟩:Ck C)=x
 have hxb:x.block=(nth m c).block:=by rw [← hx]
 have hxo:x.on=true:=by rw [← hx];cases g <;> first | rfl | exact hg
 have hin:∀ y,y∈m' ++ [x]→y∈m'∨y=x:=by intro y hy;simpa using hy
 have hads:∀ k,k<m.length→ads m k=ads (m' ++ [x]) k:=by
  intro k hk
  rw [← ads_append m' x k (by omega),← hm',ads_setCk]
 have hblk:∀ k,(nth m' k).block=(nth m k).block∧(nth m' k).wr=(nth m k).wr∧((nth m' k).live=true→k≠c∧(nth m k).live=true):=by
  intro k
  rw [← hm',nth_setCk]
  split
  · rename_i e;rw [e.1];exact ⟨rfl,rfl,fun h=>by simp [Ck.live,Ck.alive] at h⟩
  · rename_i e;exact ⟨rfl,rfl,fun h=>⟨fun e'=>e ⟨e',e' ▸ hc⟩,h⟩⟩
 have hmore:More S w0 w (m' ++ [x]):=by
  refine h.more.mono h.inS (fun _ _ _=>rfl) (fun y hy hyl => ?_) h.size (zx _) (fun y hy => ?_)
  · rcases hin y hy with hy | rfl
    · obtain ⟨k,hkl,rfl⟩:=mem_nth hy
      obtain ⟨e1,e2,e3⟩:=hblk k
      exact .inl ⟨nth m k,nth_mem (by omega),(e3 hyl).2,e1.symm,fun hw'=>by rw [← e2];exact hw'⟩
    · exact .inl ⟨_,nth_mem hc,hlive,hxb.symm,fun _=>hw⟩
  · rcases hin y hy with hy | rfl
    · subst hm'
      rcases mem_setCk hy with ⟨k,hk',_,rfl⟩ | ⟨_,rfl⟩
      · exact CsIn.self (nth_mem hk')
      · exact CsIn.other (fun _ _ e=>by cases e) (fun _ _ _ _ e=>by cases e)
    · rw [← hx]
      exact CsIn.rows (RowsOf.of (nth_mem hc) hcl (fun _ _=>hw) fun x hx=>wk hx)
 refine ⟨h.os,h.tape,h.output,h.size,?_,?_,?_,?_,?_,?_,hmore⟩
 · exact h.keep
 · intro y hy hyw hyo hyb
   rcases hin y hy with hy | rfl
   · exact hk.inS y hy hyw hyo hyb
   · rw [hxb] at hyb ⊢
     exact h.inS _ (nth_mem hc) hw hon hyb
 · intro y hy hyo
   rcases hin y hy with hy | rfl
   · subst hm'
     rcases mem_setCk hy with ⟨k,hk',_,rfl⟩ | ⟨_,rfl⟩
     · exact Ck.ok_ads hads (memLt_mem hlt (nth_mem hk')) (h.ok _ (nth_mem hk') hyo)
     · trivial
   · have hok:=h.ok _ (nth_mem hc) hon
     simp only [Ck.ok,hcl] at hok
     obtain ⟨hsz,hok⟩:=hok
     rw [← hx]
     refine ⟨hsz,fun r hr f hf => ?_⟩
     simp only [List.length_drop] at hr
     have:=hok (r+i) (by omega) f hf
     have e1:(l.drop i).getD r (C t).dflt=l.getD (r+i) (C t).dflt:=by simp [xg,Nat.add_comm]
     rw [e1]
     have e2:((⟨(nth m c).block,(nth m c).base+i*(nth m c).sz,(nth m c).sz,true,g,.rows t (l.drop i)⟩:Ck C).ad).at r f=(nth m c).ad.at (r+i) f:=by
      simp [Ck.ad,Ad.at,yj];omega
     rw [e2,this,enc_flat (C t) (ads m) _ _ f hf]
 · intro y hy hyw hyl a ha
   rcases hin y hy with hy | rfl
   · exact hk.wrok y hy hyw hyl a ha
   · rw [hxb] at ha
     exact h.wrok _ (nth_mem hc) hw hlive a ha
 · intro a b ha hb hab haw hal hbl
   simp only [zu,List.length_singleton] at ha hb
   rw [nth_append] at haw hal ⊢
   rw [nth_append] at hbl ⊢
   by_cases h1:a<m'.length
   · rw [if_pos h1] at haw hal ⊢
     by_cases h2:b<m'.length
     · rw [if_pos h2] at hbl ⊢
       exact hk.apart a b h1 h2 hab haw hal hbl
     · have:b=m'.length:=by omega
       rw [if_neg h2,if_pos this,hxb]
       have h3:=(hblk a).2.2 hal
       rw [(hblk a).1]
       rw [(hblk a).2.1] at haw
       exact h.apart a c (by omega) hc h3.1 haw h3.2 hlive
   · have:a=m'.length:=by omega
     rw [if_neg h1,if_pos this,hxb]
     have h2:b<m'.length:=by omega
     rw [if_pos h2] at hbl ⊢
     have h3:=(hblk b).2.2 hbl
     rw [(hblk b).1]
     exact h.apart c b hc (by omega) (Ne.symm h3.1) hw hlive h3.2
 · intro y hy hyo
   rcases hin y hy with hy | rfl
   · exact hk.lt y hy hyo
   · rw [hxb];exact h.lt _ (nth_mem hc) hon
theorem read_rows {S:Sx} {w0 w:World} {m:List (Ck C)} (h:MemOK S w0 w m) {c t:Nat} {l:List (C t).α} (hcl:(nth m c).cells=.rows t l) (hon:(nth m c).on=true) {i k:Nat} (hik:i+k≤l.length) (hn:(C t).sz≠0):
 ∀ j v,((flatSV (C t) ((l.drop i).take k)).map (SV.va (ads m)))[j]? = some v→w.cell? (((ads m c).at i 0).add j)=some v:=by
 intro j v hj
 have hc:=lt_of_alive (show (nth m c).alive=true by simp [Ck.alive,hcl])
 have hok:=h.ok _ (nth_mem hc) hon
 simp only [Ck.ok,hcl] at hok
 obtain ⟨hsz,hok⟩:=hok
 have hlen:((l.drop i).take k).length=k:=by simp;omega
 have hjl:j<k*(C t).sz:=by
  have:=(List.getElem?_eq_some_iff.1 hj).1
  simpa [flatSV_len,hlen] using this
 have hpos:0<(C t).sz:=by omega
 have hdm:=uc j (C t).sz
 have hm:j % (C t).sz<(C t).sz:=zc _ hpos
 have hd:j / (C t).sz<k:=by
  apply vb;rw [xn];exact hjl
 have e:j=(j / (C t).sz)*(C t).sz+j % (C t).sz:=by rw [xn];omega
 rw [e,zh,flatSV_get (C t) _ _ _ (by rw [hlen];exact hd) hm] at hj
 simp only [yk,Option.some.injEq] at hj
 have hr:=hok (i+j / (C t).sz) (by omega) _ hm
 have e1:((l.drop i).take k).getD (j / (C t).sz) (C t).dflt=l.getD (i+j / (C t).sz) (C t).dflt:=by
  simp [xg,yf hd]
 rw [e1] at hj
 rw [Ad.at_add]
 have e2:(ads m c).at i (0+j)=(nth m c).ad.at (i+j / (C t).sz) (j % (C t).sz):=by
  simp only [ads,Ck.ad,Ad.at,hsz]
  congr 1
  rw [yj];omega
 rw [e2,hr,hj]
theorem flat_one (cd:Codec) (ad:Nat→Ad):∀ (l:List cd.α),∀ v∈(flatSV cd l).map (SV.va ad),v.oneCell'=true
 | [],v,hv=>by simp [flatSV] at hv
 | x :: r,v,hv=>by
   simp only [flatSV,vk,List.mem_append] at hv
   rcases hv with hv | hv
   · obtain ⟨s,hs,rfl⟩:=List.mem_map.1 hv
     exact SV.cell_one _ (cd.cell x s hs)
   · exact flat_one cd ad r v hv
theorem run_append_in {P:Program} {w:World} (t ty e:TypeId) (i:TypeInfo) (ht:P.underlying t=some (.slice e)) (hi:P.info? e=some i) (b o n mm:Nat) (a:Addr) (k q:Nat) (news:List Value)
 (hl:news.length=k*i.size) (hnews:∀ j v,news[j]? = some v→w.cell? (a.add j)=some v) (h1:∀ v∈news,v.oneCell'=true) (hroom:n+k≤mm)
 (hc:∀ j,j<news.length→(w.cell? ⟨b,o+n*i.size+j,none⟩).isSome=true) (hf:∀ j,j<news.length→w.frozen? ⟨b,o+n*i.size+j,none⟩=false):
 (Builtin.append_ #[t,t] ty #[.slice (some ⟨b,o,none⟩) n mm,.slice (some a) k q]).run P w=.ok (.slice (some ⟨b,o,none⟩) (n+k) mm) (w.setCells b (o+n*i.size) news):=by
 have hfc:=run_firstCells_some (P:=P) w i.size k a k q news hl hnews
 have hst:=run_storeCells_cells (P:=P) b (o+n*i.size) news 0 w (fun j hj=>by simpa using hc j hj) (fun j hj=>by simpa using hf j hj) h1
 simp only [yx] at hst
 simp [Builtin.append_,run_underlying ht,sizeOf,typeInfo,hi,Builtin.lenOf,hroom,hfc,Addr.add_lit,hst]
theorem castL_self {t:Nat} (h:t=t) (l:List (C t).α):castL h l=l:=rfl
theorem flat_append {ad:Nat→Ad} {cd:Codec} (l1 l2:List cd.α) (z:Array Value) (hz:(cd.enc cd.dflt).map (SV.va ad)=z.toList) (hs:z.size=cd.sz) (hn:cd.sz≠0) (k:Nat):
 Flat ad cd (((flatSV cd l1).map (SV.va ad)).toArray ++ ((flatSV cd l2).map (SV.va ad)).toArray ++ Builtin.zeroCells z k) (l1 ++ l2 ++ zw k cd.dflt):=by
 have hzc:Builtin.zeroCells z k=madeCells z (k*cd.sz):=by simp [Builtin.zeroCells,madeCells,hs]
 have hfl:=flat_made (ad:=ad) (cd:=cd) hz hs k
 apply flat_of
 have hrep:(flatSV cd (zw k cd.dflt)).map (SV.va ad)=(madeCells z (k*cd.sz)).toList:=by
  apply re
  intro j
  by_cases hj:j<k*cd.sz
  · have hpos:0<cd.sz:=by omega
    have hdm:=uc j cd.sz
    have hm:j % cd.sz<cd.sz:=zc _ hpos
    have hd:j / cd.sz<k:=by apply vb;rw [xn];exact hj
    have e:j=(j / cd.sz)*cd.sz+j % cd.sz:=by rw [xn];omega
    have h1:=hfl.get (j / cd.sz) (by simpa using hd) _ hm
    rw [← e] at h1
    have h2:(madeCells z (k*cd.sz)).toList[j]? = some (SV.va ad ((cd.enc ((zw k cd.dflt).getD (j / cd.sz) cd.dflt)).getD (j % cd.sz) SV.junk)):=by
     rw [vp];exact h1
    rw [h2,zh]
    rw [show (flatSV cd (zw k cd.dflt))[j]? = some ((cd.enc ((zw k cd.dflt).getD (j / cd.sz) cd.dflt)).getD (j % cd.sz) .junk) by
     conv=>lhs;rw [e]
     exact flatSV_get cd _ _ _ (by simpa using hd) hm]
    rfl
  · rw [yr (by simp [flatSV_len];omega),yr (by simp [size_madeCells];omega)]
 have happ:∀ a b:List cd.α,flatSV cd (a ++ b)=flatSV cd a ++ flatSV cd b:=by
  intro a b
  induction a with
  | nil=>rfl
  | cons x r ih=>simp [flatSV,ih]
 rw [happ,happ,vk,vk,hrep,hzc]
 simp
theorem flat_rep {ad:Nat→Ad} {cd:Codec} (z:Array Value) (hz:(cd.enc cd.dflt).map (SV.va ad)=z.toList) (hs:z.size=cd.sz) (k:Nat):(flatSV cd (zw k cd.dflt)).map (SV.va ad)=(Builtin.zeroCells z k).toList:=by
 have hzc:Builtin.zeroCells z k=madeCells z (k*cd.sz):=by simp [Builtin.zeroCells,madeCells,hs]
 have hfl:=flat_made (ad:=ad) (cd:=cd) hz hs k
 rw [hzc]
 apply re
 intro j
 by_cases hj:j<k*cd.sz
 · have hpos:0<cd.sz:=by
    rcases Nat.eq_zero_or_pos cd.sz with h | h
    · rw [h] at hj;omega
    · exact h
   have hdm:=uc j cd.sz
   have hm:j % cd.sz<cd.sz:=zc _ hpos
   have hd:j / cd.sz<k:=by apply vb;rw [xn];exact hj
   have e:j=(j / cd.sz)*cd.sz+j % cd.sz:=by rw [xn];omega
   have h1:=hfl.get (j / cd.sz) (by simpa using hd) _ hm
   rw [← e] at h1
   have h2:(madeCells z (k*cd.sz)).toList[j]? = some (SV.va ad ((cd.enc ((zw k cd.dflt).getD (j / cd.sz) cd.dflt)).getD (j % cd.sz) SV.junk)):=by
    rw [vp];exact h1
   rw [h2,zh]
   rw [show (flatSV cd (zw k cd.dflt))[j]? = some ((cd.enc ((zw k cd.dflt).getD (j / cd.sz) cd.dflt)).getD (j % cd.sz) .junk) by
    conv=>lhs;rw [e]
    exact flatSV_get cd _ _ _ (by simpa using hd) hm]
   rfl
 · rw [yr (by simp [flatSV_len];omega),yr (by simp [size_madeCells];omega)]
theorem eev_clear {P:Program} {S:Sx} {w0 w:World} {n:Nat} {tm:Tm} {m:List (Ck C)} {a:Act} (h:ActOK (ads m) n tm a) (hm:MemOK S w0 w m) {al:List (Nat×Bool)} (ha:AlOK tm al) {t e:TypeId} {x:Operand} {s:SV}
 {dst:Option Tmp} {ty:TypeId} {pos:String} {after:Array Edge} {g:Option (Nat×Bool)} (hu:P.underlying t=some (.slice e)) (hs:ev tm m al x=some s)
 {K:SV→List (Ck C)→Tr} (hl:clearSV P m e s K):Left P S w0 tm m w (execOp a.eval ⟨dst,.call ⟨.builtin .clear,#[x],#[t]⟩,ty,pos,after,g⟩) K:=by
 have es:=ev_ok h hm.glob ha _ _ hs
 have hexec:∀ (w':World),(Builtin.clear_ #[t] ty #[s.va (ads m)]).run P w=.ok (.tuple #[]) w'→
  (execOp a.eval ⟨dst,.call ⟨.builtin .clear,#[x],#[t]⟩,ty,pos,after,g⟩).run P w=.ok (.value (SV.va (ads m) (.tup []))) w':=by
  intro w' hr
  simp [execOp,resolve,invoke,builtin,es,hr,SV.va,SV.vas]
 unfold clearSV at hl
 split at hl <;> try (first | contradiction | exact False.elim hl)
 rename_i hz
 obtain ⟨i,z,hi,hzr,hzz,hsz,hn0,hzs⟩:=zeroOK_ok hz
 split at hl <;> try (first | contradiction | exact False.elim hl)
 · refine ⟨w,m,.tup [],.inl (hexec w ?_),hm,hl,fun _ _=>rfl,zx _,.inl ⟨rfl,rfl⟩⟩
   simp [Builtin.clear_,SV.va,run_underlying' hu]
 · rename_i c i0 k mm
   split at hl <;> try (first | contradiction | exact False.elim hl)
   rename_i t1 l hcl
   split at hl <;> try (first | contradiction | exact False.elim hl)
   rename_i ht
   subst ht
   rw [castL_self] at hl
   split at hl <;> try (first | contradiction | exact False.elim hl)
   rename_i hwr
   obtain ⟨hlen,hK⟩:=hl
   obtain ⟨hth,hK⟩:=(conj_iff _ _).1 hK
   have hon:=Ck.there_ok hth
   have hlen:i0+k≤l.length:=hlen
   have hlive:(nth m c).live=true:=by simp [Ck.live,Ck.alive,hcl,hon]
   have lt_of_live:∀ {c:Nat},(nth m c).live=true→c<m.length:=fun h=>lt_of_alive (Ck.live_iff.1 h).1
   have hok:=hm.ok _ (nth_mem (lt_of_live hlive)) hon
   simp only [Ck.ok,hcl] at hok
   obtain ⟨hcsz,hok⟩:=hok
   obtain ⟨vals,hvals⟩:∃ vals,vals=(flatSV (C t1) (zw k (C t1).dflt)).map (SV.va (ads m)):=⟨_,rfl⟩
   have hvl:vals.length=k*(C t1).sz:=by rw [hvals,zm,flatSV_len];simp
   have hrep:vals=(Builtin.zeroCells z.cells k).toList:=by rw [hvals];exact flat_rep z.cells (hzz _) hzs k
   have hpos:0<(C t1).sz:=Nat.pos_of_ne_zero hn0
   have hcell:∀ j,j<vals.length→(w.cell? ⟨(nth m c).block,(nth m c).base+i0*(nth m c).sz+j,none⟩).isSome=true:=by
    intro j hj
    rw [hvl] at hj
    have hdm:=uc j (C t1).sz
    have hmd:j % (C t1).sz<(C t1).sz:=zc _ hpos
    have hd:j / (C t1).sz<k:=by apply vb;rw [xn];exact hj
    have:=hok (i0+j / (C t1).sz) (by omega) _ hmd
    have e1:(nth m c).ad.at (i0+j / (C t1).sz) (j % (C t1).sz)=⟨(nth m c).block,(nth m c).base+i0*(nth m c).sz+j,none⟩:=by
     simp only [Ck.ad,Ad.at,hcsz,yj]
     congr 1
     rw [xn (j / (C t1).sz)];omega
    rw [e1] at this
    rw [this];rfl
   have hst:=run_storeCells_cells (P:=P) (nth m c).block ((nth m c).base+i0*(nth m c).sz) vals 0 w (fun j hj=>by simpa using hcell j hj)
    (fun j hj=>hm.wrok _ (nth_mem (lt_of_live hlive)) hwr hlive _ rfl) (by rw [hvals];exact flat_one _ _ _)
   simp only [yx] at hst
   obtain ⟨g1,g2,g3,g4,g5⟩:=heap_setCells (nth m c).block vals ((nth m c).base+i0*(nth m c).sz) w
   refine ⟨w.setCells (nth m c).block ((nth m c).base+i0*(nth m c).sz) vals,setCk m c (.rows t1 (l.take i0 ++ zw k (C t1).dflt ++ l.drop (i0+k))),.tup [],.inl ?_,?_,hK,fun j _=>by rw [ads_setCk],by rw [length_setCk];omega,.inl ⟨length_setCk _ _ _,ads_setCk _ _ _⟩⟩
   · rw [ads_setCk]
     refine hexec _ ?_
     have ha0:(ads m c).at i0 0=⟨(nth m c).block,(nth m c).base+i0*(nth m c).sz,none⟩:=by simp [ads,Ck.ad,Ad.at]
     have hao:(ads m c).on=true:=hon
     cases k with
     | zero=>
       have:vals=[]:=by rw [hvals];rfl
       rw [this]
       simp [Builtin.clear_,SV.va,hao,run_underlying' hu,World.setCells]
     | succ k=>
       rw [hrep] at hst
       rw [hrep]
       simp [Builtin.clear_,SV.va,hao,run_underlying' hu,ha0,zeroValue,typeInfo,hi,hzr,hst]
   · have hrin:RowsOf m true t1 l:=RowsOf.of (nth_mem (lt_of_live hlive)) hcl (fun _ _=>hwr) fun _ h=>h
     refine hm.upd hwr hlive g3 g4 g5 g2 g1 (fun a=>World.frozen?_setCells _ _ _ _ _) _ (by simp [Ck.live,Ck.alive,Ck.on] at hon ⊢;exact hon) ?_ (CsIn.rows (((hrin.sub fun x hx=>xu hx).app (RowsOf.rep _)).app (hrin.sub fun x hx=>wk hx)))
     simp only [Ck.ok]
     refine ⟨hcsz,fun r hr f hf => ?_⟩
     have e0:({ nth m c with cells:=.rows t1 (l.take i0 ++ zw k (C t1).dflt ++ l.drop (i0+k)) }:Ck C).ad=(nth m c).ad:=rfl
     rw [e0]
     have hlr:(l.take i0 ++ zw k (C t1).dflt ++ l.drop (i0+k)).length=l.length:=by simp;omega
     rw [hlr] at hr
     have hget:(l.take i0 ++ zw k (C t1).dflt ++ l.drop (i0+k)).getD r (C t1).dflt=if i0≤r∧r<i0+k then (C t1).dflt else l.getD r (C t1).dflt:=by
      simp only [zy]
      split
      · rename_i hb
        rw [wt,yi (by simp;omega),zf (by simp;omega),uz]
        rw [if_pos (by simp;omega)];rfl
      · rename_i hb
        by_cases h1:r<i0
        · rw [wt,zf (by simp;omega),List.getElem?_take,if_pos h1]
        · rw [yi (by simp;omega),wd]
          congr 2
          simp;omega
     rw [hget]
     by_cases hb:i0≤r∧r<i0+k
     · rw [if_pos hb]
       have e1:(nth m c).ad.at r f=⟨(nth m c).block,(nth m c).base+i0*(nth m c).sz+((r - i0)*(C t1).sz+f),none⟩:=by
        simp only [Ck.ad,Ad.at,hcsz]
        congr 1
        have:r*(C t1).sz=i0*(C t1).sz+(r - i0)*(C t1).sz:=by rw [← yj];congr 1;omega
        omega
       have hlt:(r - i0)*(C t1).sz+f<vals.length:=by
        rw [hvl]
        have:(r - i0+1)*(C t1).sz≤k*(C t1).sz:=xr _ (by omega)
        rw [yj] at this
        omega
       have h2:=World.cell?_setCells_in (nth m c).block vals ((nth m c).base+i0*(nth m c).sz) w (fun j hj=>by simpa using hcell j hj) _ hlt
       rw [e1,h2]
       have h3:vals[(r - i0)*(C t1).sz+f]? = some ((((C t1).enc (C t1).dflt).getD f .junk).va (ads m)):=by
        rw [hvals,zh,flatSV_get (C t1) _ _ _ (by simp;omega) hf]
        simp only [yk,Option.some.injEq]
        congr 3
        simp [zy,uz]
        split <;> rfl
       rw [← h3,zt hlt]
     · rw [if_neg hb,← hok r hr f hf]
       refine World.cell?_setCells_out _ _ _ _ _ (fun _ _ => ?_)
       simp only [Ck.ad,Ad.at,hvl,hcsz]
       rcases vu r i0 with h1 | h1
       · left
         have:(r+1)*(C t1).sz≤i0*(C t1).sz:=xr _ h1
         rw [yj] at this
         omega
       · right
         have h2:i0+k≤r:=by omega
         have:(i0+k)*(C t1).sz≤r*(C t1).sz:=xr _ h2
         rw [yj] at this
         omega
theorem run_zeros_in {P:Program} {w:World} (t tn ty e:TypeId) (i:TypeInfo) (z:Value) (kq kn:IntKind) (ht:P.underlying t=some (.slice e)) (htn:P.underlying tn=some (.int kn)) (hi:P.info? e=some i) (hz:i.zero=some z) (b o n mm:Nat) (k:Nat) (news:List Value)
 (hnews:news=(Builtin.zeroCells z.cells k).toList) (h1:∀ v∈news,v.oneCell'=true) (hroom:n+k≤mm) (hs0:0<i.size) (hk63:(k:Int)≤9223372036854775807) (h48:k*i.bytes≤281474976710656)
 (hc:∀ j,j<news.length→(w.cell? ⟨b,o+n*i.size+j,none⟩).isSome=true) (hf:∀ j,j<news.length→w.frozen? ⟨b,o+n*i.size+j,none⟩=false):
 (Builtin.append_ #[t,tn] ty #[.slice (some ⟨b,o,none⟩) n mm,.int kq k]).run P w=.ok (.slice (some ⟨b,o,none⟩) (n+k) mm) (w.setCells b (o+n*i.size) news):=by
 have hst:=run_storeCells_cells (P:=P) b (o+n*i.size) news 0 w (fun j hj=>by simpa using hc j hj) (fun j hj=>by simpa using hf j hj) h1
 simp only [yx] at hst
 have hw:IntKind.i64.wrap (k:Int)=k:=by rw [IntKind.wrap_i64];omega
 have h48i:¬ (281474976710656<(k:Int)*(i.bytes:Int)):=by
  rw [← Int.natCast_mul]
  omega
 have hneg:¬ ((k:Int)<0):=by omega
 by_cases hk:k*i.size=0
 · obtain rfl:k=0:=by
    rcases Nat.mul_eq_zero.1 hk with h | h
    · exact h
    · omega
   have hnil:news=[]:=by rw [hnews];simp [Builtin.zeroCells]
   subst hnil
   simp [Builtin.append_,run_underlying ht,run_underlying htn,sizeOf,typeInfo,zeroValue,hi,hz,asInt,asIntOf,IntKind.wrap_i64,storeCells,World.setCells,show n≤mm by omega]
 · subst hnews
   simp [Builtin.append_,run_underlying ht,run_underlying htn,sizeOf,typeInfo,zeroValue,hi,hz,asInt,asIntOf,hw,hneg,h48i,hroom,hk,Addr.add_lit,hst]
theorem eev_zeros {P:Program} {S:Sx} {w0 w:World} {n:Nat} {tm:Tm} {m:List (Ck C)} {a:Act} (h:ActOK (ads m) n tm a) (hm:MemOK S w0 w m) {al:List (Nat×Bool)} (ha:AlOK tm al) {t t' e:TypeId} {so xo:Operand} {s:SV} {kq kn:IntKind} {k0:Int}
 {dst:Option Tmp} {ty:TypeId} {pos:String} {after:Array Edge} {g:Option (Nat×Bool)} (hu:P.underlying t=some (.slice e)) (hut:P.underlying t'=some (.int kn)) (hs:ev tm m al so=some s) (hx:ev tm m al xo=some (.int kq k0))
 {K:SV→List (Ck C)→Tr} (hl:zerosSV P tm m e s k0 K):Left P S w0 tm m w (execOp a.eval ⟨dst,.call ⟨.builtin .append,#[so,xo],#[t,t']⟩,ty,pos,after,g⟩) K:=by
 have es:=ev_ok h hm.glob ha _ _ hs
 have ex:=ev_ok h hm.glob ha _ _ hx
 unfold zerosSV at hl
 split at hl <;> try (first | contradiction | exact False.elim hl)
 rename_i ti hti
 split at hl <;> try (first | contradiction | exact False.elim hl)
 rename_i hc
 simp only [zn,yp] at hc
 obtain ⟨⟨⟨c1,c2⟩,c3⟩,c4,c5⟩:=hc
 have c3:ti.bytes≠0:=xl c3
 obtain ⟨ti',z,hti',hz,hzz,hsz,hn0,hzs⟩:=zeroOK_ok c4
 rw [hti] at hti';simp only [Option.some.injEq] at hti';subst hti'
 split at hl <;> try (first | contradiction | exact False.elim hl)
 rename_i c i nn mm
 split at hl <;> try (first | contradiction | exact False.elim hl)
 rename_i t1 l1 hcl1
 split at hl <;> try (first | contradiction | exact False.elim hl)
 rename_i h1
 subst h1
 rw [castL_self] at hl
 split at hl <;> try (first | contradiction | exact False.elim hl)
 rename_i hwr
 obtain ⟨hlf,hl⟩:=hl
 obtain ⟨p1,p2,p3,p4⟩:=hlf
 obtain ⟨hth,hl⟩:=(conj_iff _ _).1 hl
 have hs1:=Ck.there_ok hth
 obtain ⟨k,rfl⟩:=Int.eq_ofNat_of_zero_le p3
 simp only [Int.toNat_natCast] at hl p4
 have hexec:∀ (v:Value) (w':World),(Builtin.append_ #[t,t'] ty #[(SV.sl c i nn mm).va (ads m),.int kq k]).run P w=.ok v w'→
  (execOp a.eval ⟨dst,.call ⟨.builtin .append,#[so,xo],#[t,t']⟩,ty,pos,after,g⟩).run P w=.ok (.value v) w':=by
  intro v w' hr
  simp only [SV.va] at hr
  simp [execOp,resolve,invoke,builtin,es,ex,SV.va,hr]
 have hc1:c<m.length:=lt_of_alive (show (nth m c).alive=true by simp [Ck.alive,hcl1])
 have hr1:RowsOf m true t1 l1:=RowsOf.of (nth_mem hc1) hcl1 (fun h _=>by rw [c5] at h;cases h) fun _ h=>h
 have hlk:=length_setCk m c (.dead:Cells C)
 have hltk:memLt (setCk m c (.dead:Cells C)).length (setCk m c .dead)=true:=by
  rw [hlk]
  have:∀ (r:List (Ck C)) (c k:Nat),memLt k r=true→memLt k (setCk r c .dead)=true:=by
   intro r
   induction r with
   | nil=>intro c k h;exact h
   | cons y r ih=>
     intro c k h
     simp only [memLt,zn] at h
     cases c with
     | zero=>simp [setCkN,setCk0,setCkS,memLt,h.2,Ck.lt]
     | succ c=>simp [setCkN,setCk0,setCkS,memLt,h.1,ih c k h.2]
  exact this m c _ c1
 have hadsk:∀ (x:Ck C) k,k<m.length→ads m k=ads (setCk m c .dead ++ [x]) k:=by
  intro x k hk
  rw [← ads_append _ _ k (by omega),ads_setCk]
 have hadsn:∀ (x:Ck C),ads (setCk m c .dead ++ [x]) m.length=x.ad:=by
  intro x
  have:=ads_append_new (setCk m c .dead) x
  rwa [hlk] at this
 have has:(ads m c).on=true:=hs1
 have hlive:(nth m c).live=true:=by simp [Ck.live,Ck.alive,hcl1,hs1]
 have hok:=hm.ok _ (nth_mem hc1) hs1
 simp only [Ck.ok,hcl1] at hok
 obtain ⟨hcsz,hok⟩:=hok
 have hbk:k*ti.bytes≤140737488355328:=xk (xr _ (Nat.le_add_left k nn)) p4
 have hnk:nn+k≤140737488355328:=xk (oz _ (by omega)) p4
 have h48:k*ti.bytes≤281474976710656:=by omega
 have hnz:(flatSV (C t1) (zw k (C t1).dflt)).map (SV.va (ads m))=(Builtin.zeroCells z.cells k).toList:=flat_rep z.cells (hzz _) hzs k
 have holds:=read_rows hm hcl1 hs1 (i:=i) (k:=nn) (by omega) hn0
 have hnl:((flatSV (C t1) (zw k (C t1).dflt)).map (SV.va (ads m))).length=k*ti.size:=by rw [zm,flatSV_len,hsz,ye]
 have hol:((flatSV (C t1) ((l1.drop i).take nn)).map (SV.va (ads m))).length=nn*ti.size:=by rw [zm,flatSV_len,hsz];congr 1;simp;omega
 have hcap:∀ (w1:World) (need old:Nat),need≤grownCap w1 need old t1:=fun w1 need old=>grownCap_ge w1 need old t1
 have hgrow:mm<nn+k→∃ w' cap,(Builtin.append_ #[t,t'] ty #[(SV.sl c i nn mm).va (ads m),.int kq k]).run P w=.ok (.slice (some ⟨w.heap.size,0,none⟩) (nn+k) (nn+k+cap)) w'∧
       (∀ g:Option Bool,g.getD true=true→MemOK S w0 w' (m ++ [⟨w.heap.size,0,(C t1).sz,true,g,.rows t1 ((l1.drop i).take nn ++ zw k (C t1).dflt ++ zw cap (C t1).dflt)⟩])):=by
  intro hg
  have hfo:=run_firstCells_some (P:=P) w.drew ti.size nn ((ads m c).at i 0) nn mm _ hol (by simpa using holds)
  have hr:=Go.Lib.run_append_grow_zeros (P:=P) w t t' ty t1 ti z kq kn hu hut hti hz (some ((ads m c).at i 0)) nn mm _ hfo k (by omega) (by omega) hg (by omega) h48 (growslice_fits hg p4)
  have hge:=hcap w (nn+k) mm
  rw [show Builtin.zeroCells z.cells k=((flatSV (C t1) (zw k (C t1).dflt)).map (SV.va (ads m))).toArray by rw [hnz]] at hr
  refine ⟨w.drew.alloc (.cells (((flatSV (C t1) ((l1.drop i).take nn)).map (SV.va (ads m))).toArray ++ ((flatSV (C t1) (zw k (C t1).dflt)).map (SV.va (ads m))).toArray ++ Builtin.zeroCells z.cells (grownCap w (nn+k) mm t1 - (nn+k))) t1),grownCap w (nn+k) mm t1 - (nn+k),?_,?_⟩
  · rw [show nn+k+(grownCap w (nn+k) mm t1 - (nn+k))=grownCap w (nn+k) mm t1 by omega]
    simp only [SV.va,has,cond_true]
    exact hr
  · intro g hg
    exact MemOK.newO' (w:=w.drew) hm.drew c1 (.cells (((flatSV (C t1) ((l1.drop i).take nn)).map (SV.va (ads m))).toArray ++ ((flatSV (C t1) (zw k (C t1).dflt)).map (SV.va (ads m))).toArray ++ Builtin.zeroCells z.cells (grownCap w (nn+k) mm t1 - (nn+k))) t1) (fun w a hw=>by simp [World.frozen?,hw])
     (C t1).sz (.rows t1 ((l1.drop i).take nn ++ zw k (C t1).dflt ++ zw (grownCap w (nn+k) mm t1 - (nn+k)) (C t1).dflt)) g hg
     (((flat_append (ad:=ads m) _ _ z.cells (hzz _) hzs hn0 _).ads _).ok w.drew t1 true g)
     (fun t' x hx=>by
       rcases (CsIn.rows (((hr1.sub fun x hx=>wk (xu hx)).app (RowsOf.rep _)).app (RowsOf.rep (grownCap w (nn+k) mm t1 - (nn+k))))) t' x hx with h1 | hfl
       · exact .inl h1
       · exact .inr ⟨hfl.2 _,fun b hb=>by rw [hfl.1] at hb;cases hb⟩)
 have hgo:(none:Option Bool).getD true=true:=rfl
 have honN:∀ (b ba sz:Nat) (cs:Cells C),(⟨b,ba,sz,true,none,cs⟩:Ck C).on=true:=fun _ _ _ _=>rfl
 by_cases hroom:nn+k≤mm
 · -- room
   have hcellrow:∀ j,j<k*(C t1).sz→(nth m c).ad.at (i+nn+j / (C t1).sz) (j % (C t1).sz)=⟨(nth m c).block,(nth m c).base+i*(nth m c).sz+nn*ti.size+j,none⟩:=by
    intro j hj
    have hdm:=uc j (C t1).sz
    simp only [Ck.ad,Ad.at,hcsz,hsz]
    congr 1
    rw [yj,yj]
    have:j / (C t1).sz*(C t1).sz+j % (C t1).sz=j:=by rw [xn];omega
    omega
   have hpos:0<(C t1).sz:=by omega
   have hisSome:∀ j,j<((flatSV (C t1) (zw k (C t1).dflt)).map (SV.va (ads m))).length→(w.cell? ⟨(nth m c).block,(nth m c).base+i*(nth m c).sz+nn*ti.size+j,none⟩).isSome=true:=by
    intro j hj
    rw [hnl,hsz] at hj
    rw [← hcellrow j hj]
    have hd:j / (C t1).sz<k:=by apply vb;rw [xn];exact hj
    rw [hok _ (by omega) _ (zc _ hpos)];rfl
   have hr:=run_zeros_in (P:=P) (w:=w) t t' ty t1 ti z kq kn hu hut hti hz (nth m c).block ((nth m c).base+i*(nth m c).sz) nn mm k _ hnz (flat_one _ _ _) hroom (by omega) (by omega) h48 hisSome
    (fun j _=>hm.wrok _ (nth_mem hc1) hwr hlive _ rfl)
   obtain ⟨g1,g2,g3,g4,g5⟩:=heap_setCells (nth m c).block ((flatSV (C t1) (zw k (C t1).dflt)).map (SV.va (ads m))) ((nth m c).base+i*(nth m c).sz+nn*ti.size) w
   have hupd:MemOK S w0 (w.setCells (nth m c).block ((nth m c).base+i*(nth m c).sz+nn*ti.size) ((flatSV (C t1) (zw k (C t1).dflt)).map (SV.va (ads m)))) (setCk m c (.rows t1 (l1.take (i+nn) ++ zw k (C t1).dflt ++ l1.drop (i+nn+k)))):=by
    refine hm.upd hwr hlive g3 g4 g5 g2 g1 (fun a=>World.frozen?_setCells _ _ _ _ _) _ (by simp [Ck.live,Ck.alive,Ck.on] at hs1 ⊢;exact hs1) ?_ (CsIn.rows (((hr1.sub fun x hx=>xu hx).app (RowsOf.rep _)).app (hr1.sub fun x hx=>wk hx)))
    refine ⟨hcsz,fun r hr' f hf => ?_⟩
    have e0:({ nth m c with cells:=.rows t1 (l1.take (i+nn) ++ zw k (C t1).dflt ++ l1.drop (i+nn+k)) }:Ck C).ad=(nth m c).ad:=rfl
    rw [e0]
    have hlen1:(l1.take (i+nn)).length=i+nn:=by simp;omega
    have hlen2:(zw k (C t1).dflt).length=k:=by simp
    have hlen3:(l1.take (i+nn) ++ zw k (C t1).dflt ++ l1.drop (i+nn+k)).length=l1.length:=by simp;omega
    rw [hlen3] at hr'
    have hoff:(nth m c).ad.at r f=⟨(nth m c).block,(nth m c).base+(r*(C t1).sz+f),none⟩:=by simp [Ck.ad,Ad.at,hcsz]
    by_cases hin:i+nn≤r∧r<i+nn+k
    · have hj:(r - (i+nn))*(C t1).sz+f<((flatSV (C t1) (zw k (C t1).dflt)).map (SV.va (ads m))).length:=by
       rw [hnl,hsz]
       have:=xr (C t1).sz (show (r - (i+nn))+1≤k by omega)
       rw [yj] at this;omega
      have:=World.cell?_setCells_in (nth m c).block _ ((nth m c).base+i*(nth m c).sz+nn*ti.size) w hisSome _ hj
      have e1:(⟨(nth m c).block,(nth m c).base+i*(nth m c).sz+nn*ti.size+((r - (i+nn))*(C t1).sz+f),none⟩:Addr)=(nth m c).ad.at r f:=by
       rw [hoff,hcsz,hsz]
       congr 1
       have:r*(C t1).sz=(i+nn+(r - (i+nn)))*(C t1).sz:=by congr 1;omega
       rw [this,yj,yj];omega
      rw [e1] at this
      rw [this]
      have e2:(l1.take (i+nn) ++ zw k (C t1).dflt ++ l1.drop (i+nn+k)).getD r (C t1).dflt=(zw k (C t1).dflt).getD (r - (i+nn)) (C t1).dflt:=by
       simp only [xg]
       rw [zf (by simp;omega),yi (by omega),hlen1]
      rw [e2]
      have hg:=flatSV_get (C t1) (zw k (C t1).dflt) (r - (i+nn)) f (by rw [ye];omega) hf
      rw [← zt hj,zh,hg];rfl
    · rw [World.cell?_setCells_out]
      · rw [hok r hr' f hf]
        have e2:(l1.take (i+nn) ++ zw k (C t1).dflt ++ l1.drop (i+nn+k)).getD r (C t1).dflt=l1.getD r (C t1).dflt:=by
         simp only [xg]
         by_cases h1:r<i+nn
         · rw [zf (by simp;omega),zf (by omega),yf h1]
         · rw [yi (by simp;omega)]
           simp only [zu,hlen1,hlen2,wd]
           rw [show i+nn+k+(r - (i+nn+k))=r by omega]
        rw [e2]
      · intro _ _
        rw [hoff,hnl,hcsz,hsz]
        simp only
        rcases vu r (i+nn) with h1 | h1
        · left
          have:=xr (C t1).sz (show r+1≤i+nn by omega)
          rw [yj,yj] at this;omega
        · right
          have:=xr (C t1).sz (show i+nn+k≤r by omega)
          rw [yj,yj] at this;omega
   have hltu:memLt (setCk m c (.rows t1 (l1.take (i+nn) ++ zw k (C t1).dflt ++ l1.drop (i+nn+k)))).length (setCk m c (.rows t1 (l1.take (i+nn) ++ zw k (C t1).dflt ++ l1.drop (i+nn+k))))=true:=by
    rw [length_setCk]
    have:∀ (r:List (Ck C)) (c k:Nat) (cs:List (C t1).α),memLt k r=true→memLt k (setCk r c (.rows t1 cs))=true:=by
     intro r
     induction r with
     | nil=>intro c k cs h;exact h
     | cons y r ih=>
       intro c k cs h
       simp only [memLt,zn] at h
       cases c with
       | zero=>simp [setCkN,setCk0,setCkS,memLt,h.2,Ck.lt]
       | succ c=>simp [setCkN,setCk0,setCkS,memLt,h.1,ih c k cs h.2]
    exact this m c _ _ c1
   have hcu:nth (setCk m c (.rows t1 (l1.take (i+nn) ++ zw k (C t1).dflt ++ l1.drop (i+nn+k)))) c={ nth m c with cells:=.rows t1 (l1.take (i+nn) ++ zw k (C t1).dflt ++ l1.drop (i+nn+k)) }:=by
    rw [nth_setCk,if_pos ⟨rfl,hc1⟩]
   have hmv:=hupd.move hltu (c:=c) (t:=t1) (by rw [hcu]) (by rw [hcu];exact hwr) (by rw [hcu];exact hs1) ((none:Option Bool)) hgo i
   have hss:∀ (r:List (Ck C)) (c:Nat) (x y:Cells C),setCk (setCk r c x) c y=setCk r c y:=by
    intro r
    induction r with
    | nil=>intro c x y;rfl
    | cons z r ih=>intro c x y;cases c with
      | zero=>rfl
      | succ c=>simp [setCkN,setCk0,setCkS,ih]
   rw [hss,hcu] at hmv
   have hlen1:(l1.take (i+nn)).length=i+nn:=by simp;omega
   have hdr:(l1.take (i+nn) ++ zw k (C t1).dflt ++ l1.drop (i+nn+k)).drop i=(l1.drop i).take nn ++ zw k (C t1).dflt ++ l1.drop (i+nn+k):=by
    rw [wt,qh (by omega),← wt,List.drop_take,show i+nn - i=nn by omega]
   simp only [hdr] at hmv
   have hsp:(l1.drop (i+nn+k)).length=l1.length - (i+nn+k):=by simp
   refine ⟨_,_,.sl m.length 0 (nn+k) mm,.inl ?_,hmv,?_,hadsk _,by simp [hlk],.inr c2⟩
   rotate_left
   · have:=hl (nth m c).block ((nth m c).base+i*(nth m c).sz) (l1.drop (i+nn+k)) mm hroom (by omega)
     simp only [hcsz] at this ⊢
     exact this
   · rw [hexec _ _ (by simp only [SV.va,has,cond_true];exact hr)]
     simp only [SV.va,hadsn,Ck.ad,honN,cond_true,Ad.at]
     simp
 · -- none
   obtain ⟨w',cap,hr,hmem⟩:=hgrow (by omega)
   have hm2:=(hmem _ hgo).kill c
   rw [setCk_app _ _ _ _ hc1] at hm2
   refine ⟨_,_,.sl m.length 0 (nn+k) (nn+k+cap),.inl ?_,hm2,?_,hadsk _,by simp [hlk],.inr c2⟩
   rotate_left
   · exact hl w.heap.size 0 (zw cap (C t1).dflt) (nn+k+cap) (by omega) (by simp)
   · rw [hexec _ _ hr]
     simp only [SV.va,hadsn,Ck.ad,honN,cond_true,Ad.at]
     simp
theorem append_core {P:Program} {S:Sx} {w0 w:World} {n:Nat} {tm:Tm} {m:List (Ck C)} {a:Act} (h:ActOK (ads m) n tm a) (hm:MemOK S w0 w m) {oo:Oper} {t e:TypeId} {ty:TypeId} {s x:SV} (hu:P.underlying t=some (.slice e))
 (hexec:∀ (v:Value) (w':World),(Builtin.append_ #[t,t] ty #[s.va (ads m),x.va (ads m)]).run P w=.ok v w'→(execOp a.eval oo).run P w=.ok (.value v) w')
 {K:SV→List (Ck C)→Tr} (hl:appendSV P tm m e s x K):Left P S w0 tm m w (execOp a.eval oo) K:=by
 unfold appendSV at hl
 split at hl <;> try (first | contradiction | exact False.elim hl)
 rename_i ti hti
 split at hl <;> try (first | contradiction | exact False.elim hl)
 rename_i hc
 simp only [zn,yp] at hc
 obtain ⟨⟨⟨c1,c2⟩,c3⟩,c4,c5⟩:=hc
 have c3:ti.bytes≠0:=xl c3
 obtain ⟨ti',z,hti',hz,hzz,hsz,hn0,hzs⟩:=zeroOK_ok c4
 rw [hti] at hti';simp only [Option.some.injEq] at hti';subst hti'
 split at hl <;> try (first | contradiction | exact False.elim hl)
 rotate_left
 · -- nothing to be added
   split at hl <;> try (first | contradiction | exact False.elim hl)
   · rename_i c i nn mm
     obtain ⟨p1,hl⟩:=hl
     have p1:nn≤mm:=p1
     obtain ⟨ha0,hl⟩:=(conj_iff _ _).1 hl
     refine ⟨w,m,.sl c i nn mm,.inl ?_,hm,hl,fun _ _=>rfl,zx _,.inl ⟨rfl,rfl⟩⟩
     refine hexec _ _ ?_
     rcases Ck.orNil_ok ha0 with hon | ⟨hon,rfl,rfl⟩
     · have hao:(ads m c).on=true:=hon
       simp [Builtin.append_,run_underlying' hu,sizeOf,typeInfo,hti,Builtin.lenOf,SV.va,hao,run_firstCells_none,p1,storeCells]
     · have hao:(ads m c).on=false:=hon
       simp [Builtin.append_,run_underlying' hu,sizeOf,typeInfo,hti,Builtin.lenOf,SV.va,hao,run_firstCells_none]
   · refine ⟨w,m,.nils,.inl ?_,hm,hl,fun _ _=>rfl,zx _,.inl ⟨rfl,rfl⟩⟩
     refine hexec _ _ ?_
     simp [Builtin.append_,run_underlying' hu,sizeOf,typeInfo,hti,Builtin.lenOf,SV.va,run_firstCells_none]
 rename_i c2' i2 k q2
 split at hl <;> try (first | contradiction | exact False.elim hl)
 rename_i t2 l2 hcl2
 split at hl <;> try (first | contradiction | exact False.elim hl)
 rename_i h2
 subst h2
 rw [castL_self] at hl
 have hbytes:∀ N:Nat,N*ti.bytes≤140737488355328→(N:Int)≤9223372036854775807:=by
  intro N hN
  have:N≤N*ti.bytes:=oz _ (by omega)
  omega
 have hcap:∀ (w1:World) (need old:Nat),need≤grownCap w1 need old t2:=fun w1 need old=>grownCap_ge w1 need old t2
 split at hl <;> try (first | contradiction | exact False.elim hl)
 · -- onto a slice that there is
   rename_i c i nn mm
   split at hl <;> try (first | contradiction | exact False.elim hl)
   rename_i t1 l1 hcl1
   split at hl <;> try (first | contradiction | exact False.elim hl)
   rename_i h1
   subst h1
   rw [castL_self] at hl
   obtain ⟨hlf,hl⟩:=hl
   obtain ⟨p1,p2,p3,p4⟩:=hlf
   obtain ⟨hasks,hl⟩:=(conj_iff _ _).1 hl
   obtain ⟨hask1,hask2⟩:=(allOf_append _ _).1 hasks
   have hc1:c<m.length:=lt_of_alive (show (nth m c).alive=true by simp [Ck.alive,hcl1])
   have hc2:c2'<m.length:=lt_of_alive (show (nth m c2').alive=true by simp [Ck.alive,hcl2])
   have hr1:RowsOf m true t1 l1:=RowsOf.of (nth_mem hc1) hcl1 (fun h _=>by rw [c5] at h;cases h) fun _ h=>h
   have hr2:RowsOf m true t1 l2:=RowsOf.of (nth_mem hc2) hcl2 (fun h _=>by rw [c5] at h;cases h) fun _ h=>h
   have hlk:=length_setCk m c (.dead:Cells C)
   have hltk:memLt (setCk m c (.dead:Cells C)).length (setCk m c .dead)=true:=by
    rw [hlk]
    have:∀ (r:List (Ck C)) (c k:Nat),memLt k r=true→memLt k (setCk r c .dead)=true:=by
     intro r
     induction r with
     | nil=>intro c k h;exact h
     | cons y r ih=>
       intro c k h
       simp only [memLt,zn] at h
       cases c with
       | zero=>simp [setCkN,setCk0,setCkS,memLt,h.2,Ck.lt]
       | succ c=>simp [setCkN,setCk0,setCkS,memLt,h.1,ih c k h.2]
    exact this m c _ c1
   have hadsk:∀ (x:Ck C) k,k<m.length→ads m k=ads (setCk m c .dead ++ [x]) k:=by
    intro x k hk
    rw [← ads_append _ _ k (by omega),ads_setCk]
   have hadsn:∀ (x:Ck C),ads (setCk m c .dead ++ [x]) m.length=x.ad:=by
    intro x
    have:=ads_append_new (setCk m c .dead) x
    rwa [hlk] at this
   -- both are nil, or nothing is added to nil
   have hoff:nn=0→mm=0→k=0→(nth m c).on=false→(Builtin.append_ #[t,t] ty #[(SV.sl c i nn mm).va (ads m),(SV.sl c2' i2 k q2).va (ads m)]).run P w=.ok (.slice none 0 0) w→
    Left P S w0 tm m w (execOp a.eval oo) K:=by
    intro e1 e2 e3 hso hr
    subst e1 e2 e3
    split at hl
    · have hg:(nth m c).orHas 0=some false:=by
       unfold Ck.orHas
       unfold Ck.on at hso
       cases hgl:(nth m c).gl with
       | none=>rw [hgl] at hso;cases hso
       | some b=>rw [hgl] at hso;simp only at hso;subst hso;rfl
      have hK:=hl 0 0 [] 0 (zx _) (zx _)
      rw [hg] at hK
      refine ⟨w,_,.sl m.length 0 0 0,.inl ?_,(hm.kill c).off hltk (x:=⟨0,0,(C t1).sz,true,some false,.rows t1 ((l1.drop i).take 0 ++ (l2.drop i2).take 0 ++ [])⟩) rfl (CsIn.rows (by intro x hx;simp at hx)),hK,hadsk _,by simp [hlk],.inr c2⟩
      rw [hexec _ _ hr]
      simp [SV.va,hadsn,Ck.ad,Ck.on]
    · obtain ⟨p5,_⟩:=hl
      exact absurd p5 (by simp [Tr.holds])
   rcases Ck.orNil_ok hask2 with hx | ⟨hxo,hk0,_⟩
   rotate_left
   · -- what is added is nil
     subst hk0
     have hax:(ads m c2').on=false:=hxo
     rcases Ck.orNil_ok hask1 with hs1 | ⟨hso,hn0',hm0'⟩
     · have has:(ads m c).on=true:=hs1
       split at hl
       · rename_i hwr
         have hmv:=hm.move c1 hcl1 hwr hs1 ((nth m c).orHas 0) (by rw [Ck.orHas_ok,hs1];simp) i
         have hK:=hl (nth m c).block ((nth m c).base+i*(nth m c).sz) (l1.drop (i+nn)) mm (by omega) (by simp;omega)
         have hdr:(l1.drop i).take nn ++ (l2.drop i2).take 0 ++ l1.drop (i+nn)=l1.drop i:=by
          rw [List.take_zero,vj,← List.drop_drop,List.take_append_drop]
         rw [hdr] at hK
         have hcsz:(nth m c).sz=(C t1).sz:=by
          have:=hm.ok _ (nth_mem hc1) hs1
          simp only [Ck.ok,hcl1] at this
          exact this.1
         rw [hcsz] at hmv hK
         refine ⟨w,_,.sl m.length 0 (nn+0) mm,.inl ?_,hmv,hK,hadsk _,by simp [hlk],.inr c2⟩
         have hon':(⟨(nth m c).block,(nth m c).base+i*(C t1).sz,(C t1).sz,true,(nth m c).orHas 0,.rows t1 (l1.drop i)⟩:Ck C).on=true:=by
          have:=Ck.orHas_ok (c:=nth m c) (k:=0)
          rw [hs1] at this
          unfold Ck.on
          cases hg:(nth m c).orHas 0 with
          | none=>rfl
          | some b=>rw [hg] at this;simpa using this
         refine (hexec (.slice (some ((ads m c).at i 0)) nn mm) w ?_).trans ?_
         · simp [Builtin.append_,run_underlying' hu,sizeOf,typeInfo,hti,Builtin.lenOf,SV.va,has,hax,run_firstCells_none,p1,storeCells]
         · simp only [SV.va,hadsn,Ck.ad,hon',cond_true,Ad.at,yx]
           simp [ads,Ck.ad,hcsz]
       · obtain ⟨p5,_⟩:=hl
         have p5:mm<nn+0:=p5
         omega
     · have has:(ads m c).on=false:=hso
       refine hoff hn0' hm0' rfl hso ?_
       subst hn0' hm0'
       simp [Builtin.append_,run_underlying' hu,sizeOf,typeInfo,hti,Builtin.lenOf,SV.va,has,hax,run_firstCells_none]
   have hax:(ads m c2').on=true:=hx
   rcases Ck.orNil_ok hask1 with hs1 | ⟨hso,hn0',hm0'⟩
   rotate_left
   · -- onto nil that was not known az nil
     have has:(ads m c).on=false:=hso
     by_cases hk:k=0
     · refine hoff hn0' hm0' hk hso ?_
       subst hn0' hm0' hk
       have hfc:=run_firstCells_some (P:=P) w ti.size 0 ((ads m c2').at i2 0) 0 q2 [] (by simp) (by simp)
       simp [Builtin.append_,run_underlying' hu,sizeOf,typeInfo,hti,Builtin.lenOf,SV.va,has,hax,hfc]
     · subst hn0' hm0'
       have hnews:=read_rows hm hcl2 hx p3 hn0
       have hnl:((flatSV (C t1) ((l2.drop i2).take k)).map (SV.va (ads m))).length=k*ti.size:=by rw [zm,flatSV_len,hsz];congr 1;simp;omega
       have p4':k*ti.bytes≤140737488355328:=by simpa using p4
       have hr:=run_append_nil (P:=P) w t ty t1 ti z hu hti hz ((ads m c2').at i2 0) k q2 _ hnl hnews (by omega) (hbytes _ p4') (by omega)
       have hge:=hcap w k 0
       have hcs:CsIn m true (.rows t1 ((l1.drop i).take 0 ++ (l2.drop i2).take k ++ zw (grownCap w k 0 t1 - k) (C t1).dflt):Cells C):=
        CsIn.rows (((hr1.sub fun x hx=>by simp at hx).app (hr2.sub fun x hx=>wk (xu hx))).app (RowsOf.rep _))
       have hok':∀ (ad:Nat→Ad) (g:Option Bool),Ck.ok ad (w.drew.alloc (.cells (((flatSV (C t1) ((l2.drop i2).take k)).map (SV.va (ads m))).toArray ++ Builtin.zeroCells z.cells (grownCap w k 0 t1 - k)) t1))
        (⟨w.drew.heap.size,0,(C t1).sz,true,g,.rows t1 ((l1.drop i).take 0 ++ (l2.drop i2).take k ++ zw (grownCap w k 0 t1 - k) (C t1).dflt)⟩:Ck C):=by
        intro ad g
        have:=((flat_append (ad:=ads m) [] ((l2.drop i2).take k) z.cells (hzz _) hzs hn0 (grownCap w k 0 t1 - k)).ads ad).ok w.drew t1 true g
        simpa [flatSV] using this
       have hval:(execOp a.eval oo).run P w=.ok (.value (.slice (some ⟨w.heap.size,0,none⟩) k (grownCap w k 0 t1))) _:=
        hexec _ _ (by
         simp only [SV.va,has,hax,cond_true,cond_false]
         exact hr)
       have hlen':k+(zw (grownCap w k 0 t1 - k) (C t1).dflt).length=grownCap w k 0 t1:=by simp;omega
       split at hl
       · have hg:((nth m c).orHas k).getD true=true:=by rw [Ck.orHas_ok];simp;omega
         have hmem:=(MemOK.newO' (w:=w.drew) hm.drew c1 (.cells _ t1) (fun w a hw=>by simp [World.frozen?,hw]) (C t1).sz _ ((nth m c).orHas k) hg (hok' _ _) (fun t' x hx=>by
          rcases hcs t' x hx with h1 | hfl
          · exact .inl h1
          · exact .inr ⟨hfl.2 _,fun b hb=>by rw [hfl.1] at hb;cases hb⟩)).kill c
         rw [setCk_app _ _ _ _ hc1] at hmem
         have hK:=hl w.heap.size 0 (zw (grownCap w k 0 t1 - k) (C t1).dflt) (grownCap w k 0 t1) (by omega) (by simp;omega)
         simp only [wo] at hK
         refine ⟨_,_,.sl m.length 0 k (grownCap w k 0 t1),.inl ?_,hmem,hK,hadsk _,by simp [hlk],.inr c2⟩
         have hon':(⟨w.drew.heap.size,0,(C t1).sz,true,(nth m c).orHas k,.rows t1 ((l1.drop i).take 0 ++ (l2.drop i2).take k ++ zw (grownCap w k 0 t1 - k) (C t1).dflt)⟩:Ck C).on=true:=by
          unfold Ck.on
          cases hg':(nth m c).orHas k with
          | none=>rfl
          | some b=>rw [hg'] at hg;simpa using hg
         rw [hval]
         simp only [SV.va,hadsn,Ck.ad,hon',cond_true,Ad.at]
         simp
       · obtain ⟨p5,hl⟩:=hl
         have hmem:=MemOK.new (w:=w.drew) hm.drew c1 _ t1 (C t1).sz _ (hok' _ none) hcs
         have hK:=hl w.heap.size (zw (grownCap w k 0 t1 - k) (C t1).dflt)
         simp only [wo] at hK
         refine ⟨_,_,.sl m.length 0 k (k+(zw (grownCap w k 0 t1 - k) (C t1).dflt).length),.inl ?_,hmem,hK,ads_append _ _,by simp,.inr c2⟩
         rw [hval]
         simp only [SV.va,ads_append_new,Ck.ad,Ck.on,cond_true,Ad.at,hlen']
         simp
   have has:(ads m c).on=true:=hs1
   have hlive:(nth m c).live=true:=by simp [Ck.live,Ck.alive,hcl1,hs1]
   have hok:=hm.ok _ (nth_mem hc1) hs1
   simp only [Ck.ok,hcl1] at hok
   obtain ⟨hcsz,hok⟩:=hok
   have hnews:=read_rows hm hcl2 hx p3 hn0
   have holds:=read_rows hm hcl1 hs1 (i:=i) (k:=nn) (by omega) hn0
   have hnl:((flatSV (C t1) ((l2.drop i2).take k)).map (SV.va (ads m))).length=k*ti.size:=by rw [zm,flatSV_len,hsz];congr 1;simp;omega
   have hol:((flatSV (C t1) ((l1.drop i).take nn)).map (SV.va (ads m))).length=nn*ti.size:=by rw [zm,flatSV_len,hsz];congr 1;simp;omega
   have hgrow:mm<nn+k→∃ w' cap,(Builtin.append_ #[t,t] ty #[(SV.sl c i nn mm).va (ads m),(SV.sl c2' i2 k q2).va (ads m)]).run P w=.ok (.slice (some ⟨w.heap.size,0,none⟩) (nn+k) (nn+k+cap)) w'∧
         (∀ g:Option Bool,g.getD true=true→MemOK S w0 w' (m ++ [⟨w.heap.size,0,(C t1).sz,true,g,.rows t1 ((l1.drop i).take nn ++ (l2.drop i2).take k ++ zw cap (C t1).dflt)⟩])):=by
    intro hg
    have hr:=run_append_grow (P:=P) w t ty t1 ti z hu hti hz ((ads m c).at i 0) nn mm _ hol holds ((ads m c2').at i2 0) k q2 _ hnl hnews hg (hbytes _ p4) (growslice_fits hg p4)
    have hge:=hcap w (nn+k) mm
    refine ⟨w.drew.alloc (.cells (((flatSV (C t1) ((l1.drop i).take nn)).map (SV.va (ads m))).toArray ++ ((flatSV (C t1) ((l2.drop i2).take k)).map (SV.va (ads m))).toArray ++ Builtin.zeroCells z.cells (grownCap w (nn+k) mm t1 - (nn+k))) t1),grownCap w (nn+k) mm t1 - (nn+k),?_,?_⟩
    · rw [show nn+k+(grownCap w (nn+k) mm t1 - (nn+k))=grownCap w (nn+k) mm t1 by omega]
      simp only [SV.va,has,hax,cond_true]
      exact hr
    · intro g hg
      have:=MemOK.newO' (w:=w.drew) hm.drew c1 (.cells (((flatSV (C t1) ((l1.drop i).take nn)).map (SV.va (ads m))).toArray ++ ((flatSV (C t1) ((l2.drop i2).take k)).map (SV.va (ads m))).toArray ++ Builtin.zeroCells z.cells (grownCap w (nn+k) mm t1 - (nn+k))) t1) (fun w a hw=>by simp [World.frozen?,hw])
       (C t1).sz (.rows t1 ((l1.drop i).take nn ++ (l2.drop i2).take k ++ zw (grownCap w (nn+k) mm t1 - (nn+k)) (C t1).dflt)) g hg
       (((flat_append (ad:=ads m) _ _ z.cells (hzz _) hzs hn0 _).ads _).ok w.drew t1 true g)
       (fun t' x hx=>by
         rcases (CsIn.rows (((hr1.sub fun x hx=>wk (xu hx)).app (hr2.sub fun x hx=>wk (xu hx))).app (RowsOf.rep (grownCap w (nn+k) mm t1 - (nn+k))))) t' x hx with h1 | hfl
         · exact .inl h1
         · exact .inr ⟨hfl.2 _,fun b hb=>by rw [hfl.1] at hb;cases hb⟩)
      exact this
   split at hl
   · -- it may be written
     rename_i hwr
     have hgo:((nth m c).orHas k).getD true=true:=by rw [Ck.orHas_ok,hs1];simp
     have honN:∀ (b ba sz:Nat) (cs:Cells C),(⟨b,ba,sz,true,(nth m c).orHas k,cs⟩:Ck C).on=true:=by
      intro b ba sz cs
      unfold Ck.on
      cases hg':(nth m c).orHas k with
      | none=>rfl
      | some b=>rw [hg'] at hgo;simpa using hgo
     by_cases hroom:nn+k≤mm
     · -- room
       have hcellrow:∀ j,j<k*(C t1).sz→(nth m c).ad.at (i+nn+j / (C t1).sz) (j % (C t1).sz)=⟨(nth m c).block,(nth m c).base+i*(nth m c).sz+nn*ti.size+j,none⟩:=by
        intro j hj
        have hdm:=uc j (C t1).sz
        simp only [Ck.ad,Ad.at,hcsz,hsz]
        congr 1
        rw [yj,yj]
        have:j / (C t1).sz*(C t1).sz+j % (C t1).sz=j:=by rw [xn];omega
        omega
       have hpos:0<(C t1).sz:=by omega
       have hisSome:∀ j,j<((flatSV (C t1) ((l2.drop i2).take k)).map (SV.va (ads m))).length→(w.cell? ⟨(nth m c).block,(nth m c).base+i*(nth m c).sz+nn*ti.size+j,none⟩).isSome=true:=by
        intro j hj
        rw [hnl,hsz] at hj
        rw [← hcellrow j hj]
        have hd:j / (C t1).sz<k:=by apply vb;rw [xn];exact hj
        rw [hok _ (by omega) _ (zc _ hpos)];rfl
       have hr:=run_append_in (P:=P) (w:=w) t ty t1 ti hu hti (nth m c).block ((nth m c).base+i*(nth m c).sz) nn mm ((ads m c2').at i2 0) k q2 _ hnl hnews (flat_one _ _ _) hroom hisSome
        (fun j _=>hm.wrok _ (nth_mem hc1) hwr hlive _ rfl)
       obtain ⟨g1,g2,g3,g4,g5⟩:=heap_setCells (nth m c).block ((flatSV (C t1) ((l2.drop i2).take k)).map (SV.va (ads m))) ((nth m c).base+i*(nth m c).sz+nn*ti.size) w
       have hupd:MemOK S w0 (w.setCells (nth m c).block ((nth m c).base+i*(nth m c).sz+nn*ti.size) ((flatSV (C t1) ((l2.drop i2).take k)).map (SV.va (ads m)))) (setCk m c (.rows t1 (l1.take (i+nn) ++ (l2.drop i2).take k ++ l1.drop (i+nn+k)))):=by
        refine hm.upd hwr hlive g3 g4 g5 g2 g1 (fun a=>World.frozen?_setCells _ _ _ _ _) _ (by simp [Ck.live,Ck.alive,Ck.on] at hs1 ⊢;exact hs1) ?_ (CsIn.rows (((hr1.sub fun x hx=>xu hx).app (hr2.sub fun x hx=>wk (xu hx))).app (hr1.sub fun x hx=>wk hx)))
        refine ⟨hcsz,fun r hr' f hf => ?_⟩
        have e0:({ nth m c with cells:=.rows t1 (l1.take (i+nn) ++ (l2.drop i2).take k ++ l1.drop (i+nn+k)) }:Ck C).ad=(nth m c).ad:=rfl
        rw [e0]
        have hlen1:(l1.take (i+nn)).length=i+nn:=by simp;omega
        have hlen2:((l2.drop i2).take k).length=k:=by simp;omega
        have hlen3:(l1.take (i+nn) ++ (l2.drop i2).take k ++ l1.drop (i+nn+k)).length=l1.length:=by simp;omega
        rw [hlen3] at hr'
        have hoff:(nth m c).ad.at r f=⟨(nth m c).block,(nth m c).base+(r*(C t1).sz+f),none⟩:=by simp [Ck.ad,Ad.at,hcsz]
        by_cases hin:i+nn≤r∧r<i+nn+k
        · have hj:(r - (i+nn))*(C t1).sz+f<((flatSV (C t1) ((l2.drop i2).take k)).map (SV.va (ads m))).length:=by
           rw [hnl,hsz]
           have:=xr (C t1).sz (show (r - (i+nn))+1≤k by omega)
           rw [yj] at this;omega
          have:=World.cell?_setCells_in (nth m c).block _ ((nth m c).base+i*(nth m c).sz+nn*ti.size) w hisSome _ hj
          have e1:(⟨(nth m c).block,(nth m c).base+i*(nth m c).sz+nn*ti.size+((r - (i+nn))*(C t1).sz+f),none⟩:Addr)=(nth m c).ad.at r f:=by
           rw [hoff,hcsz,hsz]
           congr 1
           have:r*(C t1).sz=(i+nn+(r - (i+nn)))*(C t1).sz:=by congr 1;omega
           rw [this,yj,yj];omega
          rw [e1] at this
          rw [this]
          have e2:(l1.take (i+nn) ++ (l2.drop i2).take k ++ l1.drop (i+nn+k)).getD r (C t1).dflt=((l2.drop i2).take k).getD (r - (i+nn)) (C t1).dflt:=by
           simp only [xg]
           rw [zf (by simp;omega),yi (by omega),hlen1]
          rw [e2]
          have hg:=flatSV_get (C t1) ((l2.drop i2).take k) (r - (i+nn)) f (by omega) hf
          rw [← zt hj,zh,hg];rfl
        · rw [World.cell?_setCells_out]
          · rw [hok r hr' f hf]
            have e2:(l1.take (i+nn) ++ (l2.drop i2).take k ++ l1.drop (i+nn+k)).getD r (C t1).dflt=l1.getD r (C t1).dflt:=by
             simp only [xg]
             by_cases h1:r<i+nn
             · rw [zf (by simp;omega),zf (by omega),yf h1]
             · rw [yi (by simp;omega)]
               simp only [zu,hlen1,hlen2,wd]
               rw [show i+nn+k+(r - (i+nn+k))=r by omega]
            rw [e2]
          · intro _ _
            rw [hoff,hnl,hcsz,hsz]
            simp only
            rcases vu r (i+nn) with h1 | h1
            · left
              have:=xr (C t1).sz (show r+1≤i+nn by omega)
              rw [yj,yj] at this;omega
            · right
              have:=xr (C t1).sz (show i+nn+k≤r by omega)
              rw [yj,yj] at this;omega
       have hltu:memLt (setCk m c (.rows t1 (l1.take (i+nn) ++ (l2.drop i2).take k ++ l1.drop (i+nn+k)))).length (setCk m c (.rows t1 (l1.take (i+nn) ++ (l2.drop i2).take k ++ l1.drop (i+nn+k))))=true:=by
        rw [length_setCk]
        have:∀ (r:List (Ck C)) (c k:Nat) (cs:List (C t1).α),memLt k r=true→memLt k (setCk r c (.rows t1 cs))=true:=by
         intro r
         induction r with
         | nil=>intro c k cs h;exact h
         | cons y r ih=>
           intro c k cs h
           simp only [memLt,zn] at h
           cases c with
           | zero=>simp [setCkN,setCk0,setCkS,memLt,h.2,Ck.lt]
           | succ c=>simp [setCkN,setCk0,setCkS,memLt,h.1,ih c k cs h.2]
        exact this m c _ _ c1
       have hcu:nth (setCk m c (.rows t1 (l1.take (i+nn) ++ (l2.drop i2).take k ++ l1.drop (i+nn+k)))) c={ nth m c with cells:=.rows t1 (l1.take (i+nn) ++ (l2.drop i2).take k ++ l1.drop (i+nn+k)) }:=by
        rw [nth_setCk,if_pos ⟨rfl,hc1⟩]
       have hmv:=hupd.move hltu (c:=c) (t:=t1) (by rw [hcu]) (by rw [hcu];exact hwr) (by rw [hcu];exact hs1) ((nth m c).orHas k) hgo i
       have hss:∀ (r:List (Ck C)) (c:Nat) (x y:Cells C),setCk (setCk r c x) c y=setCk r c y:=by
        intro r
        induction r with
        | nil=>intro c x y;rfl
        | cons z r ih=>intro c x y;cases c with
          | zero=>rfl
          | succ c=>simp [setCkN,setCk0,setCkS,ih]
       rw [hss,hcu] at hmv
       have hlen1:(l1.take (i+nn)).length=i+nn:=by simp;omega
       have hdr:(l1.take (i+nn) ++ (l2.drop i2).take k ++ l1.drop (i+nn+k)).drop i=(l1.drop i).take nn ++ (l2.drop i2).take k ++ l1.drop (i+nn+k):=by
        rw [wt,qh (by omega),← wt,List.drop_take,show i+nn - i=nn by omega]
       simp only [hdr] at hmv
       have hsp:(l1.drop (i+nn+k)).length=l1.length - (i+nn+k):=by simp
       refine ⟨_,_,.sl m.length 0 (nn+k) mm,.inl ?_,hmv,?_,hadsk _,by simp [hlk],.inr c2⟩
       rotate_left
       · have:=hl (nth m c).block ((nth m c).base+i*(nth m c).sz) (l1.drop (i+nn+k)) mm hroom (by omega)
         simp only [hcsz] at this ⊢
         exact this
       · rw [hexec _ _ (by simp only [SV.va,has,hax,cond_true];exact hr)]
         simp only [SV.va,hadsn,Ck.ad,honN,cond_true,Ad.at]
         simp
     · -- none
       obtain ⟨w',cap,hr,hmem⟩:=hgrow (by omega)
       have hm2:=(hmem _ hgo).kill c
       rw [setCk_app _ _ _ _ hc1] at hm2
       refine ⟨_,_,.sl m.length 0 (nn+k) (nn+k+cap),.inl ?_,hm2,?_,hadsk _,by simp [hlk],.inr c2⟩
       rotate_left
       · exact hl w.heap.size 0 (zw cap (C t1).dflt) (nn+k+cap) (by omega) (by simp)
       · rw [hexec _ _ hr]
         simp only [SV.va,hadsn,Ck.ad,honN,cond_true,Ad.at]
         simp
   · -- it may not
     obtain ⟨p5,hl⟩:=hl
     have p5:=p5
     obtain ⟨w',cap,hr,hmem⟩:=hgrow p5
     have hm2:=hmem none rfl
     refine ⟨_,_,.sl m.length 0 (nn+k) (nn+k+cap),.inl ?_,hm2,?_,ads_append _ _,by simp,.inr c2⟩
     rotate_left
     · have:=hl w.heap.size (zw cap (C t1).dflt)
       simp only [ye] at this
       exact this
     · rw [hexec _ _ hr]
       simp only [SV.va,ads_append_new,Ck.ad,Ck.on,cond_true,Ad.at]
       simp
 · -- onto nil
   obtain ⟨hlf,hl⟩:=hl
   obtain ⟨p3,p4⟩:=hlf
   obtain ⟨hask2,hl⟩:=(conj_iff _ _).1 hl
   have hc2:c2'<m.length:=lt_of_alive (show (nth m c2').alive=true by simp [Ck.alive,hcl2])
   have h0:k=0→(Builtin.append_ #[t,t] ty #[SV.nils.va (ads m),(SV.sl c2' i2 k q2).va (ads m)]).run P w=.ok (.slice none 0 0) w→
    Left P S w0 tm m w (execOp a.eval oo) K:=by
    intro e hr
    subst e
    refine ⟨w,_,.sl m.length 0 0 0,.inl ?_,hm.off c1 (x:=⟨0,0,(C t2).sz,true,some (xz 0 0),.rows t2 ((l2.drop i2).take 0 ++ [])⟩) rfl (CsIn.rows (by intro x hx;simp at hx)),hl 0 [] (fun _=>rfl),ads_append _ _,by simp,.inr c2⟩
    rw [hexec _ _ hr]
    simp only [SV.va,ads_append_new,Ck.ad,Ck.on]
    rfl
   rcases Ck.orNil_ok hask2 with hx | ⟨hxo,hk0,_⟩
   · have hax:(ads m c2').on=true:=hx
     have hnews:=read_rows hm hcl2 hx p3 hn0
     have hnl:((flatSV (C t2) ((l2.drop i2).take k)).map (SV.va (ads m))).length=k*ti.size:=by rw [zm,flatSV_len,hsz];congr 1;simp;omega
     by_cases hk:k=0
     · refine h0 hk ?_
       subst hk
       have hfc:=run_firstCells_some (P:=P) w ti.size 0 ((ads m c2').at i2 0) 0 q2 [] (by simp) (by simp)
       simp [Builtin.append_,run_underlying' hu,sizeOf,typeInfo,hti,Builtin.lenOf,SV.va,hax,hfc]
     · have hr:=run_append_nil (P:=P) w t ty t2 ti z hu hti hz ((ads m c2').at i2 0) k q2 _ hnl hnews (by omega) (hbytes _ p4) (by omega)
       have hge:=hcap w k 0
       have hmem:=MemOK.newO' (w:=w.drew) hm.drew c1 (.cells (((flatSV (C t2) ((l2.drop i2).take k)).map (SV.va (ads m))).toArray ++ Builtin.zeroCells z.cells (grownCap w k 0 t2 - k)) t2) (fun w a hw=>by simp [World.frozen?,hw])
        (C t2).sz (.rows t2 ((l2.drop i2).take k ++ zw (grownCap w k 0 t2 - k) (C t2).dflt)) (some (xz 0 k)) (by simp only [Option.getD_some];rw [uk];omega)
        (by
          have:=((flat_append (ad:=ads m) [] ((l2.drop i2).take k) z.cells (hzz _) hzs hn0 (grownCap w k 0 t2 - k)).ads (ads (m ++ [⟨w.drew.heap.size,0,(C t2).sz,true,some (xz 0 k),.rows t2 ((l2.drop i2).take k ++ zw (grownCap w k 0 t2 - k) (C t2).dflt)⟩]))).ok w.drew t2 true (some (xz 0 k))
          simpa [flatSV] using this)
        (fun t' x hx=>by
          rcases (CsIn.rows ((RowsOf.of (wr:=true) (nth_mem hc2) hcl2 (fun h _=>by rw [c5] at h;cases h) fun x hx=>wk (xu hx)).app (RowsOf.rep (grownCap w k 0 t2 - k)))) t' x hx with h1 | hfl
          · exact .inl h1
          · exact .inr ⟨hfl.2 _,fun b hb=>by rw [hfl.1] at hb;cases hb⟩)
       refine ⟨_,_,.sl m.length 0 k (k+(zw (grownCap w k 0 t2 - k) (C t2).dflt).length),.inl ?_,hmem,hl w.heap.size (zw (grownCap w k 0 t2 - k) (C t2).dflt) (fun h=>absurd h hk),ads_append _ _,by simp,.inr c2⟩
       have e1:k+(zw (grownCap w k 0 t2 - k) (C t2).dflt).length=grownCap w k 0 t2:=by simp;omega
       have e2:xz 0 k=true:=by rw [uk];omega
       rw [hexec _ _ (by simp only [SV.va,hax,cond_true];exact hr)]
       simp only [SV.va,ads_append_new,Ck.ad,Ck.on,e2,cond_true,Ad.at,e1]
       simp
   · refine h0 hk0 ?_
     subst hk0
     have hax:(ads m c2').on=false:=hxo
     simp [Builtin.append_,run_underlying' hu,sizeOf,typeInfo,hti,Builtin.lenOf,SV.va,hax,run_firstCells_none]
theorem eev_append {P:Program} {S:Sx} {w0 w:World} {n:Nat} {tm:Tm} {m:List (Ck C)} {a:Act} (h:ActOK (ads m) n tm a) (hm:MemOK S w0 w m) {al:List (Nat×Bool)} (ha:AlOK tm al) {cl:Call}
 {dst:Option Tmp} {ty:TypeId} {pos:String} {after:Array Edge} {g:Option (Nat×Bool)}
 {K:SV→List (Ck C)→Tr} (hl:eev P tm m al (.call cl) K):Left P S w0 tm m w (execOp a.eval ⟨dst,.call cl,ty,pos,after,g⟩) K:=by
 obtain ⟨callee,args,argTypes⟩:=cl
 simp only [eev] at hl
 split at hl <;> try (first | contradiction | exact False.elim hl)
 rotate_left
 · split at hl <;> try (first | contradiction | exact False.elim hl)
   rename_i t x hts hxs
   split at hl <;> try (first | contradiction | exact False.elim hl)
   rename_i e s hu hs
   have hargs:args = #[x]:=by apply xm;simpa using hxs
   have htys:argTypes = #[t]:=by apply xm;simpa using hts
   subst hargs htys
   exact eev_clear h hm ha hu hs hl
 split at hl <;> try (first | contradiction | exact False.elim hl)
 rename_i t t' so xo hts hxs
 split at hl <;> try (first | contradiction | exact False.elim hl)
 rotate_left
 · rename_i e s kq k0 hbeq hu hs hx
   split at hl <;> try (first | contradiction | exact False.elim hl)
   rename_i kn hut
   have hargs:args = #[so,xo]:=by apply xm;simpa using hxs
   have htys:argTypes = #[t,t']:=by apply xm;simpa using hts
   subst hargs htys
   exact eev_zeros h hm ha hu hut hs hx hl
 · rename_i e s c0 i0 n0 m0 hbeq hu hs hx
   split at hl <;> try (first | contradiction | exact False.elim hl)
   rename_i e' hut
   have hargs:args = #[so,xo]:=by apply xm;simpa using hxs
   have htys:argTypes = #[t,t']:=by apply xm;simpa using hts
   subst hargs htys
   have es:=ev_ok h hm.glob ha _ _ hs
   have ex:=ev_ok h hm.glob ha _ _ hx
   refine append_core (ty:=ty) h hm hu (fun v w' hr => ?_) hl
   have e1:(Builtin.append_ #[t,t'] ty #[s.va (ads m),(SV.sl c0 i0 n0 m0).va (ads m)]).run P w=(Builtin.append_ #[t,t] ty #[s.va (ads m),(SV.sl c0 i0 n0 m0).va (ads m)]).run P w:=by
    generalize s.va (ads m)=sv
    generalize (SV.sl c0 i0 n0 m0).va (ads m)=xv
    unfold Builtin.append_
    cases sv <;> simp [run_underlying' hu,run_underlying' hut]
   rw [← e1] at hr
   simp [execOp,resolve,invoke,builtin,es,ex,hr]
 rename_i e s x hbeq hu hs hx
 have htt:=zp hbeq
 subst htt
 have hargs:args = #[so,xo]:=by apply xm;simpa using hxs
 have htys:argTypes = #[t,t]:=by apply xm;simpa using hts
 subst hargs htys
 have es:=ev_ok h hm.glob ha _ _ hs
 have ex:=ev_ok h hm.glob ha _ _ hx
 refine append_core (ty:=ty) h hm hu (fun v w' hr => ?_) hl
 simp [execOp,resolve,invoke,builtin,es,ex,hr]
end Go.Vx
namespace Go.Vx
open Go
variable {C:Nat→Codec}
def rn:List Nat→Nat→Nat
 | [],_=>0
 | x :: _,0=>x
 | _ :: r,c+1=>rn r c
mutual
def SV.ren (ρ:List Nat):SV→SV
 | .ptr c i f=>.ptr (rn ρ c) i f
 | .sl c i n m=>.sl (rn ρ c) i n m
 | .agg vs=>.agg (SV.rens ρ vs)
 | .tup vs=>.tup (SV.rens ρ vs)
 | .ifc t v=>.ifc t (SV.ren ρ v)
 | .fn f a b=>.fn f (SV.rens ρ a) (SV.rens ρ b)
 | .cnd cs v=>.cnd cs (SV.ren ρ v)
 | .junk=>.junk
 | .undef=>.undef
 | .int k n=>.int k n
 | .bool b=>.bool b
 | .nilp=>.nilp
 | .nils=>.nils
 | .nili=>.nili
 | .nilf=>.nilf
 | .gp g=>.gp g
 | .mp c=>.mp (rn ρ c)
 | .val v=>.val v
def SV.rens (ρ:List Nat):List SV→List SV
 | []=>[]
 | v :: r=>SV.ren ρ v :: SV.rens ρ r
end
mutual
theorem SV.va_ren {n:Nat} {ρ:List Nat} {ad ad':Nat→Ad} (h:∀ c,c<n→ad c=ad' (rn ρ c)):∀ v:SV,SV.lt n v=true→SV.va ad v=SV.va ad' (v.ren ρ)
 | .junk,_ | .undef,_ | .int _ _,_ | .bool _,_ | .nilp,_ | .nils,_ | .nili,_ | .nilf,_ | .gp _,_ | .val _,_=>by simp [SV.va,SV.ren]
 | .ptr c i f,hv=>by simp [SV.lt] at hv;simp [SV.va,SV.ren,h c hv]
 | .sl c i f m,hv=>by simp [SV.lt] at hv;simp [SV.va,SV.ren,h c hv]
 | .mp c,hv=>by simp [SV.lt] at hv;simp [SV.va,SV.ren,h c hv]
 | .agg vs,hv=>by simp [SV.lt] at hv;simp [SV.va,SV.ren,SV.vas_ren h vs hv]
 | .tup vs,hv=>by simp [SV.lt] at hv;simp [SV.va,SV.ren,SV.vas_ren h vs hv]
 | .ifc t v,hv=>by simp [SV.lt] at hv;simp [SV.va,SV.ren,SV.va_ren h v hv]
 | .fn f a b,hv=>by simp [SV.lt] at hv;simp [SV.va,SV.ren,SV.vas_ren h a hv.1,SV.vas_ren h b hv.2]
 | .cnd cs v,hv=>by simp [SV.lt] at hv;simp [SV.va,SV.ren,SV.va_ren h v hv]
theorem SV.vas_ren {n:Nat} {ρ:List Nat} {ad ad':Nat→Ad} (h:∀ c,c<n→ad c=ad' (rn ρ c)):∀ vs:List SV,SV.lts n vs=true→SV.vas ad vs=SV.vas ad' (SV.rens ρ vs)
 | [],_=>rfl
 | v :: r,hv=>by simp [SV.lts] at hv;simp [SV.vas,SV.rens,SV.va_ren h v hv.1,SV.vas_ren h r hv.2]
end
def sbEq:SB→SB→List Prop
 | .t,.t=>[]
 | .f,.f=>[]
 | a,b=>[a.val=b.val]
mutual
def eqv (N:Nat):SV→SV→Option (List Prop)
 | .undef,.undef=>some []
 | .int k n,.int k' n'=>if sameKind k k' then some [n=n'] else none
 | .bool s,.bool s'=>some (sbEq s s')
 | .ptr c i f,.ptr c' i' f'=>if zj c c' && zj f f' then some [i=i'] else none
 | .nilp,.nilp=>some []
 | .sl c i n m,.sl c' i' n' m'=>if zj c c' then some [i=i',n=n',m=m'] else none
 | .nils,.nils=>some []
 | .nils,.sl c _ n m=>if Nat.ble N c then some [n=0,m=0] else none
 | .sl c _ n m,.nils=>if Nat.ble N c then some [n=0,m=0] else none
 | .agg a,.agg b=>eqvs N a b
 | .tup a,.tup b=>eqvs N a b
 | .ifc t v,.ifc t' v'=>if zj t t' then eqv N v v' else none
 | .nili,.nili=>some []
 | .fn (.func f) a b,.fn (.func f') a' b'=>if zj f f' then match eqvs N a a',eqvs N b b' with
   | some p,some q=>some (p ++ q)
   | _,_=>none else none
 | .fn (.yield l) [] [],.fn (.yield l') [] []=>some [l=l']
 | .nilf,.nilf=>some []
 | .gp g,.gp g'=>if zj g g' then some [] else none
 | .mp c,.mp c'=>if zj c c' then some [] else none
 | .val v,.val v'=>some [v=v']
 | .val v,.nils=>some [v=.slice none 0 0]
 | _,_=>none
def eqvs (N:Nat):List SV→List SV→Option (List Prop)
 | [],[]=>some []
 | a :: r,b :: s=>match eqv N a b,eqvs N r s with
   | some p,some q=>some (p ++ q)
   | _,_=>none
 | _,_=>none
end
mutual
theorem eqv_ok {N:Nat} {ad:Nat→Ad} (hN:∀ c,N≤c→(ad c).on=false):∀ (a b:SV) (ps:List Prop),eqv N a b=some ps→allOf ps→SV.va ad a=SV.va ad b:=by
 intro a b ps h hp
 unfold eqv at h
 split at h
 case h_1=>rfl
 case h_2=>split at h <;> simp at h;subst h;rename_i hk;simp [allOf] at hp;simp [SV.va,hp,sameKind_eq hk]
 case h_3 s s'=>
  simp only [Option.some.injEq] at h;subst h
  cases s <;> cases s' <;> first | rfl | (simp only [sbEq,allOf,and_true] at hp;simp only [SV.va];rw [hp])
 case h_4=>split at h <;> simp at h;subst h;rename_i hk;simp at hk;simp [allOf] at hp;simp [SV.va,hp,hk]
 case h_5=>rfl
 case h_6=>split at h <;> simp at h;subst h;rename_i hk;simp at hk;simp [allOf] at hp;simp [SV.va,hp,hk]
 case h_7=>rfl
 case h_8=>split at h <;> simp at h;subst h;rename_i hk;simp at hk;simp [allOf] at hp;simp [SV.va,hN _ hk,hp]
 case h_9=>split at h <;> simp at h;subst h;rename_i hk;simp at hk;simp [allOf] at hp;simp [SV.va,hN _ hk,hp]
 case h_10 a b=>simp only [SV.va];rw [eqvs_ok hN a b ps h hp]
 case h_11 a b=>simp only [SV.va];rw [eqvs_ok hN a b ps h hp]
 case h_12 t v t' v'=>
  split at h
  · rename_i hk;simp at hk;subst hk;simp only [SV.va];rw [eqv_ok hN v v' ps h hp]
  · cases h
 case h_13=>rfl
 case h_14 f a b f' a' b'=>
  split at h
  rotate_left
  · cases h
  rename_i hk;simp at hk;subst hk
  split at h <;> simp at h
  rename_i p q hp' hq'
  subst h
  have:=(allOf_append p q).1 hp
  simp only [SV.va]
  rw [eqvs_ok hN a a' p hp' this.1,eqvs_ok hN b b' q hq' this.2]
 case h_15=>simp at h;subst h;simp [allOf] at hp;simp [SV.va,hp]
 case h_16=>rfl
 case h_17=>split at h <;> simp at h;rename_i hk;simp at hk;subst hk;rfl
 case h_18=>split at h <;> simp at h;rename_i hk;simp at hk;subst hk;rfl
 case h_19=>simp at h;subst h;simp [allOf] at hp;simp [SV.va,hp]
 case h_20=>simp at h;subst h;simp [allOf] at hp;simp [SV.va,hp]
 case h_21=>cases h
theorem eqvs_ok {N:Nat} {ad:Nat→Ad} (hN:∀ c,N≤c→(ad c).on=false):∀ (a b:List SV) (ps:List Prop),eqvs N a b=some ps→allOf ps→SV.vas ad a=SV.vas ad b:=by
 intro a b ps h hp
 unfold eqvs at h
 split at h
 · rfl
 · rename_i a r b s
   split at h <;> simp at h
   rename_i p q hp' hq'
   subst h
   have:=(allOf_append p q).1 hp
   simp only [SV.vas]
   rw [eqv_ok hN a b p hp' this.1,eqvs_ok hN r s q hq' this.2]
 · cases h
end
def castMp {C:Nat→Codec} {tk tv tk' tv':Nat} (h:tk'=tk∧tv'=tv) (l:List ((C tk').α×(C tv').α×Nat)):List ((C tk).α×(C tv).α×Nat):=h.1 ▸ h.2 ▸ l
def cellsEq (N:Nat) (ρ:List Nat):Cells C→Cells C→Option (List Prop)
 | .rows t l,.rows t' l'=>if h:t'=t then some [l=castL h l'] else none
 | .one vs,.one vs'=>onesEq (SV.rens ρ vs) vs'
 | .mp tk tv l clk,.mp tk' tv' l' clk'=>if h:tk'=tk∧tv'=tv then some [l=castMp h l',clk=clk'] else none
 | .it mc seen clk,.it mc' seen' clk'=>if zj (rn ρ mc) mc' then some [seen=seen',clk=clk'] else none
 | .dead,_=>some []
 | _,_=>none
where
 onesEq:List SV→List SV→Option (List Prop)
 | [],_=>some []
 | .junk :: r,_ :: s=>onesEq r s
 | a :: r,b :: s=>match eqv N a b,onesEq r s with
   | some p,some q=>some (p ++ q)
   | _,_=>none
 | _,_=>none
def onEq:Option Bool→Option Bool→List Prop
 | none,none=>[]
 | none,some b=>[b=true]
 | some a,none=>[a=true]
 | some a,some b=>[a=b]
def bImp:Bool→Bool→Bool
 | true,b=>b
 | false,_=>true
def ckEq (N:Nat) (ρ:List Nat) (a b:Ck C):Option (List Prop):=
 if zj a.sz b.sz && bImp a.wr b.wr then
  (cellsEq N ρ a.cells b.cells).map fun ps=>onEq a.gl b.gl ++ (a.block=b.block) :: (a.base=b.base) :: ps
 else none
def cksEq (N:Nat) (ρ:List Nat) (M:List (Ck C)):List Nat→List (Ck C)→Option (List Prop)
 | [],[]=>some []
 | p :: r,a :: s=>if xz p M.length then match ckEq N ρ a (nth M p),cksEq N ρ M r s with
     | some x,some y=>some (x ++ y)
     | _,_=>none else none
 | _,_=>none
def notIn (p:Nat):List Nat→Bool
 | []=>true
 | x :: r=>!(zj x p) && notIn p r
def apartB:List Nat→List (Ck C)→Bool
 | [],_=>true
 | p :: r,[]=>notIn p r && apartB r []
 | p :: r,a :: s=>(if a.wr then notIn p r else wrNot p r s) && apartB r s
where
 wrNot (p:Nat):List Nat→List (Ck C)→Bool
 | x :: r,a :: s=>(if a.wr then !(zj x p) else true) && wrNot p r s
 | _,_=>true
def renCells (ρ:List Nat):Cells C→Cells C
 | .rows t l=>.rows t l
 | .one vs=>.one (SV.rens ρ vs)
 | .mp tk tv l clk=>.mp tk tv l clk
 | .it mc seen clk=>.it (rn ρ mc) seen clk
 | .dead=>.dead
def renCk (ρ:List Nat):Ck C→Ck C
 | ⟨b,ba,sz,w,g,cs⟩=>⟨b,ba,sz,w,g,renCells ρ cs⟩
def backU (ρ':List Nat):List Nat→List (Ck C)→List (Ck C)→List (Ck C)→List (Ck C)
 | p :: r,a :: s,o :: out,M=>backU ρ' r s out (match a.wr with
     | true=>setCk M p (renCells ρ' o.cells)
     | false=>M)
 | _,_,_,M=>M
def backN (ρ':List Nat):List (Ck C)→List (Ck C)→List (Ck C)
 | _ :: s,_ :: out=>backN ρ' s out
 | [],out=>out.map (renCk ρ')
 | _ :: _,[]=>[]
def upFrom:Nat→Nat→List Nat
 | _,0=>[]
 | n,k+1=>n :: upFrom (n+1) k
def extB:List (Ck C)→List (Ck C)→Bool
 | [],out=>out.all fun c=>c.wr || !c.live
 | _ :: s,_ :: out=>extB s out
 | _ :: _,[]=>false
structure Ext (m m':List (Ck C)):Prop where
 len:m.length≤m'.length
 same:∀ k,k<m.length→(nth m' k).block=(nth m k).block∧(nth m' k).base=(nth m k).base∧(nth m' k).sz=(nth m k).sz∧(nth m' k).wr=(nth m k).wr∧(nth m' k).on=(nth m k).on
 new:∀ k,m.length≤k→k<m'.length→(nth m' k).live=true→(nth m' k).wr=true
def Ck.noOwn (c:Ck C):Bool:=match c.cells with
 | .rows t _=>!((C t).own && c.wr)
 | .mp _ tv _ _=>!((C tv).own && c.wr)
 | _=>true
theorem Ck.noOwn_ok {c:Ck C} (h:c.noOwn=true) {t:Nat} {x:(C t).α} (hx:c.cells.Has t x):((C t).own && c.wr)=false:=by
 unfold Ck.noOwn at h
 rcases hx with ⟨l,he,_⟩ | ⟨tk,l,clk,he,_⟩
 · rw [he] at h;simp only [yp] at h;exact h
 · rw [he] at h;simp only [yp] at h;exact h
theorem Ck.noOwn_ro {c:Ck C} (h:c.wr=false):c.noOwn=true:=by
 unfold Ck.noOwn
 split <;> simp [h]
def wrS (m:List (Ck C)):Sx:=⟨fun k=>∃ c∈m,c.wr=true∧c.on=true∧c.block=k,[],fun b=>∃ c∈m,∃ t x,c.cells.Has t x∧b∈(C t).blks x⟩
theorem onesEq_ok {N:Nat} {ad:Nat→Ad} (hN:∀ c,N≤c→(ad c).on=false) (w:World) (b:Nat→Addr):∀ (a c:List SV) (ps:List Prop),cellsEq.onesEq N a c=some ps→allOf ps→a.length≤c.length∧∀ f,f<a.length→cellIs ad w (b f) (c.getD f .junk)→cellIs ad w (b f) (a.getD f .junk)
 | [],_,_,_,_=>⟨Nat.zero_le _,fun f hf=>by simp at hf⟩
 | x :: r,[],_,h,_=>by cases x <;> simp [cellsEq.onesEq] at h
 | x :: r,y :: s,ps,h,hp=>by
   have cell_any:∀ (v:SV) (a:Addr),cellIs ad w a v→cellIs ad w a .junk:=by
    intro v a hv
    cases v <;> simp only [cellIs] at hv ⊢ <;> first | exact hv | exact ⟨_,hv⟩
   by_cases hx:x=.junk
   · subst hx
     simp only [cellsEq.onesEq] at h
     have ih:=onesEq_ok hN w (fun f=>b (f+1)) r s ps h hp
     refine ⟨by simp [ih.1],fun f hf hc => ?_⟩
     cases f with
     | zero=>exact cell_any _ _ hc
     | succ f=>exact ih.2 f (by simpa using hf) hc
   · have h':(match eqv N x y,cellsEq.onesEq N r s with | some p,some q=>some (p ++ q) | _,_=>none)=some ps:=by
      cases x <;> first | exact h | exact absurd rfl hx
     split at h' <;> simp at h'
     rename_i p q hp' hq'
     subst h'
     have hpq:=(allOf_append p q).1 hp
     have ih:=onesEq_ok hN w (fun f=>b (f+1)) r s q hq' hpq.2
     refine ⟨by simp [ih.1],fun f hf hc => ?_⟩
     cases f with
     | zero=>
       have e:=eqv_ok hN x y p hp' hpq.1
       simp only [List.getD_cons_zero] at hc ⊢
       have hy:y≠.junk:=by rintro rfl;cases x <;> simp [eqv] at hp'
       cases x <;> first | exact absurd rfl hx | (cases y <;> first | exact absurd rfl hy | (simp only [cellIs] at hc ⊢;rw [e];exact hc))
     | succ f=>exact ih.2 f (by simpa using hf) hc
def offOf (a:Ck C):Ck C:=match a with
 | ⟨b,ba,sz,w,_,cs⟩=>⟨b,ba,sz,w,some false,match cs with
   | .rows t _=>.rows t []
   | _=>.dead⟩
def fixR (n0:Nat):Nat→List Nat→List Nat
 | _,[]=>[]
 | n,p :: r=>match xz p n0 with
   | true=>p :: fixR n0 n r
   | false=>n :: fixR n0 (n+1) r
def offs (n0:Nat):List Nat→List (Ck C)→List (Ck C)
 | p :: r,a :: s=>match xz p n0 with
   | true=>offs n0 r s
   | false=>offOf a :: offs n0 r s
 | _,_=>[]
theorem offs_off (n0:Nat):∀ (r:List Nat) (s:List (Ck C)),∀ x∈offs n0 r s,x.on=false∧(∀ t y,¬ x.cells.Has t y)∧∀ n,x.lt n=true
 | [],_,x,hx=>by simp [offs] at hx
 | _ :: _,[],x,hx=>by simp [offs] at hx
 | p :: r,a :: s,x,hx=>by
   simp only [offs] at hx
   split at hx
   · exact offs_off n0 r s x hx
   · rcases List.mem_cons.1 hx with rfl | hx
     · obtain ⟨b,ba,sz,w,g,cs⟩:=a
       refine ⟨rfl,fun t y h => ?_,fun n => ?_⟩
       · rcases h with ⟨l,h,hy⟩ | ⟨_,_,_,h,_⟩
         · cases cs <;> simp only [offOf] at h <;> first | (cases h;done) | (simp only [Cells.rows.injEq] at h;obtain ⟨rfl,h⟩:=h;rw [← eq_of_heq h] at hy;cases hy)
         · cases cs <;> simp only [offOf] at h <;> cases h
       · cases cs <;> rfl
     · exact offs_off n0 r s x hx
theorem nth_app:∀ (a b:List (Ck C)) (j:Nat),nth (a ++ b) j=if j<a.length then nth a j else nth b (j - a.length):=by
 intro a
 induction a with
 | nil=>intro b j;simp
 | cons x a ih=>intro b j;cases j with
   | zero=>simp [nth]
   | succ j=>simp [nth,ih]
theorem memLt_app {n:Nat}:∀ {a b:List (Ck C)},memLt n a=true→memLt n b=true→memLt n (a ++ b)=true
 | [],_,_,h=>h
 | x :: a,b,h,h'=>by
   simp only [memLt,List.cons_append,zn] at h ⊢
   exact ⟨h.1,memLt_app h.2 h'⟩
mutual
theorem SV.lt_mono {k n:Nat} (h:k≤n):∀ v:SV,SV.lt k v=true→SV.lt n v=true
 | .ptr c _ _,hv=>by simp [SV.lt] at hv ⊢;omega
 | .sl c _ _ _,hv=>by simp [SV.lt] at hv ⊢;omega
 | .mp c,hv=>by simp [SV.lt] at hv ⊢;omega
 | .agg vs,hv=>by simp [SV.lt] at hv ⊢;exact SV.lts_mono h vs hv
 | .tup vs,hv=>by simp [SV.lt] at hv ⊢;exact SV.lts_mono h vs hv
 | .ifc t v,hv=>by simp [SV.lt] at hv ⊢;exact SV.lt_mono h v hv
 | .fn f a b,hv=>by simp [SV.lt] at hv ⊢;exact ⟨SV.lts_mono h a hv.1,SV.lts_mono h b hv.2⟩
 | .cnd cs v,hv=>by simp [SV.lt] at hv ⊢;exact SV.lt_mono h v hv
 | .junk,_ | .undef,_ | .int _ _,_ | .bool _,_ | .nilp,_ | .nils,_ | .nili,_ | .nilf,_ | .gp _,_ | .val _,_=>by simp [SV.lt]
theorem SV.lts_mono {k n:Nat} (h:k≤n):∀ vs:List SV,SV.lts k vs=true→SV.lts n vs=true
 | [],_=>rfl
 | v :: r,hv=>by simp [SV.lts] at hv ⊢;exact ⟨SV.lt_mono h v hv.1,SV.lts_mono h r hv.2⟩
end
theorem Ck.lt_mono {k n:Nat} (hkn:k≤n) {y:Ck C} (h:y.lt k=true):y.lt n=true:=by
 obtain ⟨b,ba,sz,w,g,cs⟩:=y
 cases cs <;> simp only [Ck.lt] at h ⊢
 · exact SV.lts_mono hkn _ h
 · simp at h ⊢;omega
theorem memLt_mono {k n:Nat} (hkn:k≤n):∀ {l:List (Ck C)},memLt k l=true→memLt n l=true
 | [],h=>h
 | y :: l,h=>by
   simp only [memLt,zn] at h ⊢
   exact ⟨Ck.lt_mono hkn h.1,memLt_mono hkn h.2⟩
theorem MemOK.offs {S:Sx} {w0 w:World}:∀ {o m:List (Ck C)},MemOK S w0 w m→memLt m.length m=true→(∀ x∈o,x.on=false∧(∀ t y,¬ x.cells.Has t y)∧∀ n,x.lt n=true)→MemOK S w0 w (m ++ o)∧memLt (m ++ o).length (m ++ o)=true
 | [],m,h,hl,_=>by simpa using ⟨h,hl⟩
 | x :: o,m,h,hl,ho=>by
   obtain ⟨h1,h2,h3⟩:=ho x (by simp)
   have hm:=h.off hl h1 (fun t y hy=>absurd hy (h2 t y))
   have hl':memLt (m ++ [x]).length (m ++ [x])=true:=memLt_app (memLt_mono (by simp) hl) (by simp [memLt,h3])
   have:=MemOK.offs hm hl' (fun y hy=>ho y (yv _ hy))
   simpa using this
theorem ads_offs {m o:List (Ck C)} (ho:∀ x∈o,x.on=false):(∀ c,c<m.length→ads m c=ads (m ++ o) c)∧∀ c,m.length≤c→(ads (m ++ o) c).on=false:=by
 refine ⟨fun c hc=>by simp [ads,nth_app,hc],fun c hc => ?_⟩
 simp only [ads,nth_app,Nat.not_lt.2 hc,if_false]
 rcases vu (c - m.length) o.length with h | h
 · exact ho _ (nth_mem h)
 · rw [nth_ge h];rfl
end Go.Vx
namespace Go.Vx
open Go
variable {C:Nat→Codec}
theorem cksEq_ok {N:Nat} {ρ:List Nat} {M:List (Ck C)}:∀ {r:List Nat} {s:List (Ck C)} {ps:List Prop},cksEq N ρ M r s=some ps→allOf ps→
 r.length=s.length∧∀ k,k<s.length→rn r k<M.length∧∃ qs,ckEq N ρ (nth s k) (nth M (rn r k))=some qs∧allOf qs
 | [],[],_,_,_=>⟨rfl,fun k hk=>by simp at hk⟩
 | [],_ :: _,_,h,_=>by simp [cksEq] at h
 | _ :: _,[],_,h,_=>by simp [cksEq] at h
 | p :: r,a :: s,ps,h,hp=>by
   simp only [cksEq] at h
   split at h
   · rename_i hlt
     have hlt:p<M.length:=by simpa using hlt
     split at h <;> try contradiction
     rename_i x y hx hy
     simp only [Option.some.injEq] at h;subst h
     have hxy:=(allOf_append x y).1 hp
     have ih:=cksEq_ok hy hxy.2
     refine ⟨by simp [ih.1],fun k hk => ?_⟩
     cases k with
     | zero=>exact ⟨hlt,x,hx,hxy.1⟩
     | succ k=>exact ih.2 k (by simpa using hk)
   · cases h
structure CkEq (N:Nat) (ρ:List Nat) (a b:Ck C):Prop where
 block:a.block=b.block
 base:a.base=b.base
 sz:a.sz=b.sz
 wr:a.wr=true→b.wr=true
 on:a.on=b.on
 alive:a.alive=true→b.alive=true
 cells:∃ qs,cellsEq N ρ a.cells b.cells=some qs∧allOf qs
theorem CkEq.live {N:Nat} {ρ:List Nat} {a b:Ck C} (h:CkEq N ρ a b) (hl:a.live=true):b.live=true:=
 Ck.live_iff.2 ⟨h.alive (Ck.live_iff.1 hl).1,by rw [← h.on];exact (Ck.live_iff.1 hl).2⟩
theorem onEq_ok {a b:Ck C} (h:allOf (onEq a.gl b.gl)):a.on=b.on:=by
 unfold Ck.on
 cases ha:a.gl <;> cases hb:b.gl <;> rw [ha,hb] at h <;> simp only [onEq] at h
 · exact h.1.symm
 · exact h.1
 · exact h.1
theorem ckEq_ok {N:Nat} {ρ:List Nat} {a b:Ck C} {qs:List Prop} (h:ckEq N ρ a b=some qs) (hp:allOf qs):CkEq N ρ a b:=by
 unfold ckEq at h
 split at h
 · rename_i hc
   simp only [zn] at hc
   obtain ⟨h1,h2⟩:=hc
   cases hce:cellsEq N ρ a.cells b.cells with
   | none=>simp [hce] at h
   | some ps=>
     simp only [hce,yk,Option.some.injEq] at h;subst h
     obtain ⟨e0,e1,e2,e3⟩:=(allOf_append _ _).1 hp
     refine ⟨e1,e2,zp h1,fun hw => ?_,onEq_ok e0,fun hl => ?_,_,hce,e3⟩
     · rw [hw] at h2;exact h2
     · unfold Ck.alive at hl ⊢
       unfold cellsEq at hce
       split at hce
       · rename_i heq1 heq2;rw [heq2]
       · rename_i heq1 heq2;rw [heq2]
       · rename_i heq1 heq2;rw [heq2]
       · rename_i heq1 heq2;rw [heq2]
       · rename_i heq1;rw [heq1] at hl;cases hl
       · cases hce
 · cases h
theorem apartB_ok:∀ {r:List Nat} {s:List (Ck C)},apartB r s=true→r.length=s.length→∀ i j,i<s.length→j<s.length→i≠j→(nth s i).wr=true→rn r i≠rn r j
 | [],[],_,_,i,_,hi,_,_,_=>by simp at hi
 | [],_ :: _,_,h,_,_,_,_,_,_=>by simp at h
 | _ :: _,[],_,h,_,_,_,_,_,_=>by simp at h
 | p :: r,a :: s,h,hl,i,j,hi,hj,hij,hw=>by
   have notIn_ok:∀ (r:List Nat),notIn p r=true→∀ k,k<r.length→rn r k≠p:=by
    intro r
    induction r with
    | nil=>intro _ k hk;simp at hk
    | cons x r ih=>
      intro h k hk
      simp only [notIn,zn,yp] at h
      cases k with
      | zero=>exact xl h.1
      | succ k=>exact ih h.2 k (by simpa using hk)
   have wrNot_ok:∀ (r:List Nat) (s:List (Ck C)),apartB.wrNot p r s=true→∀ k,k<r.length→k<s.length→(nth s k).wr=true→rn r k≠p:=by
    intro r
    induction r with
    | nil=>intro s _ k hk;simp at hk
    | cons x r ih=>
      intro s h k hk hks hwk
      cases s with
      | nil=>simp at hks
      | cons y s=>
        simp only [apartB.wrNot,zn] at h
        cases k with
        | zero=>
          simp only [nth] at hwk
          have:=h.1
          rw [hwk] at this
          simp only [if_true,yp] at this
          exact xl this
        | succ k=>exact ih s h.2 k (by simpa using hk) (by simpa using hks) hwk
   simp only [apartB,zn] at h
   have hl':r.length=s.length:=by simpa using hl
   cases i with
   | zero=>
     cases j with
     | zero=>exact absurd rfl hij
     | succ j=>
       simp only [nth] at hw
       have h1:=h.1
       rw [hw] at h1
       simp only [if_true] at h1
       exact (notIn_ok r h1 j (by simp at hj;omega)).symm
   | succ i=>
     cases j with
     | zero=>
       have h1:=h.1
       simp only [nth] at hw
       show rn r i≠p
       cases ha:a.wr with
       | true=>rw [ha] at h1;exact notIn_ok r (by simpa using h1) i (by simp at hi;omega)
       | false=>rw [ha] at h1;exact wrNot_ok r s (by simpa using h1) i (by simp at hi;omega) (by simpa using hi) hw
     | succ j=>exact apartB_ok h.2 hl' i j (by simpa using hi) (by simpa using hj) (fun e=>hij (by omega)) hw
theorem CkEq.rows {N:Nat} {ρ:List Nat} {a b:Ck C} (h:CkEq N ρ a b) {t:Nat} {l:List (C t).α} (hc:a.cells=.rows t l):b.cells=.rows t l:=by
 obtain ⟨qs,hq,hqs⟩:=h.cells
 rw [hc] at hq
 cases hb:b.cells with
 | rows t' l'=>
   rw [hb] at hq
   simp only [cellsEq] at hq
   split at hq
   · rename_i htt
     simp only [Option.some.injEq] at hq;subst hq
     obtain ⟨e,_⟩:=hqs
     subst htt
     rw [castL_self] at e
     rw [e]
   · cases hq
 | one _=>rw [hb] at hq;simp [cellsEq] at hq
 | mp _ _ _ _=>rw [hb] at hq;simp [cellsEq] at hq
 | it _ _ _=>rw [hb] at hq;simp [cellsEq] at hq
 | dead=>rw [hb] at hq;simp [cellsEq] at hq
theorem CkEq.has {N:Nat} {ρ:List Nat} {a b:Ck C} (h:CkEq N ρ a b) {t:Nat} {x:(C t).α} (hx:a.cells.Has t x):b.cells.Has t x:=by
 rcases hx with ⟨l,hc,hx⟩ | ⟨tk,l,clk,hc,e,he,rfl⟩
 · exact .of_rows (h.rows hc) hx
 · obtain ⟨qs,hq,hqs⟩:=h.cells
   rw [hc] at hq
   cases hb:b.cells with
   | mp tk' tv' l' clk'=>
     rw [hb] at hq
     simp only [cellsEq] at hq
     split at hq
     · rename_i htt
       simp only [Option.some.injEq] at hq;subst hq
       obtain ⟨e1,_⟩:=hqs
       obtain ⟨rfl,rfl⟩:=htt
       have e2:l=l':=e1
       rw [e2] at he
       exact .inr ⟨_,_,_,rfl,e,he,rfl⟩
     · cases hq
   | rows _ _=>rw [hb] at hq;simp [cellsEq] at hq
   | one _=>rw [hb] at hq;simp [cellsEq] at hq
   | it _ _ _=>rw [hb] at hq;simp [cellsEq] at hq
   | dead=>rw [hb] at hq;simp [cellsEq] at hq
theorem MemOK.enterP {S:Sx} {w0 w:World} {M:List (Ck C)} (h:MemOK S w0 w M) {N:Nat} (hN:∀ c,N≤c→(ads M c).on=false) {ρ:List Nat} {m:List (Ck C)} (hlt:memLt m.length m=true)
 (hk:∀ k,k<m.length→rn ρ k<M.length∧CkEq N ρ (nth m k) (nth M (rn ρ k))) (hap:∀ i j,i<m.length→j<m.length→i≠j→(nth m i).wr=true→rn ρ i≠rn ρ j):
 ((∀ c∈m,c.on=true→Ck.ok (ads m) w c)∧(∀ c∈m,c.wr=true→c.live=true→∀ a:Addr,a.block=c.block→w.frozen? a=false)∧
   (∀ i j,i<m.length→j<m.length→i≠j→(nth m i).wr=true→(nth m i).live=true→(nth m j).live=true→(nth m i).block≠(nth m j).block)∧(∀ c∈m,c.on=true→c.block<w.heap.size))∧
 ∀ c,c<m.length→ads m c=ads M (rn ρ c):=by
 have hads:∀ c,c<m.length→ads m c=ads M (rn ρ c):=by
  intro c hc
  have:=(hk c hc).2
  simp [ads,Ck.ad,this.block,this.base,this.sz,this.on]
 refine ⟨⟨?_,?_,?_,?_⟩,hads⟩
 · intro c hc hco
   obtain ⟨k,hkl,rfl⟩:=mem_nth hc
   obtain ⟨hb,he⟩:=hk k hkl
   have hok:=h.ok _ (nth_mem hb) (by rw [← he.on];exact hco)
   have had:(nth m k).ad=(nth M (rn ρ k)).ad:=by simp [Ck.ad,he.block,he.base,he.sz,he.on]
   obtain ⟨qs,hq,hqs⟩:=he.cells
   have hltk:=memLt_mem hlt (nth_mem hkl)
   unfold Ck.ok
   rw [had]
   split
   · rename_i t l hcl
     rw [hcl] at hq
     cases hcM:(nth M (rn ρ k)).cells with
     | rows t' l'=>
       rw [hcM] at hq
       simp only [cellsEq] at hq
       split at hq
       · rename_i htt
         simp only [Option.some.injEq] at hq;subst hq
         obtain ⟨e,_⟩:=hqs
         subst htt
         rw [castL_self] at e;subst e
         simp only [Ck.ok,hcM] at hok
         refine ⟨by rw [he.sz];exact hok.1,fun i hi f hf => ?_⟩
         rw [hok.2 i hi f hf,enc_flat (C t') (ads M) (ads m) _ f hf]
       · cases hq
     | one _=>rw [hcM] at hq;simp [cellsEq] at hq
     | mp _ _ _ _=>rw [hcM] at hq;simp [cellsEq] at hq
     | it _ _ _=>rw [hcM] at hq;simp [cellsEq] at hq
     | dead=>rw [hcM] at hq;simp [cellsEq] at hq
   · rename_i vs hcl
     rw [hcl] at hq
     cases hcM:(nth M (rn ρ k)).cells with
     | rows t' l'=>rw [hcM] at hq;simp [cellsEq] at hq
     | one vs'=>
       rw [hcM] at hq
       simp only [cellsEq] at hq
       simp only [Ck.ok,hcM] at hok
       have h1:=onesEq_ok hN w (fun f=>(nth M (rn ρ k)).ad.at 0 f) _ _ _ hq hqs
       have hrl:∀ vs:List SV,(SV.rens ρ vs).length=vs.length:=by
        intro vs;induction vs with
        | nil=>rfl
        | cons v r ih=>simp [SV.rens,ih]
       rw [hrl] at h1
       refine ⟨by rw [he.sz];exact hok.1.imp (xk h1.1) id,fun f hf => ?_⟩
       have h2:=h1.2 f hf (hok.2 f (by omega))
       have hrg:∀ (vs:List SV) (f:Nat),(SV.rens ρ vs).getD f .junk=(vs.getD f .junk).ren ρ:=by
        intro vs
        induction vs with
        | nil=>intro f;rfl
        | cons v r ih=>intro f;cases f with
          | zero=>rfl
          | succ f=>exact ih f
       rw [hrg] at h2
       have hv:SV.lt m.length (vs.getD f .junk)=true:=by
        unfold Ck.lt at hltk;rw [hcl] at hltk;exact SV.lts_getD hltk f
       have e:=SV.va_ren hads _ hv
       revert h2 e
       generalize vs.getD f .junk=v
       intro h2 e
       cases v <;> simp only [cellIs,SV.ren] at h2 ⊢ <;> first | exact h2 | (rw [e];exact h2)
     | mp _ _ _ _=>rw [hcM] at hq;simp [cellsEq] at hq
     | it _ _ _=>rw [hcM] at hq;simp [cellsEq] at hq
     | dead=>rw [hcM] at hq;simp [cellsEq] at hq
   · rename_i tk tv l clk hcl
     rw [hcl] at hq
     cases hcM:(nth M (rn ρ k)).cells with
     | mp tk' tv' l' clk'=>
       rw [hcM] at hq
       simp only [cellsEq] at hq
       split at hq
       · rename_i htt
         simp only [Option.some.injEq] at hq;subst hq
         obtain ⟨e1,e2,_⟩:=hqs
         obtain ⟨rfl,rfl⟩:=htt
         have e1:l=l':=e1
         subst e1;subst e2
         simp only [Ck.ok,hcM] at hok
         rw [he.block];exact hok
       · cases hq
     | rows _ _=>rw [hcM] at hq;simp [cellsEq] at hq
     | one _=>rw [hcM] at hq;simp [cellsEq] at hq
     | it _ _ _=>rw [hcM] at hq;simp [cellsEq] at hq
     | dead=>rw [hcM] at hq;simp [cellsEq] at hq
   · rename_i mc seen clk hcl
     rw [hcl] at hq
     cases hcM:(nth M (rn ρ k)).cells with
     | it mc' seen' clk'=>
       rw [hcM] at hq
       simp only [cellsEq] at hq
       split at hq
       · rename_i hmc
         have hmc:=zp hmc
         simp only [Option.some.injEq] at hq;subst hq
         obtain ⟨e1,e2,_⟩:=hqs
         subst e1;subst e2;subst hmc
         simp only [Ck.ok,hcM] at hok
         have hv:mc<m.length:=by unfold Ck.lt at hltk;rw [hcl] at hltk;simpa using hltk
         rw [he.block,hads mc hv];exact hok
       · cases hq
     | rows _ _=>rw [hcM] at hq;simp [cellsEq] at hq
     | one _=>rw [hcM] at hq;simp [cellsEq] at hq
     | mp _ _ _ _=>rw [hcM] at hq;simp [cellsEq] at hq
     | dead=>rw [hcM] at hq;simp [cellsEq] at hq
   · trivial
 · intro c hc hw hl a ha
   obtain ⟨k,hkl,rfl⟩:=mem_nth hc
   obtain ⟨hb,he⟩:=hk k hkl
   exact h.wrok _ (nth_mem hb) (he.wr hw) (he.live hl) a (by rw [ha,he.block])
 · intro i j hi hj hij hw hli hlj
   obtain ⟨hbi,hei⟩:=hk i hi
   obtain ⟨hbj,hej⟩:=hk j hj
   rw [hei.block,hej.block]
   exact h.apart _ _ hbi hbj (hap i j hi hj hij hw) (hei.wr hw) (hei.live hli) (hej.live hlj)
 · intro c hc hco
   obtain ⟨k,hkl,rfl⟩:=mem_nth hc
   obtain ⟨hb,he⟩:=hk k hkl
   rw [he.block];exact h.lt _ (nth_mem hb) (by rw [← he.on];exact hco)
theorem MemOK.enter {S:Sx} {w0 w:World} {M:List (Ck C)} (h:MemOK S w0 w M) {N:Nat} (hN:∀ c,N≤c→(ads M c).on=false) {ρ:List Nat} {m:List (Ck C)} (hlt:memLt m.length m=true)
 (hk:∀ k,k<m.length→rn ρ k<M.length∧CkEq N ρ (nth m k) (nth M (rn ρ k))) (hap:∀ i j,i<m.length→j<m.length→i≠j→(nth m i).wr=true→rn ρ i≠rn ρ j) (hown:∀ c∈m,c.noOwn=true):
 MemOK (wrS m) w w m∧∀ c,c<m.length→ads m c=ads M (rn ρ c):=by
 obtain ⟨⟨p1,p2,p3,p4⟩,hads⟩:=h.enterP hN hlt hk hap
 have hno:∀ k,k<w0.heap.size→¬ S.set k→¬ (wrS m).set k:=by
  rintro k hk0 hns ⟨c,hc,hw,ho,rfl⟩
  obtain ⟨j,hjl,rfl⟩:=mem_nth hc
  obtain ⟨hb,he⟩:=hk j hjl
  rw [he.block] at hk0 hns
  exact hns (h.inS _ (nth_mem hb) (he.wr hw) (by rw [← he.on];exact ho) hk0)
 have hmore:More (wrS m) w w m:=by
  refine ⟨fun g v hv => ?_,fun g p hp => ?_,fun p hp=>(by cases hp),List.nodup_nil,fun c hc t x hx => ?_⟩
  rotate_left 2
  · obtain ⟨j,hjl,rfl⟩:=mem_nth hc
    obtain ⟨hb,he⟩:=hk j hjl
    obtain ⟨g1,g2⟩:=h.more.deep _ (nth_mem hb) t x (he.has hx)
    have hof:=Ck.noOwn_ok (hown _ (nth_mem hjl)) hx
    refine ⟨g1,fun b hb'=>⟨(g2 b hb').lt,fun _=>.inr ⟨hof,_,nth_mem hjl,t,x,hx,hb'⟩,fun c1 hc1 hw1 hl1 => ?_,fun p hp=>by cases hp⟩⟩
    obtain ⟨i,hil,rfl⟩:=mem_nth hc1
    obtain ⟨hb1,he1⟩:=hk i hil
    rw [he1.block]
    exact (g2 b hb').no _ (nth_mem hb1) (he1.wr hw1) (he1.live hl1)
  · obtain ⟨h1,h2,h3⟩:=h.more.gv g v hv
    exact ⟨h1,zk h2 h.size,hno g h2 h3⟩
  · obtain ⟨h1,h2,h3⟩:=h.more.gp g p hp
    exact ⟨h1,zk h2 h.size,hno _ h2 h3⟩
 exact ⟨⟨rfl,⟨rfl,zx _⟩,rfl,zx _,fun _ _ _=>rfl,fun c hc hw ho _=>⟨c,hc,hw,ho,rfl⟩,p1,p2,p3,p4,hmore⟩,hads⟩
theorem backU_spec (ρ':List Nat):∀ (r:List Nat) (m out M:List (Ck C)),r.length=m.length→m.length≤out.length→(∀ k,k<m.length→rn r k<M.length)→
 (∀ i j,i<m.length→j<m.length→i≠j→(nth m i).wr=true→rn r i≠rn r j)→
 (backU ρ' r m out M).length=M.length∧∀ j,(∃ k,k<m.length∧(nth m k).wr=true∧rn r k=j∧nth (backU ρ' r m out M) j={ nth M j with cells:=renCells ρ' (nth out k).cells })∨
   ((∀ k,k<m.length→(nth m k).wr=true→rn r k≠j)∧nth (backU ρ' r m out M) j=nth M j)
 | [],[],out,M,_,_,_,_=>by
   have e:backU ρ' [] [] out M=M:=by cases out <;> rfl
   rw [e];exact ⟨rfl,fun j=>.inr ⟨fun k hk=>by simp at hk,rfl⟩⟩
 | [],_ :: _,_,_,h,_,_,_=>by simp at h
 | _ :: _,[],_,_,h,_,_,_=>by simp at h
 | p :: r,a :: m,[],M,_,h,_,_=>by simp at h
 | p :: r,a :: m,o :: out,M,hl,ho,hlt,hap=>by
   have hp:p<M.length:=hlt 0 (by simp)
   obtain ⟨M1,hM1⟩:∃ M1,M1=(match a.wr with | true=>setCk M p (renCells ρ' o.cells) | false=>M):=⟨_,rfl⟩
   have hlen1:M1.length=M.length:=by rw [hM1];split <;> simp [length_setCk]
   have ih:=backU_spec ρ' r m out M1 (by simpa using hl) (by simpa using ho) (fun k hk=>by rw [hlen1];exact hlt (k+1) (by simpa using hk))
    (fun i j hi hj hij hw=>hap (i+1) (j+1) (by simpa using hi) (by simpa using hj) (by omega) hw)
   have e:backU ρ' (p :: r) (a :: m) (o :: out) M=backU ρ' r m out M1:=by rw [hM1];rfl
   rw [e]
   refine ⟨by rw [ih.1,hlen1],fun j => ?_⟩
   rcases ih.2 j with ⟨k,hk,hw,hj,he⟩ | ⟨hno,he⟩
   · left
     refine ⟨k+1,by simpa using hk,hw,hj,?_⟩
     have hM1j:nth M1 j=nth M j:=by
      rw [hM1]
      split
      · rename_i ha
        rw [nth_setCk,if_neg]
        rintro ⟨hjp,_⟩
        exact hap 0 (k+1) (by simp) (by simpa using hk) (by omega) ha (by show p=rn r k;rw [hj,hjp])
      · rfl
     rw [he,hM1j];rfl
   · cases ha:a.wr with
     | false=>
       right
       refine ⟨fun k hk hw => ?_,by rw [he,hM1,ha]⟩
       cases k with
       | zero=>simp only [nth] at hw;rw [ha] at hw;cases hw
       | succ k=>exact hno k (by simpa using hk) hw
     | true=>
       by_cases hjp:j=p
       · left
         refine ⟨0,by simp,ha,hjp.symm,?_⟩
         rw [he,hM1,ha]
         simp only
         rw [nth_setCk,if_pos ⟨hjp,hp⟩,hjp];rfl
       · right
         refine ⟨fun k hk hw => ?_,by rw [he,hM1,ha];simp only;rw [nth_setCk,if_neg (fun e=>hjp e.1)]⟩
         cases k with
         | zero=>exact fun e=>hjp e.symm
         | succ k=>exact hno k (by simpa using hk) hw
theorem backN_spec (ρ':List Nat):∀ (m out:List (Ck C)),m.length≤out.length→(backN ρ' m out).length=out.length - m.length∧∀ k,k<out.length - m.length→nth (backN ρ' m out) k=renCk ρ' (nth out (m.length+k))
 | [],out,_=>by
   have hmap:∀ (l:List (Ck C)) (k:Nat),k<l.length→nth (l.map (renCk ρ')) k=renCk ρ' (nth l k):=by
    intro l
    induction l with
    | nil=>intro k hk;simp at hk
    | cons x r ih=>intro k hk;cases k with
      | zero=>rfl
      | succ k=>exact ih k (by simpa using hk)
   refine ⟨by simp [backN],fun k hk => ?_⟩
   simp only [backN,List.length_nil,wo]
   exact hmap out k (by simpa using hk)
 | _ :: _,[],h=>by simp at h
 | a :: m,o :: out,h=>by
   have ih:=backN_spec ρ' m out (by simpa using h)
   refine ⟨by simp [backN,ih.1],fun k hk => ?_⟩
   simp only [backN]
   rw [ih.2 k (by simpa using hk)]
   simp only [xq]
   rw [show m.length+1+k=(m.length+k)+1 by omega];rfl
theorem rn_upFrom:∀ (n k j:Nat),j<k→rn (upFrom n k) j=n+j
 | _,0,_,h=>by simp at h
 | n,k+1,0,_=>rfl
 | n,k+1,j+1,h=>by simp only [upFrom,rn];rw [rn_upFrom (n+1) k j (by omega)];omega
theorem rn_append:∀ (a b:List Nat) (j:Nat),rn (a ++ b) j=if j<a.length then rn a j else rn b (j - a.length)
 | [],b,j=>by simp
 | x :: a,b,0=>by simp [rn]
 | x :: a,b,j+1=>by simp [rn,rn_append a b j]
theorem renCk_live (ρ:List Nat) (c:Ck C):(renCk ρ c).live=c.live:=by
 cases c with
 | mk b ba s w g cs=>cases cs <;> rfl
theorem Ck.ok_cong {ad:Nat→Ad} {w:World} {a b:Ck C} (h1:b.ad=a.ad) (h2:a.sz=b.sz) (h3:a.block=b.block) (h4:a.cells=b.cells) (h:Ck.ok ad w a):Ck.ok ad w b:=by
 unfold Ck.ok at h ⊢
 rw [h4,h2,h3,← h1] at h
 exact h
theorem MemOK.back {S:Sx} {w0 w w':World} {M:List (Ck C)} (h:MemOK S w0 w M) (hM:memLt M.length M=true) {ρ:List Nat} {m out:List (Ck C)} (hlen:ρ.length=m.length)
 {NN:Nat} (hk:∀ k,k<m.length→rn ρ k<M.length∧CkEq NN ρ (nth m k) (nth M (rn ρ k))) (hap:∀ i j,i<m.length→j<m.length→i≠j→(nth m i).wr=true→rn ρ i≠rn ρ j)
 (hwl:∀ c∈m,c.wr=true→c.alive=true) (ho:MemOK (wrS m) w w' out) (hx0:Ext m out) (hol:memLt out.length out=true):
 MemOK S w0 w' (backU (ρ ++ upFrom M.length (out.length - m.length)) ρ m out M ++ backN (ρ ++ upFrom M.length (out.length - m.length)) m out)∧
 (∀ c,c<out.length→ads out c=ads (backU (ρ ++ upFrom M.length (out.length - m.length)) ρ m out M ++ backN (ρ ++ upFrom M.length (out.length - m.length)) m out) (rn (ρ ++ upFrom M.length (out.length - m.length)) c))∧
 (∀ c,c<M.length→ads M c=ads (backU (ρ ++ upFrom M.length (out.length - m.length)) ρ m out M ++ backN (ρ ++ upFrom M.length (out.length - m.length)) m out) c)∧
 (backU (ρ ++ upFrom M.length (out.length - m.length)) ρ m out M ++ backN (ρ ++ upFrom M.length (out.length - m.length)) m out).length=M.length+(out.length - m.length):=by
 obtain ⟨ρ',hρ'⟩:∃ ρ',ρ'=ρ ++ upFrom M.length (out.length - m.length):=⟨_,rfl⟩
 rw [← hρ']
 have hx:=hx0
 have hU:=backU_spec ρ' ρ m out M hlen hx.len (fun k hkl=>(hk k hkl).1) hap
 have hN:=backN_spec ρ' m out hx.len
 obtain ⟨U,hUe⟩:∃ U,U=backU ρ' ρ m out M:=⟨_,rfl⟩
 obtain ⟨N,hNe⟩:∃ N,N=backN ρ' m out:=⟨_,rfl⟩
 rw [← hUe] at hU ⊢
 rw [← hNe] at hN ⊢
 have hlenA:(U ++ N).length=M.length+(out.length - m.length):=by simp [hU.1,hN.1]
 -- places
 have hplace:∀ c,c<M.length→(nth (U ++ N) c).block=(nth M c).block∧(nth (U ++ N) c).base=(nth M c).base∧(nth (U ++ N) c).sz=(nth M c).sz∧(nth (U ++ N) c).wr=(nth M c).wr∧(nth (U ++ N) c).on=(nth M c).on:=by
  intro c hc
  rw [nth_app,if_pos (by rw [hU.1];exact hc)]
  rcases hU.2 c with ⟨k,_,_,_,he⟩ | ⟨_,he⟩ <;> rw [he] <;> exact ⟨rfl,rfl,rfl,rfl,rfl⟩
 have hnew:∀ j,j<out.length - m.length→nth (U ++ N) (M.length+j)=renCk ρ' (nth out (m.length+j)):=by
  intro j hj
  rw [nth_app,if_neg (by rw [hU.1];omega),hU.1,show M.length+j - M.length=j by omega]
  exact hN.2 j hj
 have hadsM:∀ c,c<M.length→ads M c=ads (U ++ N) c:=by
  intro c hc
  obtain ⟨e1,e2,e3,_,e5⟩:=hplace c hc
  simp [ads,Ck.ad,e1,e2,e3,e5]
 have hadsO:∀ c,c<out.length→ads out c=ads (U ++ N) (rn ρ' c):=by
  intro c hc
  rw [hρ',rn_append]
  by_cases hcm:c<m.length
  · rw [if_pos (by omega)]
    obtain ⟨h1,h2⟩:=hk c hcm
    rw [← hadsM _ h1]
    obtain ⟨e1,e2,e3,_,e5⟩:=hx.same c hcm
    simp [ads,Ck.ad,e1,e2,e3,e5,h2.block,h2.base,h2.sz,h2.on]
  · rw [if_neg (by omega),rn_upFrom _ _ _ (by omega)]
    have:=hnew (c - m.length) (by omega)
    rw [show M.length+(c - ρ.length)=M.length+(c - m.length) by omega]
    simp only [ads]
    rw [this,show m.length+(c - m.length)=c by omega];rfl
 have hren:∀ cs:Cells C,(match cs with | .one vs=>SV.lts out.length vs | .it mc _ _=>xz mc out.length | _=>true)=true→∀ (c:Ck C),c.cells=cs→Ck.ok (ads out) w' c→Ck.ok (ads (U ++ N)) w' { c with cells:=renCells ρ' cs }:=by
  intro cs hl c hcs hok
  subst hcs
  unfold Ck.ok at hok ⊢
  cases hcc:c.cells with
  | rows t l=>
    simp only [hcc,renCells] at hok ⊢
    refine ⟨hok.1,fun i hi f hf => ?_⟩
    rw [enc_flat (C t) (ads (U ++ N)) (ads out) _ f hf]
    exact hok.2 i hi f hf
  | one vs=>
    simp only [hcc,renCells] at hok hl ⊢
    have hrl:∀ vs:List SV,(SV.rens ρ' vs).length=vs.length:=by
     intro vs;induction vs with
     | nil=>rfl
     | cons v r ih=>simp [SV.rens,ih]
    have hrg:∀ (vs:List SV) (f:Nat),(SV.rens ρ' vs).getD f .junk=(vs.getD f .junk).ren ρ':=by
     intro vs
     induction vs with
     | nil=>intro f;rfl
     | cons v r ih=>intro f;cases f with
       | zero=>rfl
       | succ f=>exact ih f
    refine ⟨by rw [hrl];exact hok.1,fun f hf => ?_⟩
    rw [hrl] at hf
    have h2:=hok.2 f hf
    rw [hrg]
    have e:=SV.va_ren hadsO _ (SV.lts_getD hl f)
    revert h2 e
    generalize vs.getD f .junk=v
    intro h2 e
    cases v <;> simp only [cellIs,SV.ren] at h2 ⊢ <;> first | exact h2 | exact h2.trans (congrArg some e)
  | mp tk tv l clk=>simp only [hcc,renCells] at hok ⊢;exact hok
  | it mc seen clk=>
    simp only [hcc,renCells] at hok hl ⊢
    rw [← hadsO mc (by simpa using hl)];exact hok
  | dead=>simp only [renCells]
 have hrlive:∀ cs:Cells C,∀ c:Ck C,({ c with cells:=renCells ρ' cs }:Ck C).live=({ c with cells:=cs }:Ck C).live:=by
  intro cs c;cases cs <;> rfl
 have houtlt:∀ c,c∈out→(match c.cells with | .one vs=>SV.lts out.length vs | .it mc _ _=>xz mc out.length | _=>true)=true:=fun c hc=>memLt_mem hol hc
 -- blocks that the callee may have turned
 have hSM:∀ b,(wrS m).set b→∃ k,k<m.length∧(nth m k).wr=true∧(nth m k).block=b∧(nth M (rn ρ k)).block=b∧(nth M (rn ρ k)).wr=true∧(nth M (rn ρ k)).live=true:=by
  rintro b ⟨c,hc,hw,ho',hb⟩
  obtain ⟨k,hkl,rfl⟩:=mem_nth hc
  obtain ⟨_,he⟩:=hk k hkl
  exact ⟨k,hkl,hw,hb,by rw [← he.block];exact hb,he.wr hw,he.live (Ck.live_iff.2 ⟨hwl _ hc hw,ho'⟩)⟩
 have hblk:∀ j,j<M.length→(nth M j).live=true→(∀ k,k<m.length→(nth m k).wr=true→rn ρ k≠j)→w'.heap[(nth M j).block]? = w.heap[(nth M j).block]? := by
  intro j hj hlv hno
  refine ho.keep _ (h.lt _ (nth_mem hj) (Ck.live_iff.1 hlv).2) fun hS => ?_
  obtain ⟨k,hkl,hw,_,hb,hMw,hMl⟩:=hSM _ hS
  exact h.apart _ j (hk k hkl).1 hj (hno k hkl hw) hMw hMl hlv hb
 have hmore:More S w0 w' (U ++ N):=by
  refine h.more.mono' h.inS (fun k hkw hno=>ho.keep k hkw fun hS => ?_) (fun c hc hl => ?_) h.size ho.size (fun c hc t x hx => ?_)
  rotate_left 2
  · have fromOut:∀ c1∈out,c1.cells.Has t x→(c.wr=true→c1.wr=true)→(C t).good w' x∧∀ b∈(C t).blks x,Blk S w0 w' (U ++ N) ((C t).own && c.wr) b:=by
     intro c1 hc1 hcl1 hww
     obtain ⟨g1,g2⟩:=ho.more.deep c1 hc1 t x hcl1
     refine ⟨g1,fun b hb => ?_⟩
     have hB:=(g2 b hb).weak (o':=(C t).own && c.wr) (fun e=>by
      simp only [zn] at e ⊢
      exact ⟨e.1,hww e.2⟩)
     -- what is known of an elder block
     have elder:b<w.heap.size→(∃ k,k<m.length∧(nth m k).wr=true∧(nth M (rn ρ k)).block=b∧(nth M (rn ρ k)).wr=true∧(nth M (rn ρ k)).live=true)∨(((C t).own && c.wr)=false∧Blk S w0 w M false b):=by
      intro hlt
      rcases hB.old hlt with hS | ⟨hof,c2,hc2,t2,x2,hx2,hb2⟩
      · obtain ⟨k,hkl,hkw,_,h4,h5,h6⟩:=hSM _ hS
        exact .inl ⟨k,hkl,hkw,h4,h5,h6⟩
      · obtain ⟨j,hjl,rfl⟩:=mem_nth hc2
        obtain ⟨hb3,he⟩:=hk j hjl
        exact .inr ⟨hof,((h.more.deep _ (nth_mem hb3) t2 x2 (he.has hx2)).2 b hb2).weak (fun e=>by cases e)⟩
     refine ⟨hB.lt,fun hlt => ?_,fun c2 hc2 hw2 hl2 => ?_,fun p hp => ?_⟩
     · rcases elder (zk hlt h.size) with ⟨k,hkl,_,h4,h5,h6'⟩ | ⟨hof,hE⟩
       · refine .inl ?_
         rw [← h4];exact h.inS _ (nth_mem (hk k hkl).1) h5 (Ck.live_iff.1 h6').2 (by rw [h4];exact hlt)
       · rcases hE.old hlt with h7 | h7
         · exact .inl h7
         · exact .inr ⟨hof,h7.2⟩
     · obtain ⟨j,hjl,rfl⟩:=mem_nth hc2
       rw [hlenA] at hjl
       by_cases hjM:j<M.length
       · obtain ⟨e1,_,_,e4,_⟩:=hplace j hjM
         rw [e1]
         rw [e4] at hw2
         rw [nth_app,if_pos (by rw [hU.1];exact hjM)] at hl2
         rcases hU.2 j with ⟨k,hkl,hkw,hkj,he⟩ | ⟨hno,he⟩
         · have hko:k<out.length:=zk hkl hx0.len
           obtain ⟨f1,_,_,f4,f5⟩:=hx0.same k hkl
           have hck:=(hk k hkl).2
           rw [he,hrlive] at hl2
           have hl2':(nth out k).live=true:=by
            have hl3:=Ck.live_iff.1 hl2
            refine Ck.live_iff.2 ⟨hl3.1,?_⟩
            rw [f5,hck.on,hkj];exact hl3.2
           have:=hB.no _ (nth_mem hko) (by rw [f4];exact hkw) hl2'
           rw [f1,hck.block,hkj] at this
           exact this
         · rw [he] at hl2
           intro e
           have hlt:b<w.heap.size:=by rw [← e];exact h.lt _ (nth_mem hjM) (Ck.live_iff.1 hl2).2
           rcases elder hlt with ⟨k,hkl,hkw,h4,h5,h6⟩ | ⟨_,hE⟩
           · exact h.apart _ j (hk k hkl).1 hjM (hno k hkl hkw) h5 h6 hl2 (by rw [h4,e])
           · exact hE.no _ (nth_mem hjM) hw2 hl2 e
       · have e:=hnew (j - M.length) (by omega)
         rw [show M.length+(j - M.length)=j by omega] at e
         rw [e] at hw2 hl2 ⊢
         rw [renCk_live] at hl2
         show (nth out (m.length+(j - M.length))).block≠b
         exact hB.no _ (nth_mem (show m.length+(j - M.length)<out.length by omega)) hw2 hl2
     · intro e
       obtain ⟨h1,_,h3⟩:=h.more.pin p hp
       have hlt:b<w.heap.size:=by rw [← e];exact heap_size_of h1
       rcases elder hlt with ⟨k,hkl,_,h4,_,h6⟩ | ⟨_,hE⟩
       · exact h3 _ (nth_mem (hk k hkl).1) h6 (by rw [h4,e])
       · exact hE.pin p hp e
    have hren2:∀ (cs:Cells C),(renCells ρ' cs).Has t x→cs.Has t x:=by
     intro cs he
     cases cs <;> simp only [renCells] at he <;> first | exact he | (rcases he with ⟨_,he,_⟩ | ⟨_,_,_,he,_⟩ <;> cases he)
    obtain ⟨j,hjl,rfl⟩:=mem_nth hc
    rw [hlenA] at hjl
    by_cases hjM:j<M.length
    · have hwj:=(hplace j hjM).2.2.2.1
      have eU:nth (U ++ N) j=nth U j:=by rw [nth_app,if_pos (by rw [hU.1];exact hjM)]
      rw [eU] at hx hwj fromOut ⊢
      rcases hU.2 j with ⟨k,hkl,hkw,hkj,he⟩ | ⟨hno,he⟩
      · rw [he] at hx
        have hx:=hren2 _ hx
        obtain ⟨f1,_,_,f4,f5⟩:=hx0.same k hkl
        exact .inr (fromOut _ (nth_mem (zk hkl hx0.len)) hx fun _=>by rw [f4];exact hkw)
      · rw [he] at hx
        exact .inl ⟨_,nth_mem hjM,hx,fun _ hw=>by rw [← hwj];exact hw⟩
    · have e:=hnew (j - M.length) (by omega)
      rw [show M.length+(j - M.length)=j by omega] at e
      rw [e] at hx fromOut ⊢
      refine .inr (fromOut _ (nth_mem (show m.length+(j - M.length)<out.length by omega)) (hren2 _ ?_) ?_)
      · revert hx
        generalize nth out (m.length+(j - M.length))=c0
        obtain ⟨_,_,_,_,_,cs⟩:=c0
        exact id
      · generalize nth out (m.length+(j - M.length))=c0
        obtain ⟨_,_,_,_,_,cs⟩:=c0
        exact id
  · obtain ⟨j,hjl,_,_,hb,hMw,hMl⟩:=hSM _ hS
    exact hno _ (nth_mem (hk j hjl).1) hMw hMl hb
  · obtain ⟨j,hjl,rfl⟩:=mem_nth hc
    rw [hlenA] at hjl
    by_cases hjM:j<M.length
    · refine .inl ⟨nth M j,nth_mem hjM,?_,(hplace j hjM).1.symm,fun hw'=>by rw [← (hplace j hjM).2.2.2.1];exact hw'⟩
      have hlo:=(Ck.live_iff.1 hl).2
      rw [(hplace j hjM).2.2.2.2] at hlo
      rw [nth_app,if_pos (by rw [hU.1];exact hjM)] at hl
      rcases hU.2 j with ⟨k,hkl,hkw,hjk,he⟩ | ⟨_,he⟩
      · have hck:=(hk k hkl).2
        refine Ck.live_iff.2 ⟨?_,hlo⟩
        rw [← hjk];exact hck.alive (hwl _ (nth_mem hkl) hkw)
      · rw [he] at hl;exact hl
    · have e:=hnew (j - M.length) (by omega)
      rw [show M.length+(j - M.length)=j by omega] at e
      rw [e] at hl ⊢
      rw [renCk_live] at hl
      have hin:m.length+(j - M.length)<out.length:=by omega
      have hw:=hx.new _ (by omega) hin hl
      show _∨w.heap.size≤(nth out (m.length+(j - M.length))).block
      rcases vu (nth out (m.length+(j - M.length))).block w.heap.size with hb | hb
      · have:=ho.inS _ (nth_mem hin) hw (Ck.live_iff.1 hl).2 hb
        obtain ⟨k,hkl,_,_,hkb,hMw,hMl⟩:=hSM _ this
        exact .inl ⟨_,nth_mem (hk k hkl).1,hMl,hkb,fun _=>hMw⟩
      · exact .inr hb
 refine ⟨⟨ho.os.trans h.os,⟨ho.tape.1.trans h.tape.1,xk h.tape.2 ho.tape.2⟩,ho.output.trans h.output,xk h.size ho.size,?_,?_,?_,?_,?_,?_,hmore⟩,hadsO,hadsM,hlenA⟩
 · intro k hkl hno
   have hkw:k<w.heap.size:=zk hkl h.size
   rw [ho.keep k hkw fun hS => ?_]
   · exact h.keep k hkl hno
   · obtain ⟨j,hjl,hw,_,hb,hMw,hMl⟩:=hSM _ hS
     exact hno (hb ▸ h.inS _ (nth_mem (hk j hjl).1) hMw (Ck.live_iff.1 hMl).2 (by rw [hb];exact hkl))
 · intro c hc hw hco hb
   obtain ⟨j,hjl,rfl⟩:=mem_nth hc
   rw [hlenA] at hjl
   by_cases hjM:j<M.length
   · obtain ⟨e1,_,_,e4,e5⟩:=hplace j hjM
     rw [e1] at hb ⊢
     rw [e4] at hw
     rw [e5] at hco
     exact h.inS _ (nth_mem hjM) hw hco hb
   · have e:=hnew (j - M.length) (by omega)
     rw [show M.length+(j - M.length)=j by omega] at e
     rw [e] at hw hb hco ⊢
     have hin:m.length+(j - M.length)<out.length:=by omega
     have:=ho.inS _ (nth_mem hin) hw hco (zk hb h.size)
     obtain ⟨k,hkl,_,_,hkb,hMw,hMl⟩:=hSM _ this
     show S.set (nth out (m.length+(j - M.length))).block
     rw [← hkb]
     exact h.inS _ (nth_mem (hk k hkl).1) hMw (Ck.live_iff.1 hMl).2 (by rw [hkb];exact hb)
 · intro c hc hco
   obtain ⟨j,hjl,rfl⟩:=mem_nth hc
   rw [hlenA] at hjl
   by_cases hjM:j<M.length
   · rw [(hplace j hjM).2.2.2.2] at hco
     rw [nth_app,if_pos (by rw [hU.1];exact hjM)]
     rcases hU.2 j with ⟨k,hkl,hw,hj,he⟩ | ⟨hno,he⟩
     · rw [he]
       have hko:k<out.length:=zk hkl hx.len
       obtain ⟨e1,e2,e3,_,e5⟩:=hx.same k hkl
       have hck:=(hk k hkl).2
       rw [hj] at hck
       have h1:=hren _ (houtlt _ (nth_mem hko)) (nth out k) rfl (ho.ok _ (nth_mem hko) (by rw [e5,hck.on];exact hco))
       have had:({ nth M j with cells:=renCells ρ' (nth out k).cells }:Ck C).ad=({ nth out k with cells:=renCells ρ' (nth out k).cells }:Ck C).ad:=by
        show (nth M j).ad=(nth out k).ad
        simp [Ck.ad,e1,e2,e3,e5,hck.block,hck.base,hck.sz,hck.on]
       exact Ck.ok_cong had (by rw [e3,hck.sz]) (by rw [e1,hck.block]) rfl h1
     · rw [he]
       cases hlv:(nth M j).alive with
       | false=>unfold Ck.alive at hlv;unfold Ck.ok;split at hlv <;> simp_all
       | true=>exact Ck.ok_ads hadsM (memLt_mem hM (nth_mem hjM)) (Ck.ok_same (h.ok _ (nth_mem hjM) hco) (hblk j hjM (Ck.live_iff.2 ⟨hlv,hco⟩) hno))
   · have e:=hnew (j - M.length) (by omega)
     rw [show M.length+(j - M.length)=j by omega] at e
     rw [e] at hco ⊢
     have hin:m.length+(j - M.length)<out.length:=by omega
     have h1:=hren _ (houtlt _ (nth_mem hin)) _ rfl (ho.ok _ (nth_mem hin) hco)
     unfold Ck.ok at h1 ⊢
     exact h1
 · intro c hc hw hl a ha
   obtain ⟨j,hjl,rfl⟩:=mem_nth hc
   rw [hlenA] at hjl
   by_cases hjM:j<M.length
   · obtain ⟨e1,_,_,e4,_⟩:=hplace j hjM
     rw [e1] at ha
     rw [e4] at hw
     rw [nth_app,if_pos (by rw [hU.1];exact hjM)] at hl
     rcases hU.2 j with ⟨k,hkl,hkw,hj,he⟩ | ⟨hno,he⟩
     · rw [he,hrlive] at hl
       have hko:k<out.length:=zk hkl hx.len
       obtain ⟨f1,_,_,f4,f5⟩:=hx.same k hkl
       have hck:=(hk k hkl).2
       rw [hj] at hck
       have hl':(nth out k).live=true:=by
        have hl3:=Ck.live_iff.1 hl
        exact Ck.live_iff.2 ⟨hl3.1,by rw [f5,hck.on];exact hl3.2⟩
       refine ho.wrok _ (nth_mem hko) (by rw [f4];exact hkw) hl' a ?_
       rw [f1,hck.block];exact ha
     · rw [he] at hl
       rw [World.frozen?_of_block (w:=w) (by rw [ha];exact hblk j hjM hl hno)]
       exact h.wrok _ (nth_mem hjM) hw hl a ha
   · have e:=hnew (j - M.length) (by omega)
     rw [show M.length+(j - M.length)=j by omega] at e
     rw [e] at hw hl ha
     have hin:m.length+(j - M.length)<out.length:=by omega
     rw [renCk_live] at hl
     exact ho.wrok _ (nth_mem hin) hw hl a ha
 · -- apart
   have old_live:∀ j,j<M.length→(nth (U ++ N) j).live=true→(nth M j).live=true∧((∃ k,k<m.length∧(nth m k).wr=true∧rn ρ k=j∧(nth out k).live=true)∨(∀ k,k<m.length→(nth m k).wr=true→rn ρ k≠j)):=by
    intro j hj hl
    have hlo:=(Ck.live_iff.1 hl).2
    rw [(hplace j hj).2.2.2.2] at hlo
    rw [nth_app,if_pos (by rw [hU.1];exact hj)] at hl
    rcases hU.2 j with ⟨k,hkl,hkw,hjk,he⟩ | ⟨hno,he⟩
    · rw [he,hrlive] at hl
      have hck:=(hk k hkl).2
      obtain ⟨_,_,_,_,f5⟩:=hx.same k hkl
      refine ⟨Ck.live_iff.2 ⟨?_,hlo⟩,.inl ⟨k,hkl,hkw,hjk,Ck.live_iff.2 ⟨(Ck.live_iff.1 hl).1,by rw [f5,hck.on,hjk];exact hlo⟩⟩⟩
      rw [← hjk];exact hck.alive (hwl _ (nth_mem hkl) hkw)
    · rw [he] at hl;exact ⟨hl,.inr hno⟩
   have new_facts:∀ j,M.length≤j→j<M.length+(out.length - m.length)→(nth (U ++ N) j).live=true→
    (nth (U ++ N) j).block=(nth out (m.length+(j - M.length))).block∧(nth out (m.length+(j - M.length))).live=true∧(nth out (m.length+(j - M.length))).wr=true:=by
    intro j h1 h2 hl
    have e:=hnew (j - M.length) (by omega)
    rw [show M.length+(j - M.length)=j by omega] at e
    rw [e] at hl ⊢
    rw [renCk_live] at hl
    exact ⟨rfl,hl,hx.new _ (by omega) (by omega) hl⟩
   have old_new:∀ i j,i<M.length→M.length≤j→j<M.length+(out.length - m.length)→(nth (U ++ N) i).live=true→(nth (U ++ N) j).live=true→(nth (U ++ N) i).block≠(nth (U ++ N) j).block:=by
    intro i j hi hj1 hj2 hil hjl
    obtain ⟨n1,n2,n3⟩:=new_facts j hj1 hj2 hjl
    have hin:m.length+(j - M.length)<out.length:=by omega
    obtain ⟨o1,o2⟩:=old_live i hi hil
    rw [(hplace i hi).1,n1]
    rcases o2 with ⟨k,hkl,hkw,hki,hkl2⟩ | hno
    · have hck:=(hk k hkl).2
      have hko:k<out.length:=zk hkl hx.len
      obtain ⟨f1,_,_,f4,_⟩:=hx.same k hkl
      have:=ho.apart k _ hko hin (by omega) (by rw [f4];exact hkw) hkl2 n2
      rw [f1,hck.block,hki] at this
      exact this
    · intro e
      have hlt:=h.lt _ (nth_mem hi) (Ck.live_iff.1 o1).2
      have hS:=ho.inS _ (nth_mem hin) n3 (Ck.live_iff.1 n2).2 (by rw [← e];exact hlt)
      obtain ⟨k,hkl,hkw,_,hb,hMw,hMl⟩:=hSM _ hS
      exact h.apart _ i (hk k hkl).1 hi (hno k hkl hkw) hMw hMl o1 (by rw [hb,e])
   intro i j hi hj hij hw hil hjl
   rw [hlenA] at hi hj
   by_cases hiM:i<M.length
   · by_cases hjM:j<M.length
     · obtain ⟨e1,_,_,e4,_⟩:=hplace i hiM
       rw [e1,(hplace j hjM).1]
       rw [e4] at hw
       exact h.apart i j hiM hjM hij hw (old_live i hiM hil).1 (old_live j hjM hjl).1
     · exact old_new i j hiM (by omega) hj hil hjl
   · by_cases hjM:j<M.length
     · exact (old_new j i hjM (by omega) hi hjl hil).symm
     · obtain ⟨n1,n2,n3⟩:=new_facts i (by omega) hi hil
       obtain ⟨m1,m2,m3⟩:=new_facts j (by omega) hj hjl
       rw [n1,m1]
       exact ho.apart _ _ (by omega) (by omega) (by omega) n3 n2 m2
 · intro c hc hco
   obtain ⟨j,hjl,rfl⟩:=mem_nth hc
   rw [hlenA] at hjl
   by_cases hjM:j<M.length
   · rw [(hplace j hjM).2.2.2.2] at hco
     rw [(hplace j hjM).1]
     exact zk (h.lt _ (nth_mem hjM) hco) ho.size
   · have e:=hnew (j - M.length) (by omega)
     rw [show M.length+(j - M.length)=j by omega] at e
     rw [e] at hco ⊢
     have hin:m.length+(j - M.length)<out.length:=by omega
     exact ho.lt (nth out (m.length+(j - M.length))) (nth_mem hin) hco
end Go.Vx
namespace Go.Vx
open Go
variable {C:Nat→Codec}
def fL {α:Type 1}:List α→(List α→Tr)→Tr
 | [],K=>K []
 | x :: r,K=>fL r fun r=>K (x :: r)
theorem fL_eq {α:Type 1}:∀ (l:List α) (K:List α→Tr),fL l K=K l
 | [],_=>rfl
 | x :: r,K=>by simp only [fL,fL_eq r]
def fLN:List Nat→(List Nat→Tr)→Tr
 | [],K=>K []
 | x :: r,K=>fLN r fun r=>K (x :: r)
theorem fLN_eq:∀ (l:List Nat) (K:List Nat→Tr),fLN l K=K l
 | [],_=>rfl
 | x :: r,K=>by simp only [fLN,fLN_eq r]
def fN:Nat→(Nat→Tr)→Tr
 | 0,K=>K 0
 | n+1,K=>fN n fun k=>K (k+1)
theorem fN_eq:∀ (n:Nat) (K:Nat→Tr),fN n K=K n
 | 0,_=>rfl
 | n+1,K=>by simp only [fN,fN_eq n]
mutual
def fSV:SV→(SV→Tr)→Tr
 | .junk,K=>K .junk
 | .undef,K=>K .undef
 | .int k n,K=>K (.int k n)
 | .bool .t,K=>K (.bool .t)
 | .bool .f,K=>K (.bool .f)
 | .bool (.tm b),K=>K (.bool (.tm b))
 | .ptr c i f,K=>fN c fun c=>K (.ptr c i f)
 | .nilp,K=>K .nilp
 | .sl c i n m,K=>fN c fun c=>K (.sl c i n m)
 | .nils,K=>K .nils
 | .agg vs,K=>fSVs vs fun vs=>K (.agg vs)
 | .tup vs,K=>fSVs vs fun vs=>K (.tup vs)
 | .ifc t v,K=>fSV v fun v=>K (.ifc t v)
 | .nili,K=>K .nili
 | .fn f a b,K=>fSVs a fun a=>fSVs b fun b=>K (.fn f a b)
 | .nilf,K=>K .nilf
 | .gp g,K=>K (.gp g)
 | .mp c,K=>fN c fun c=>K (.mp c)
 | .val v,K=>K (.val v)
 | .cnd cs v,K=>fSV v fun v=>K (.cnd cs v)
def fSVs:List SV→(List SV→Tr)→Tr
 | [],K=>K []
 | v :: r,K=>fSV v fun v=>fSVs r fun r=>K (v :: r)
end
mutual
theorem fSV_eq:∀ (v:SV) (K:SV→Tr),fSV v K=K v
 | .junk,_=>by simp only [fSV]
 | .undef,_=>by simp only [fSV]
 | .int _ _,_=>by simp only [fSV]
 | .bool .t,_=>by simp only [fSV]
 | .bool .f,_=>by simp only [fSV]
 | .bool (.tm _),_=>by simp only [fSV]
 | .ptr _ _ _,_=>by simp only [fSV,fN_eq]
 | .nilp,_=>by simp only [fSV]
 | .sl _ _ _ _,_=>by simp only [fSV,fN_eq]
 | .nils,_=>by simp only [fSV]
 | .agg vs,_=>by simp only [fSV,fSVs_eq vs]
 | .tup vs,_=>by simp only [fSV,fSVs_eq vs]
 | .ifc _ v,_=>by simp only [fSV,fSV_eq v]
 | .nili,_=>by simp only [fSV]
 | .fn _ a b,_=>by simp only [fSV,fSVs_eq a,fSVs_eq b]
 | .nilf,_=>by simp only [fSV]
 | .gp _,_=>by simp only [fSV]
 | .mp _,_=>by simp only [fSV,fN_eq]
 | .val _,_=>by simp only [fSV]
 | .cnd _ v,_=>by simp only [fSV,fSV_eq v]
theorem fSVs_eq:∀ (l:List SV) (K:List SV→Tr),fSVs l K=K l
 | [],_=>by simp only [fSVs]
 | v :: r,_=>by simp only [fSVs,fSV_eq v,fSVs_eq r]
end
def fTm1:Tm→(Tm→Tr)→Tr
 | [],K=>K []
 | (k,v) :: r,K=>fSV v fun v=>K ((k,v) :: r)
theorem fTm1_eq (tm:Tm) (K:Tm→Tr):fTm1 tm K=K tm:=by
 cases tm with
 | nil=>rfl
 | cons x r=>simp only [fTm1,fSV_eq]
def fTm:Tm→(Tm→Tr)→Tr
 | [],K=>K []
 | (k,v) :: r,K=>fSV v fun v=>fTm r fun r=>K ((k,v) :: r)
theorem fTm_eq:∀ (tm:Tm) (K:Tm→Tr),fTm tm K=K tm
 | [],_=>rfl
 | (k,v) :: r,K=>by simp only [fTm,fSV_eq,fTm_eq r]
def fCs:Cells C→(Cells C→Tr)→Tr
 | .rows t l,K=>K (.rows t l)
 | .one vs,K=>fSVs vs fun vs=>K (.one vs)
 | .mp tk tv l clk,K=>K (.mp tk tv l clk)
 | .it mc seen clk,K=>fN mc fun mc=>K (.it mc seen clk)
 | .dead,K=>K .dead
theorem fCs_eq (c:Cells C) (K:Cells C→Tr):fCs c K=K c:=by
 cases c <;> simp only [fCs,fSVs_eq,fN_eq]
def fM:List (Ck C)→(List (Ck C)→Tr)→Tr
 | [],K=>K []
 | ⟨b,ba,sz,w,g,cs⟩ :: r,K=>fCs cs fun cs=>fM r fun r=>K (⟨b,ba,sz,w,g,cs⟩ :: r)
theorem fM_eq:∀ (m:List (Ck C)) (K:List (Ck C)→Tr),fM m K=K m
 | [],_=>rfl
 | ⟨_,_,_,_,_,cs⟩ :: r,K=>by simp only [fM,fCs_eq,fM_eq r]
def allLt (n:Nat):List Nat→Bool
 | []=>true
 | p :: r=>xz p n && allLt n r
def withOffs (m:List (Ck C)) (ρ:List Nat) (s:List (Ck C)) (K:List Nat→List (Ck C)→Tr):Tr:=
 match allLt m.length ρ with
 | true=>K ρ m
 | false=>fM (m ++ offs m.length ρ s) fun m'=>fLN (fixR m.length m.length ρ) fun ρ'=>K ρ' m'
theorem withOffs_ok {m:List (Ck C)} {ρ:List Nat} {s:List (Ck C)} {K:List Nat→List (Ck C)→Tr} (h:(withOffs m ρ s K).holds) (hl:memLt m.length m=true):
 ∃ ρ' o,(K ρ' (m ++ o)).holds∧(∀ x∈o,x.on=false∧(∀ t y,¬ x.cells.Has t y)∧∀ n,x.lt n=true)∧memLt (m ++ o).length (m ++ o)=true∧(allLt m.length ρ=true→ρ'=ρ∧o=[]):=by
 unfold withOffs at h
 split at h
 · exact ⟨ρ,[],by rw [vj];exact h,⟨fun x hx=>by simp at hx,by rw [vj];exact hl,fun _=>⟨rfl,rfl⟩⟩⟩
 · rw [fM_eq,fLN_eq] at h
   have ho:=offs_off m.length ρ s
   rename_i hall
   refine ⟨_,_,h,ho,memLt_app (memLt_mono (by simp) hl) ?_,fun h=>by rw [hall] at h;cases h⟩
   have:∀ (l:List (Ck C)) (n:Nat),(∀ x∈l,∀ n,x.lt n=true)→memLt n l=true:=by
    intro l n
    induction l with
    | nil=>intro _;rfl
    | cons y l ih=>
      intro hy
      simp only [memLt,zn]
      exact ⟨hy y (by simp) n,ih fun x hx=>hy x (yv _ hx)⟩
   exact this _ _ fun x hx n=>(ho x hx).2.2 n
theorem MemOK.withO {S:Sx} {w0 w:World} {m o:List (Ck C)} (h:MemOK S w0 w m) (hl:memLt m.length m=true) (ho:∀ x∈o,x.on=false∧(∀ t y,¬ x.cells.Has t y)∧∀ n,x.lt n=true):MemOK S w0 w (m ++ o):=(h.offs hl ho).1
theorem MemOK.dropO {S:Sx} {w0 w:World} {m o:List (Ck C)} (hl:memLt m.length m=true) (h:MemOK S w0 w (m ++ o)):MemOK S w0 w m:=by
 have hin:∀ y,y∈m→y∈m ++ o:=fun y hy=>List.mem_append_left _ hy
 have e:∀ k,k<m.length→nth (m ++ o) k=nth m k:=fun k hk=>by rw [nth_app,if_pos hk]
 refine ⟨h.os,h.tape,h.output,h.size,h.keep,fun y hy=>h.inS y (hin y hy),fun y hy ho => ?_,fun y hy=>h.wrok y (hin y hy),fun p q hp hq hpq hw hlp hlq => ?_,fun y hy=>h.lt y (hin y hy),?_⟩
 · refine Ck.ok_ads (fun c hc => ?_) (memLt_mem hl hy) (h.ok y (hin y hy) ho)
   simp only [ads];rw [e c hc]
 · have:=h.apart p q (by simp;omega) (by simp;omega) hpq
   rw [e p hp,e q hq] at this
   exact this hw hlp hlq
 · refine ⟨h.more.gv,h.more.gp,fun p hp => ?_,h.more.nod,fun y hy t z hz => ?_⟩
   · obtain ⟨h1,h2,h3⟩:=h.more.pin p hp
     exact ⟨h1,h2,fun y hy=>h3 y (hin y hy)⟩
   · obtain ⟨k1,k2⟩:=h.more.deep y (hin y hy) t z hz
     exact ⟨k1,fun b' hb'=>⟨(k2 b' hb').lt,(k2 b' hb').old,fun c' hc'=>(k2 b' hb').no c' (hin c' hc'),(k2 b' hb').pin⟩⟩
end Go.Vx
namespace Go.Vx
open Go
abbrev Ent' (c d:Codec):=c.α×d.α×Nat
def entryOf (c d:Codec) (e:Ent' c d):MapEntry:=⟨packV c e.1,packV d e.2.1,e.2.2⟩
def mfix (c d:Codec) (q:c.α):List (Ent' c d)→Nat→Option (Nat×d.α)
 | [],_=>none
 | e :: r,i=>match c.beq q e.1 with
   | true=>some (i,e.2.1)
   | false=>mfix c d q r (i+1)
def mhas (c d:Codec) (l:List (Ent' c d)) (q:c.α):Bool:=(mfix c d q l 0).isSome
def mget (c d:Codec) (l:List (Ent' c d)) (q:c.α):d.α:=((mfix c d q l 0).map (·.2)).getD d.dflt
def mputGo (c d:Codec) (q:c.α) (x:d.α) (clk:Nat):List (Ent' c d)→List (Ent' c d)
 | []=>[(q,x,clk)]
 | e :: r=>match c.beq q e.1 with
   | true=>(q,x,e.2.2) :: r
   | false=>e :: mputGo c d q x clk r
def mput (c d:Codec) (l:List (Ent' c d)) (q:c.α) (x:d.α) (clk:Nat):List (Ent' c d):=mputGo c d q x clk l
def mclk (c d:Codec) (l:List (Ent' c d)) (q:c.α) (clk:Nat):Nat:=if mhas c d l q then clk else clk+1
def mdel (c d:Codec) (l:List (Ent' c d)) (q:c.α):List (Ent' c d):=match mfix c d q l 0 with
 | some (i,_)=>l.eraseIdx i
 | none=>l
def mstamp (c d:Codec) (l:List (Ent' c d)) (q:c.α) (clk:Nat):Nat:=match mfix c d q l 0 with
 | some (i,_)=>((l[i]?).map (·.2.2)).getD 0
 | none=>clk
def mset (c d:Codec) (s:Nat) (x:d.α):List (Ent' c d)→List (Ent' c d)
 | []=>[]
 | e :: r=>match zj e.2.2 s with
   | true=>(e.1,x,e.2.2) :: r
   | false=>e :: mset c d s x r
def mhasS (c d:Codec) (l:List (Ent' c d)) (s:Nat):Bool:=l.any fun e=>zj e.2.2 s
def mat (c d:Codec) (s:Nat):List (Ent' c d)→Ent' c d
 | []=>(c.dflt,d.dflt,0)
 | e :: r=>match zj e.2.2 s with
   | true=>e
   | false=>mat c d s r
def lastS (l:List Nat):Nat:=l.getLast?.getD 0
structure KeyOK (P:Program) (t:TypeId) (c:Codec):Prop where
 chk:∀ (b:Bool) (x:c.α) (w:World),(Instr.checkKey b 10000 t (packV c x)).run P w=.ok () w
 find:∀ (d:Codec) (l:List (Ent' c d)) (q:c.α) (w:World),(Instr.findKey t (packV c q) (l.map (entryOf c d))).run P w=.ok ((mfix c d q l 0).map fun p=>(p.1,packV d p.2)) w
 bits:∀ x y,c.beq x y=true→Instr.sameBits 10000 (packV c y) (packV c x)=true
structure EqOK (P:Program) (t:TypeId) (c:Codec):Prop where
 eq:∀ (x y:c.α) (w:World),(Op.equal t (packV c x) (packV c y)).run P w=.ok (c.beq x y) w
 guard:P.eqGuardType P.depth t=false
structure ZeroIs (P:Program) (t:TypeId) (c:Codec):Prop where
 z:∀ w:World,(zeroValue t).run P w=.ok (packV c c.dflt) w
def decV (c:Codec) (v:SV):Option c.α:=match c.agg,v with
 | true,.agg vs=>match zj vs.length c.sz with
   | true=>updParts c c.dflt 0 vs
   | false=>none
 | true,_=>none
 | false,v=>match zj c.sz 1,v.cell with
   | true,true=>c.upd c.dflt 0 v
   | _,_=>none
def encV (c:Codec) (x:c.α):SV:=match c.agg with
 | true=>.agg (c.enc x)
 | false=>(c.enc x).getD 0 .undef
theorem encV_va (c:Codec) (x:c.α) (ad:Nat→Ad):(encV c x).va ad=packV c x:=by
 unfold encV packV
 have hf:=c.flat x ad noAd
 cases c.agg with
 | true=>simp only [SV.va,SV.vas_eq];rw [hf]
 | false=>
   have:=congrArg (fun l=>l[0]?) hf
   simp only [zh] at this
   simp only [zy]
   cases h:(c.enc x)[0]? with
   | none=>rfl
   | some v=>rw [h] at this;simpa using this
theorem updParts'_vas (c:Codec) (ad:Nat→Ad):∀ (vs:List SV) (x y:c.α) (f:Nat),updParts' c x f vs=some y→f+vs.length≤c.sz→
 (c.enc y).map (SV.va ad)=((c.enc x).map (SV.va ad)).take f ++ vs.map (SV.va ad) ++ ((c.enc x).map (SV.va ad)).drop (f+vs.length)
 | [],x,y,f,h,_=>by
   simp only [updParts',Option.some.injEq] at h;subst h
   simp
 | v :: vs,x,y,f,h,hl=>by
   simp only [updParts'] at h
   split at h
   · rename_i z hz
     simp only [xq] at hl
     have ih:=updParts'_vas c ad vs z y (f+1) h (by omega)
     have hu:=c.upd_ok ad x f v z hz
     have hlen:((c.enc x).map (SV.va ad)).length=c.sz:=by simp [c.len]
     rw [ih,hu]
     generalize (c.enc x).map (SV.va ad)=L at hlen
     have hf:f<L.length:=by omega
     have hft:(L.take f).length=f:=by rw [List.length_take];omega
     rw [List.set_eq_take_append_cons_drop,if_pos hf]
     have h1:(L.take f ++ SV.va ad v :: L.drop (f+1)).take (f+1)=L.take f ++ [SV.va ad v]:=by
      rw [List.take_append,hft,List.take_of_length_le (by omega),show f+1 - f=1 by omega];rfl
     have h2:(L.take f ++ SV.va ad v :: L.drop (f+1)).drop (f+1+vs.length)=L.drop (f+(v :: vs).length):=by
      rw [List.drop_append,hft,sg (by omega),show f+1+vs.length - f=vs.length+1 by omega]
      simp only [List.nil_append,List.drop_succ_cons,List.drop_drop,xq]
      congr 1;omega
     rw [h1,h2]
     simp
   · cases h
theorem updParts_vas (c:Codec) (ad:Nat→Ad) (vs:List SV) (x y:c.α) (h:updParts c x 0 vs=some y) (hl:vs.length≤c.sz):
 (c.enc y).map (SV.va ad)=vs.map (SV.va ad) ++ ((c.enc x).map (SV.va ad)).drop vs.length:=by
 simp only [updParts] at h
 split at h
 · rename_i y' hw
   simp only [Option.some.injEq] at h;subst h
   have e:=c.whole_ok ad _ _ hw
   have hl':=congrArg List.length e
   simp only [zm,c.len] at hl'
   rw [e,sg (by simp [c.len,hl']),vj]
 · have:=updParts'_vas c ad vs x y 0 h (by omega)
   simpa using this
theorem decV_ok {c:Codec} {v:SV} {x:c.α} (h:decV c v=some x) (ad:Nat→Ad):packV c x=v.va ad:=by
 unfold decV at h
 unfold packV
 split at h
 · rename_i vs ha
   split at h
   · rename_i hl
     have hl:=zp hl
     rw [ha]
     have:=updParts_vas c ad vs _ _ h (by omega)
     rw [sg (by simp [c.len,hl])] at this
     simp only [SV.va,SV.vas_eq]
     rw [c.flat x noAd ad,this,vj]
   · cases h
 · cases h
 · rename_i ha
   split at h
   · rename_i hs hc
     have hs:=zp hs
     rw [ha]
     have hu:=c.upd_ok ad _ _ _ _ h
     have hlen:=c.len c.dflt
     have e:=c.flat x noAd ad
     rw [hu] at e
     have h0:=congrArg (fun l=>l[0]?) e
     simp only [zh] at h0
     rw [List.getElem?_set_self (by simp [hlen,hs])] at h0
     cases hx:(c.enc x)[0]? with
     | none=>rw [hx] at h0;cases h0
     | some u=>rw [hx] at h0;simpa [zy,hx] using h0
   · cases h
section
variable {P:Program} {w:World} {c d:Codec}
theorem mfix_lt {q:c.α}:∀ {l:List (Ent' c d)} {i k:Nat} {x:d.α},mfix c d q l i=some (k,x)→i≤k∧k<i+l.length∧∃ e,l[k - i]? = some e∧c.beq q e.1=true∧e.2.1=x
 | [],_,_,_,h=>by cases h
 | e :: r,i,k,x,h=>by
   simp only [mfix] at h
   split at h
   · rename_i hb
     simp only [Option.some.injEq,Prod.mk.injEq] at h
     obtain ⟨rfl,rfl⟩:=h
     exact ⟨zx _,by simp,e,by simp,hb,rfl⟩
   · obtain ⟨h1,h2,e',h3,h4⟩:=mfix_lt h
     refine ⟨by omega,by simp only [xq];omega,e',?_,h4⟩
     rw [show k - i=(k - (i+1))+1 by omega];simpa using h3
theorem run_obj {b:Nat} {es:Array MapEntry} {clk:Nat} (hb:w.heap[b]? = some (.map es clk)):(getObj b).run P w=.ok (.map es clk) w:=by simp [getObj,Sem.run,hb]
theorem run_iter {r:Nat} {mb:Option Nat} {a z:Nat} {sn:Array Nat} (hr:w.heap[r]? = some (.mapIter mb a sn z)):(getObj r).run P w=.ok (.mapIter mb a sn z) w:=by simp [getObj,Sem.run,hr]
theorem run_put {b:Nat} {es:Array MapEntry} {clk:Nat} (o':Obj) (hb:w.heap[b]? = some (.map es clk)):(setObj b o').run P w=.ok () (w.putObj b o'):=by simp [setObj,Sem.run,hb,World.putObj]
theorem run_lookup {xt kt et:TypeId} {b:Nat} (ht:P.underlying xt=some (.map kt et)) (hk:KeyOK P kt c) (hz:ZeroIs P et d) {l:List (Ent' c d)} {clk:Nat} (hb:w.heap[b]? = some (.map (l.map (entryOf c d)).toArray clk)) (q:c.α) (ok:Bool):
 (Instr.lookup xt (.map (some b)) (packV c q) ok).run P w=.ok (if ok then .tuple #[packV d (mget c d l q),.bool (mhas c d l q)] else packV d (mget c d l q)) w:=by
 have hf:=hk.find d l q w
 have hc:=hk.chk (l.map (entryOf c d)).toArray.isEmpty q w
 unfold mget mhas
 cases hm:mfix c d q l 0 with
 | none=>
   rw [hm] at hf
   cases ok <;> simp_all [Instr.lookup,run_underlying' ht,run_obj hb,hz.z w]
 | some p=>
   obtain ⟨i,x⟩:=p
   rw [hm] at hf
   cases ok <;> simp_all [Instr.lookup,run_underlying' ht,run_obj hb,hz.z w]
theorem run_maplen {t:TypeId} {kt et ty:TypeId} {b:Nat} (ht:P.underlying t=some (.map kt et)) {l:List (Ent' c d)} {clk:Nat} (hb:w.heap[b]? = some (.map (l.map (entryOf c d)).toArray clk)):
 (Builtin.len_ #[t] ty #[.map (some b)]).run P w=.ok (.int .i64 l.length) w:=by
 simp [Builtin.len_,run_underlying' ht,run_obj hb,goInt]
theorem mput_some {q:c.α} {x:d.α} {clk:Nat}:∀ {l:List (Ent' c d)} {i k:Nat} {y:d.α},mfix c d q l i=some (k,y)→
 (l.map (entryOf c d)).modify (k - i) (fun e=>{ e with key:=packV c q,val:=packV d x })=(mputGo c d q x clk l).map (entryOf c d)
 | [],_,_,_,h=>by cases h
 | e :: r,i,k,y,h=>by
   simp only [mfix] at h
   split at h
   · rename_i hb
     simp only [Option.some.injEq,Prod.mk.injEq] at h
     obtain ⟨rfl,rfl⟩:=h
     simp [mputGo,hb,entryOf]
   · rename_i hb
     obtain ⟨h1,_⟩:=mfix_lt h
     rw [show k - i=(k - (i+1))+1 by omega]
     simp only [wx,qq,mputGo,hb]
     rw [mput_some h]
theorem mput_none {q:c.α} {x:d.α} {clk:Nat}:∀ {l:List (Ent' c d)} {i:Nat},mfix c d q l i=none→mputGo c d q x clk l=l ++ [(q,x,clk)]
 | [],_,_=>rfl
 | e :: r,i,h=>by
   simp only [mfix] at h
   split at h
   · cases h
   · rename_i hb
     simp only [mputGo,hb]
     rw [mput_none h];rfl
theorem run_mapPut {xt kt et:TypeId} {b:Nat} (ht:P.underlying xt=some (.map kt et)) (hk:KeyOK P kt c) {l:List (Ent' c d)} {clk:Nat} (hb:w.heap[b]? = some (.map (l.map (entryOf c d)).toArray clk)) (q:c.α) (x:d.α):
 (Instr.mapUpdate xt (.map (some b)) (packV c q) (packV d x)).run P w=.ok () (w.putObj b (.map ((mput c d l q x clk).map (entryOf c d)).toArray (mclk c d l q clk))):=by
 have hf:=hk.find d l q w
 have hc:=hk.chk false q w
 unfold mclk mhas mput
 cases hm:mfix c d q l 0 with
 | none=>
   rw [hm] at hf
   rw [mput_none hm]
   simp_all [Instr.mapUpdate,run_underlying' ht,run_obj hb,run_put _ hb,entryOf]
 | some p=>
   obtain ⟨i,y⟩:=p
   rw [hm] at hf
   obtain ⟨_,h2,e,h3,h4,h5⟩:=mfix_lt hm
   simp only [uh,wo] at h2 h3
   have hp:=mput_some (x:=x) (clk:=clk) hm
   simp only [uh] at hp
   have hs:(Instr.keyThatStays (packV c e.1) (packV c q)).run P w=.ok (packV c q) w:=by simp [Instr.keyThatStays,hk.bits q e.1 h4]
   have ha:(l.map (entryOf c d)).toArray.modify i (fun e=>{ e with key:=packV c q,val:=packV d x })=((mputGo c d q x clk l).map (entryOf c d)).toArray:=by
    rw [← hp];simp
   have hg:(((l.map (entryOf c d)).toArray[i]?).map (·.key)).getD (packV c q)=packV c e.1:=by simp [h3,entryOf]
   simp only [Instr.mapUpdate]
   simp_all [run_underlying' ht,run_obj hb,run_put _ hb]
theorem eraseIdx_map' {α β:Type} (f:α→β):∀ (l:List α) (i:Nat),(l.map f).eraseIdx i=(l.eraseIdx i).map f
 | [],_=>rfl
 | _ :: _,0=>rfl
 | _ :: r,i+1=>by simp [eraseIdx_map' f r i]
theorem run_mapDel {t kt et k ty:TypeId} {b:Nat} (ht:P.underlying t=some (.map kt et)) (hk:KeyOK P kt c) {l:List (Ent' c d)} {clk:Nat} (hb:w.heap[b]? = some (.map (l.map (entryOf c d)).toArray clk)) (q:c.α):
 (Builtin.delete_ #[t,k] ty #[.map (some b),packV c q]).run P w=.ok (.tuple #[]) (w.putObj b (.map ((mdel c d l q).map (entryOf c d)).toArray clk)):=by
 have hf:=hk.find d l q w
 have hc:=hk.chk (l.map (entryOf c d)).toArray.isEmpty q w
 unfold mdel
 cases hm:mfix c d q l 0 with
 | none=>
   rw [hm] at hf
   simp_all [Builtin.delete_,run_underlying' ht,run_obj hb,run_put _ hb]
 | some p=>
   obtain ⟨i,y⟩:=p
   rw [hm] at hf
   obtain ⟨_,h2,_⟩:=mfix_lt hm
   have ha:(l.map (entryOf c d)).toArray.eraseIdxIfInBounds i=((l.eraseIdx i).map (entryOf c d)).toArray:=by
    simp [Array.eraseIdxIfInBounds,show i<l.length by omega,eraseIdx_map']
   simp_all [Builtin.delete_,run_underlying' ht,run_obj hb,run_put _ hb]
theorem ment_some {q:c.α} {clk:Nat}:∀ {l:List (Ent' c d)} {i k:Nat} {y:d.α},mfix c d q l i=some (k,y)→
 (l.map (entryOf c d)).modify (k - i) (fun e=>{ e with key:=packV c q })=(mputGo c d q y clk l).map (entryOf c d)
 | [],_,_,_,h=>by cases h
 | e :: r,i,k,y,h=>by
   simp only [mfix] at h
   split at h
   · rename_i hb
     simp only [Option.some.injEq,Prod.mk.injEq] at h
     obtain ⟨rfl,rfl⟩:=h
     simp [mputGo,hb,entryOf]
   · rename_i hb
     obtain ⟨h1,_⟩:=mfix_lt h
     rw [show k - i=(k - (i+1))+1 by omega]
     simp only [wx,qq,mputGo,hb]
     rw [ment_some h]
theorem run_mapEntry {xt kt et:TypeId} {b:Nat} (ht:P.underlying xt=some (.map kt et)) (hk:KeyOK P kt c) (hz:ZeroIs P et d) {l:List (Ent' c d)} {clk:Nat} (hb:w.heap[b]? = some (.map (l.map (entryOf c d)).toArray clk)) (q:c.α):
 (Instr.mapEntry xt (.map (some b)) (packV c q)).run P w=.ok (.tuple #[packV d (mget c d l q),.int .i64 (mstamp c d l q clk)]) (w.putObj b (.map ((mput c d l q (mget c d l q) clk).map (entryOf c d)).toArray (mclk c d l q clk))):=by
 have hf:=hk.find d l q w
 have hc:=hk.chk false q w
 unfold mclk mhas mput mget mstamp
 cases hm:mfix c d q l 0 with
 | none=>
   rw [hm] at hf
   rw [mput_none hm]
   simp_all [Instr.mapEntry,run_underlying' ht,run_obj hb,run_put _ hb,entryOf,hz.z w,goInt]
 | some p=>
   obtain ⟨i,y⟩:=p
   rw [hm] at hf
   obtain ⟨_,h2,e,h3,h4,h5⟩:=mfix_lt hm
   simp only [uh,wo] at h2 h3
   have hp:=ment_some (clk:=clk) hm
   simp only [uh] at hp
   have hs:(Instr.keyThatStays (packV c e.1) (packV c q)).run P w=.ok (packV c q) w:=by simp [Instr.keyThatStays,hk.bits q e.1 h4]
   have ha:(l.map (entryOf c d)).toArray.modify i (fun e=>{ e with key:=packV c q })=((mputGo c d q y clk l).map (entryOf c d)).toArray:=by
    rw [← hp];simp
   have hg:(((l.map (entryOf c d)).toArray[i]?).map (·.key)).getD (packV c q)=packV c e.1:=by simp [h3,entryOf]
   have hg2:(((l.map (entryOf c d)).toArray[i]?).map (·.born)).getD 0=e.2.2:=by simp [h3,entryOf]
   simp only [Instr.mapEntry]
   simp_all [run_underlying' ht,run_obj hb,run_put _ hb,goInt]
theorem mset_find {s:Nat} {x:d.α}:∀ {l:List (Ent' c d)},mhasS c d l s=true→∃ i,(l.map (entryOf c d)).findIdx? (fun e=>(e.born:Int) == (s:Int))=some i∧i<l.length∧
 (l.map (entryOf c d)).modify i (fun e=>{ e with val:=packV d x })=(mset c d s x l).map (entryOf c d)
 | [],h=>by cases h
 | e :: r,h=>by
   cases hb:zj e.2.2 s with
   | true=>
     have:=zp hb
     refine ⟨0,by simp [ny,entryOf,this],by simp,?_⟩
     simp [mset,hb,entryOf]
   | false=>
     have hne:=xl hb
     have h':mhasS c d r s=true:=by simpa [mhasS,hne] using h
     obtain ⟨i,h1,h2,h3⟩:=mset_find (x:=x) h'
     refine ⟨i+1,?_,by simp;omega,?_⟩
     · have hn:((e.2.2:Int) == (s:Int))=false:=by simp;omega
       have h1':=h1
       simp only [wx,ny]
       rw [show ((entryOf c d e).born:Int)=(e.2.2:Int) from rfl,hn,h1']
       rfl
     · simp only [wx,qq,mset,hb]
       rw [h3]
theorem run_entryStore {t:TypeId} {b:Nat} {l:List (Ent' c d)} {clk:Nat} (hb:w.heap[b]? = some (.map (l.map (entryOf c d)).toArray clk)) {n:Int} (hn:0≤n) (hs:mhasS c d l n.toNat=true) (k:IntKind) (x:d.α):
 (Instr.entryStore t (.map (some b)) (.int k n) (packV d x)).run P w=.ok () (w.putObj b (.map ((mset c d n.toNat x l).map (entryOf c d)).toArray clk)):=by
 obtain ⟨i,h1,h2,h3⟩:=mset_find (x:=x) hs
 rw [Int.toNat_of_nonneg hn] at h1
 have h1':((l.map (entryOf c d)).toArray).findIdx? (fun e=>(e.born:Int) == n)=some i:=by
  rw [List.findIdx?_toArray];exact h1
 have ha:(l.map (entryOf c d)).toArray.modify i (fun e=>{ e with val:=packV d x })=((mset c d n.toNat x l).map (entryOf c d)).toArray:=by
  rw [← h3];simp
 simp only [Instr.entryStore,Sem.run_bind,run_obj hb,Result.andThen_ok,asInt,asIntOf,Sem.run_pure,h1',ha,run_put _ hb]
theorem mat_find {s:Nat}:∀ {l:List (Ent' c d)},mhasS c d l s=true→(l.map (entryOf c d)).find? (fun e=>e.born == s)=some (entryOf c d (mat c d s l))
 | [],h=>by cases h
 | e :: r,h=>by
   cases hb:zj e.2.2 s with
   | true=>
     have:=zp hb
     simp [mat,hb,entryOf,this]
   | false=>
     have hne:=xl hb
     have h':mhasS c d r s=true:=by simpa [mhasS,hne] using h
     have hn:(e.2.2 == s)=false:=by simp [hne]
     have ih:=mat_find h'
     simp only [wx,mat,hb]
     simp only [List.find?_cons,entryOf,hn]
     simp only [entryOf] at ih
     exact ih
theorem run_entry {r b:Nat} {l:List (Ent' c d)} {clk:Nat} {seen:List Nat} (hr:w.heap[r]? = some (.mapIter (some b) clk seen.toArray clk)) (hb:w.heap[b]? = some (.map (l.map (entryOf c d)).toArray clk)) (hne:seen≠[]) (hs:mhasS c d l (lastS seen)=true):
 (Instr.entry (.pointer (some ⟨r,0,none⟩))).run P w=.ok (.tuple #[packV c (mat c d (lastS seen) l).1,packV d (mat c d (lastS seen) l).2.1]) w:=by
 have hl:seen.toArray.back? = some (lastS seen):=by
  unfold lastS
  cases h:seen.getLast? with
  | none=>exact absurd (List.getLast?_eq_none_iff.1 h) hne
  | some a=>simp [h]
 have hf:((l.map (entryOf c d)).toArray).find? (fun e=>e.born == lastS seen)=some (entryOf c d (mat c d (lastS seen) l)):=by
  rw [List.find?_toArray];exact mat_find hs
 simp only [Instr.entry,Sem.run_bind,run_iter hr,Result.andThen_ok,run_obj hb,hl,hf,bne_self_eq_false,we,if_false,Sem.run_pure,entryOf]
theorem run_makeMap (t:TypeId):(Instr.makeMap t none).run P w=.ok (.map (some w.heap.size)) (w.alloc (.map #[] 0)):=by
 simp [Instr.makeMap,newObj,Sem.run]
theorem run_makeMap' {t kt et:TypeId} (ht:P.underlying t=some (.map kt et)) (k:IntKind) (n:Int):(Instr.makeMap t (some (.int k n))).run P w=.ok (.map (some w.heap.size)) (w.alloc (.map #[] 0)):=by
 simp [Instr.makeMap,newObj,Sem.run,run_underlying' ht,asInt,asIntOf]
theorem run_range {xt kt et:TypeId} {b:Nat} (ht:P.underlying xt=some (.map kt et)) {es:Array MapEntry} {clk:Nat} (hb:w.heap[b]? = some (.map es clk)):
 (Instr.range xt (.map (some b))).run P w=.ok (.pointer (some ⟨w.heap.size,0,none⟩)) (w.alloc (.mapIter (some b) clk #[] clk)):=by
 simp [Instr.range,run_underlying' ht,run_obj hb,newObj,Sem.run]
theorem run_choose {n:Nat} (hn:0<n):∃ i k,i<n∧(choose (.mapNext n)).run P w=.ok i { w with drawn:=w.drawn+k }:=by
 by_cases h:n≤1
 · exact ⟨0,0,hn,by simp [choose,Sem.run,Question.forced,h]⟩
 · exact ⟨w.tape w.drawn (.mapNext n) % n,1,zc _ hn,by simp [choose,Sem.run,Question.forced,Question.cut,h]⟩
theorem run_putIter {r:Nat} {mb:Option Nat} {a z:Nat} {sn:Array Nat} (o':Obj) (hr:w.heap[r]? = some (.mapIter mb a sn z)):(setObj r o').run P w=.ok () (w.putObj r o'):=by simp [setObj,Sem.run,hr,World.putObj]
def leftOf (c d:Codec) (l:List (Ent' c d)) (seen:List Nat):List (Ent' c d):=l.filter fun e=>!(seen.contains e.2.2)
theorem run_next {r b:Nat} {ty:TypeId} {l:List (Ent' c d)} {clk:Nat} {seen:List Nat} (hr:w.heap[r]? = some (.mapIter (some b) clk seen.toArray clk)) (hb:w.heap[b]? = some (.map (l.map (entryOf c d)).toArray clk)) (hold:∀ e∈l,e.2.2<clk):
 ∃ k,((∀ e∈l,e.2.2∈seen)∧(Instr.next (.pointer (some ⟨r,0,none⟩)) false ty).run P w=.ok (.tuple #[.bool false]) { w with drawn:=w.drawn+k })∨
   ∃ e∈l,e.2.2∉seen∧(Instr.next (.pointer (some ⟨r,0,none⟩)) false ty).run P w=.ok (.tuple #[.bool true,packV c e.1,packV d e.2.1]) (({ w with drawn:=w.drawn+k }:World).putObj r (.mapIter (some b) clk (seen ++ [e.2.2]).toArray clk)):=by
 have h1:(!seen.toArray.isEmpty && !((l.map (entryOf c d)).toArray).isEmpty && ((l.map (entryOf c d)).toArray).all fun e=>decide (e.born ≥ clk))=false:=by
  cases l with
  | nil=>simp
  | cons e l=>
    have:=hold e (by simp)
    have hn:decide ((entryOf c d e).born ≥ clk)=false:=decide_eq_false (by show ¬ (e.2.2 ≥ clk);omega)
    simp only [wx,List.all_toArray,List.all_cons,hn,Bool.false_and,Bool.and_false]
 have h2:((l.map (entryOf c d)).toArray).filter (fun e=>!seen.toArray.contains e.born)=((leftOf c d l seen).map (entryOf c d)).toArray:=by
  apply xm
  simp only [qf]
  rw [List.filter_map]
  unfold leftOf
  congr 1
  apply List.filter_congr
  intro e _
  simp [entryOf]
  try exact decide_eq_decide.2 Iff.rfl
 have h3:(((leftOf c d l seen).map (entryOf c d)).toArray).filter (fun e=>decide (e.born<clk))=((leftOf c d l seen).map (entryOf c d)).toArray:=by
  apply xm
  simp only [qf]
  rw [List.filter_eq_self]
  intro e he
  obtain ⟨x,hx,rfl⟩:=List.mem_map.1 he
  exact decide_eq_true (hold x (List.mem_filter.1 hx).1)
 have h4:(((leftOf c d l seen).map (entryOf c d)).toArray).filter (fun e=>decide (e.born ≥ clk)) = #[]:=by
  apply xm
  simp only [qf]
  have:((leftOf c d l seen).map (entryOf c d)).filter (fun e=>decide (e.born ≥ clk))=[]:=by
   rw [List.filter_eq_nil_iff]
   intro e he
   obtain ⟨x,hx,rfl⟩:=List.mem_map.1 he
   have:=hold x (List.mem_filter.1 hx).1
   have:¬ ((entryOf c d x).born ≥ clk):=by show ¬ (x.2.2 ≥ clk);omega
   simpa using this
  rw [this]
 by_cases hL:leftOf c d l seen=[]
 · refine ⟨0,.inl ⟨fun e he => ?_,?_⟩⟩
   · have:e∉leftOf c d l seen:=by rw [hL];exact List.not_mem_nil
     unfold leftOf at this
     rw [List.mem_filter] at this
     simpa [he] using this
   · have hc:(choose (.mapNext 1)).run P w=.ok 0 w:=by simp [choose,Sem.run,Question.forced]
     rw [hL] at h2 h3 h4
     simp only [List.map_nil] at h2 h3 h4
     simp only [Instr.next,Sem.run_bind,run_iter hr,Result.andThen_ok,run_obj hb,h1,h2,we,if_false]
     simp [Question.forced]
 · have hpos:0<(leftOf c d l seen).length:=List.length_pos_iff.2 hL
   obtain ⟨i,k,hi,hc⟩:=run_choose (P:=P) (w:=w) hpos
   have hmem:=List.mem_filter.1 (List.getElem_mem (l:=leftOf c d l seen) hi)
   refine ⟨k,.inr ⟨(leftOf c d l seen)[i],hmem.1,by simpa using hmem.2,?_⟩⟩
   have hr':({ w with drawn:=w.drawn+k }:World).heap[r]? = some (.mapIter (some b) clk seen.toArray clk):=hr
   have hne:((leftOf c d l seen).map (entryOf c d)).toArray.isEmpty=false:=by
    simpa using hL
   have hget:(((leftOf c d l seen).map (entryOf c d)).toArray.map some)[i]? = some (some (entryOf c d (leftOf c d l seen)[i])):=by
    simp [hi]
   have hsz:(((leftOf c d l seen).map (entryOf c d)).toArray.map some).size=(leftOf c d l seen).length:=by simp
   simp only [Instr.next,Sem.run_bind,run_iter hr,Result.andThen_ok,run_obj hb,h1,h2,h3,h4,hne,we,if_false]
   rw [show (#[] ++ Array.map some (((leftOf c d l seen).map (entryOf c d)).toArray ++ #[]))=(((leftOf c d l seen).map (entryOf c d)).toArray).map some by simp,hsz,hc]
   simp only [Result.andThen_ok,hget,Sem.run_bind,run_putIter _ hr',entryOf]
   simp
end
variable {C:Nat→Codec}
def Ck.sure (c:Ck C):Cells C:=match c.gl with
 | none=>c.cells
 | some _=>.dead
theorem Ck.sure_ok {c:Ck C} {cs:Cells C} (h:c.sure=cs) (hd:cs≠.dead):c.cells=cs∧c.on=true:=by
 unfold Ck.sure at h
 split at h
 · rename_i hg;exact ⟨h,by simp [Ck.on,hg]⟩
 · exact absurd h.symm hd
def mapQ (P:Program) (tm:Tm) (m:List (Ck C)) (al:List (Nat×Bool)) (o:Op):Ans:=
 match o with
 | .lookup t x k ok=>match P.underlying t,ev tm m al x,ev tm m al k with
   | some (.map kt vt),some (.mp c),some kv=>match (nth m c).sure with
     | .mp tk tv l _=>match zj kt tk && zj vt tv,decV (C tk) kv with
       | true,some q=>some ([KeyOK P tk (C tk),ZeroIs P tv (C tv)],match ok with
         | true=>.tup [encV (C tv) (mget (C tk) (C tv) l q),.bool (.tm (mhas (C tk) (C tv) l q))]
         | false=>encV (C tv) (mget (C tk) (C tv) l q))
       | _,_=>none
     | _=>none
   | _,_,_=>none
 | .call c=>match c.callee with
   | .builtin .len=>match c.argTypes.toList,c.args.toList with
     | [t],[x]=>match P.underlying t,ev tm m al x with
       | some (.map _ _),some (.mp c)=>match (nth m c).sure with
         | .mp _ _ l _=>some ([],.int .i64 (l.length:Int))
         | _=>none
       | _,_=>none
     | _,_=>none
   | _=>none
 | .entry it=>match ev tm m al it with
   | some (.ptr ci 0 0)=>match (nth m ci).sure with
     | .it mc seen clk=>match (nth m mc).sure with
       | .mp tk tv l clk'=>some ([(nth m ci).base=0∧clk'=clk∧seen≠[]∧mhasS (C tk) (C tv) l (lastS seen)=true],
          .tup [encV (C tk) (mat (C tk) (C tv) (lastS seen) l).1,encV (C tv) (mat (C tk) (C tv) (lastS seen) l).2.1])
       | _=>none
     | _=>none
   | _=>none
 | .binOp op t x y _=>match ev tm m al x,ev tm m al y with
   | some (.agg az),some (.agg bs)=>match decV (C t) (.agg az),decV (C t) (.agg bs) with
     | some a,some b=>match op with
       | .eql=>some ([EqOK P t (C t)],.bool (.tm ((C t).beq a b)))
       | .neq=>some ([EqOK P t (C t)],.bool (.tm (!(C t).beq a b)))
       | _=>none
     | _,_=>none
   | _,_=>none
 | _=>none
def isInt:Option SV→Bool
 | some (.int _ _)=>true
 | _=>false
def mapE (P:Program) (tm:Tm) (m:List (Ck C)) (al:List (Nat×Bool)) (o:Op) (K:SV→List (Ck C)→Tr):Tr:=
 match o with
 | .makeMap t r=>match P.underlying t,(match r with | none=>true | some x=>isInt (ev tm m al x)),memLt m.length m && tmLt m.length tm with
   | some (.map kt vt),true,true=>.all fun b=>K (.mp m.length) (m ++ [⟨b,0,0,true,none,.mp kt vt [] 0⟩])
   | _,_,_=>.no
 | .mapUpdate t x k v=>match P.underlying t,ev tm m al x,ev tm m al k,ev tm m al v with
   | some (.map kt vt),some (.mp c),some kv,some vv=>match (nth m c).sure with
     | .mp tk tv l clk=>match (nth m c).wr && (zj kt tk && zj vt tv),decV (C tk) kv,decV (C tv) vv with
       | true,some q,some y=>.and (.lf (KeyOK P tk (C tk))) (K .undef (setCk m c (.mp tk tv (mput (C tk) (C tv) l q y clk) (mclk (C tk) (C tv) l q clk))))
       | _,_,_=>.no
     | _=>.no
   | _,_,_,_=>.no
 | .mapEntry t x k=>match P.underlying t,ev tm m al x,ev tm m al k with
   | some (.map kt vt),some (.mp c),some kv=>match (nth m c).sure with
     | .mp tk tv l clk=>match (nth m c).wr && (zj kt tk && zj vt tv),decV (C tk) kv with
       | true,some q=>.and (.lf (KeyOK P tk (C tk)∧ZeroIs P tv (C tv))) (K (.tup [encV (C tv) (mget (C tk) (C tv) l q),.int .i64 (mstamp (C tk) (C tv) l q clk:Int)])
          (setCk m c (.mp tk tv (mput (C tk) (C tv) l q (mget (C tk) (C tv) l q) clk) (mclk (C tk) (C tv) l q clk))))
       | _,_=>.no
     | _=>.no
   | _,_,_=>.no
 | .entryStore _ x s v=>match ev tm m al x,ev tm m al s,ev tm m al v with
   | some (.mp c),some (.int _ n),some vv=>match (nth m c).sure with
     | .mp tk tv l clk=>match (nth m c).wr,decV (C tv) vv with
       | true,some y=>.and (.lf (0≤n∧mhasS (C tk) (C tv) l n.toNat=true)) (K .undef (setCk m c (.mp tk tv (mset (C tk) (C tv) n.toNat y l) clk)))
       | _,_=>.no
     | _=>.no
   | _,_,_=>.no
 | .call c=>match c.callee with
   | .builtin .delete=>match c.argTypes.toList,c.args.toList with
     | [t,_],[x,k]=>match P.underlying t,ev tm m al x,ev tm m al k with
       | some (.map kt vt),some (.mp c),some kv=>match (nth m c).sure with
         | .mp tk tv l clk=>match (nth m c).wr && (zj kt tk && zj vt tv),decV (C tk) kv with
           | true,some q=>.and (.lf (KeyOK P tk (C tk))) (K (.tup []) (setCk m c (.mp tk tv (mdel (C tk) (C tv) l q) clk)))
           | _,_=>.no
         | _=>.no
       | _,_,_=>.no
     | _,_=>.no
   | _=>.no
 | .range t x=>match P.underlying t,ev tm m al x with
   | some (.map _ _),some (.mp c)=>match (nth m c).sure with
     | .mp _ _ _ clk=>match memLt m.length m && tmLt m.length tm && xz c m.length with
       | true=>.all fun b=>K (.ptr m.length 0 0) (m ++ [⟨b,0,0,true,none,.it c [] clk⟩])
       | false=>.no
     | _=>.no
   | _,_=>.no
 | .next it false=>match ev tm m al it with
   | some (.ptr ci 0 0)=>match (nth m ci).sure,(nth m ci).wr with
     | .it mc seen clk,true=>match (nth m mc).sure with
       | .mp tk tv l clk'=>.and (.lf ((nth m ci).base=0∧clk'=clk∧∀ e∈l,e.2.2<clk))
          (.and (.imp (∀ e∈l,e.2.2∈seen) (K (.tup [.bool .f]) m))
            (.all fun e:Ent' (C tk) (C tv)=>.imp (e∈l∧e.2.2∉seen) (K (.tup [.bool .t,encV (C tk) e.1,encV (C tv) e.2.1]) (setCk m ci (.it mc (seen ++ [e.2.2]) clk)))))
       | _=>.no
     | _,_=>.no
   | _=>.no
 | _=>.no
theorem mp_heap {S:Sx} {w0 w:World} {m:List (Ck C)} (hm:MemOK S w0 w m) {c tk tv:Nat} {l:List (Ent' (C tk) (C tv))} {clk:Nat} (hc:(nth m c).sure=.mp tk tv l clk):
 w.heap[(ads m c).block]? = some (.map (l.map (entryOf (C tk) (C tv))).toArray clk):=by
 obtain ⟨h1,h2⟩:=Ck.sure_ok hc (by simp)
 have:=hm.ok _ (nth_mem (lt_of_alive (show (nth m c).alive=true by simp [Ck.alive,h1]))) h2
 simp only [Ck.ok,h1] at this
 exact this
theorem mapQ_ok {P:Program} {S:Sx} {w0 w:World} {n:Nat} {tm:Tm} {m:List (Ck C)} {a:Act} (h:ActOK (ads m) n tm a) (hm:MemOK S w0 w m) {al:List (Nat×Bool)} (ha:AlOK tm al) {o:Oper} {ps:List Prop} {r:SV}
 (hl:mapQ P tm m al o.op=some (ps,r)) (hp:allOf ps):(execOp a.eval o).run P w=.ok (.value (r.va (ads m))) w:=by
 obtain ⟨dst,op,type,pos,after,guard⟩:=o
 simp only at hl
 cases op <;> simp only [mapQ] at hl <;> try contradiction
 case lookup t x k ok=>
  split at hl <;> try contradiction
  rename_i kt vt c kv ht hx hk
  split at hl <;> try contradiction
  rename_i tk tv l clk hc
  split at hl <;> try contradiction
  rename_i q hb hq
  simp only [Option.some.injEq,Prod.mk.injEq] at hl
  obtain ⟨rfl,rfl⟩:=hl
  obtain ⟨h1,h2,_⟩:=hp
  simp only [zn] at hb
  have e1:=zp hb.1
  have e2:=zp hb.2
  subst e1;subst e2
  have ex:=ev_ok h hm.glob ha _ _ hx
  have ek:=ev_ok h hm.glob ha _ _ hk
  have hr:=run_lookup ht h1 h2 (mp_heap hm hc) q ok
  rw [← decV_ok hq (ads m)] at ek
  cases ok <;> simp [execOp,ex,ek,SV.va,SV.vas,hr,encV_va,SB.val]
 case call c=>
  obtain ⟨callee,args,argTypes⟩:=c
  simp only at hl
  split at hl <;> try contradiction
  split at hl <;> try contradiction
  rename_i t x hts hxs
  split at hl <;> try contradiction
  rename_i kt vt c ht hx
  split at hl <;> try contradiction
  rename_i tk tv l clk hc
  simp only [Option.some.injEq,Prod.mk.injEq] at hl
  obtain ⟨rfl,rfl⟩:=hl
  have ex:=ev_ok h hm.glob ha _ _ hx
  have e1:args = #[x]:=by apply xm;simpa using hxs
  have e2:argTypes = #[t]:=by apply xm;simpa using hts
  subst e1;subst e2
  have hr:=run_maplen (ty:=type) ht (mp_heap hm hc)
  simp [execOp,resolve,invoke,builtin,ex,SV.va,hr]
 case entry it=>
  split at hl <;> try contradiction
  rename_i ci hit
  split at hl <;> try contradiction
  rename_i mc seen clk hic
  split at hl <;> try contradiction
  rename_i tk tv l clk' hmc
  simp only [Option.some.injEq,Prod.mk.injEq] at hl
  obtain ⟨rfl,rfl⟩:=hl
  obtain ⟨⟨hbase,hclk,hne,hs⟩,_⟩:=hp
  subst hclk
  have ei:=ev_ok h hm.glob ha _ _ hit
  obtain ⟨hicc,hion⟩:=Ck.sure_ok hic (by simp)
  have hri:=hm.ok _ (nth_mem (lt_of_alive (show (nth m ci).alive=true by simp [Ck.alive,hicc]))) hion
  simp only [Ck.ok,hicc] at hri
  have hr:=run_entry (P:=P) hri (mp_heap hm hmc) hne hs
  have ea:(ads m ci).at 0 0=⟨(nth m ci).block,0,none⟩:=by simp [ads,Ck.ad,Ad.at,hbase]
  simp [execOp,ei,SV.va,SV.vas,ea,hr,encV_va]
 case binOp bo t x y yt=>
  split at hl <;> try contradiction
  rename_i az bs hx hy
  split at hl <;> try contradiction
  rename_i p q hp1 hq1
  have ex:=ev_ok h hm.glob ha _ _ hx
  have ey:=ev_ok h hm.glob ha _ _ hy
  have e1:=decV_ok hp1 (ads m)
  have e2:=decV_ok hq1 (ads m)
  have key:EqOK P t (C t)→(Op.equal t ((SV.agg az).va (ads m)) ((SV.agg bs).va (ads m))).run P w=.ok ((C t).beq p q) w:=fun hk=>by rw [← e1,← e2];exact hk.eq p q w
  cases bo <;> simp only at hl <;> try contradiction
  · simp only [Option.some.injEq,Prod.mk.injEq] at hl
    obtain ⟨rfl,rfl⟩:=hl
    obtain ⟨hk,_⟩:=hp
    have h1:=key hk
    simp only [SV.va] at h1 ex ey
    simp [execOp,ex,ey,SV.va,run_eqGuard_agg w _ t x y _ _ hk.guard,binOp,h1,SB.val]
  · simp only [Option.some.injEq,Prod.mk.injEq] at hl
    obtain ⟨rfl,rfl⟩:=hl
    obtain ⟨hk,_⟩:=hp
    have h1:=key hk
    simp only [SV.va] at h1 ex ey
    simp [execOp,ex,ey,SV.va,run_eqGuard_agg w _ t x y _ _ hk.guard,binOp,h1,SB.val]
theorem MemOK.drawn {S:Sx} {w0 w:World} {m:List (Ck C)} (h:MemOK S w0 w m) (k:Nat):MemOK S w0 { w with drawn:=w.drawn+k } m:=by
 refine ⟨h.os,⟨h.tape.1,xk h.tape.2 (Nat.le_add_right _ _)⟩,h.output,h.size,h.keep,h.inS,fun c hc ho => ?_,h.wrok,h.apart,h.lt,h.more.mono h.inS (fun _ _ _=>rfl) (fun c hc hl=>.inl ⟨c,hc,hl,rfl,id⟩) h.size (zx _) (fun c hc=>CsIn.self hc)⟩
 exact Ck.ok_same (h.ok c hc ho) rfl
theorem MemOK.putO {S:Sx} {w0 w:World} {m:List (Ck C)} (h:MemOK S w0 w m) {c:Nat} (hw:(nth m c).wr=true) (hl:(nth m c).live=true) {o o':Obj} (hb:w.heap[(nth m c).block]? = some o)
 (ho:∀ (w:World) (a:Addr),w.heap[a.block]? = some o→w.frozen? a=false) (ho':∀ (w:World) (a:Addr),w.heap[a.block]? = some o'→w.frozen? a=false) (cs:Cells C) (hlive:({ nth m c with cells:=cs }:Ck C).live=true)
 (hok:Ck.ok (ads m) (w.putObj (nth m c).block o') { nth m c with cells:=cs }) (hd:CsIn m true cs):MemOK S w0 (w.putObj (nth m c).block o') (setCk m c cs):=by
 have hlt:=heap_size_of hb
 refine h.upd (w':=w.putObj (nth m c).block o') hw hl rfl ⟨rfl,zx _⟩ rfl (by simp [World.putObj]) (fun k hk=>World.putObj_heap_other hk) (fun a => ?_) cs hlive hok hd
 by_cases e:a.block=(nth m c).block
 · rw [ho' _ a (by rw [e];exact World.putObj_heap_same hlt),ho _ a (by rw [e];exact hb)]
 · exact World.frozen?_of_block (World.putObj_heap_other e)
theorem fz_map {es:Array MapEntry} {k:Nat} (w:World) (a:Addr) (h:w.heap[a.block]? = some (.map es k)):w.frozen? a=false:=by simp [World.frozen?,h]
theorem fz_iter {b:Option Nat} {i k:Nat} {s:Array Nat} (w:World) (a:Addr) (h:w.heap[a.block]? = some (.mapIter b i s k)):w.frozen? a=false:=by simp [World.frozen?,h]
theorem decV_flat {c:Codec} {v:SV} {x:c.α} (h:decV c v=some x):FlatAt c x:=by
 cases hd:c.deep with
 | false=>exact c.flat_deep hd x
 | true=>
   unfold decV at h
   split at h
   · rename_i vs _
     split at h
     · cases vs with
       | nil=>
         simp only [updParts,c.whole_deep hd,updParts',Option.some.injEq] at h
         rw [← h];exact c.dflt_deep
       | cons p ps=>
         rw [updParts_flat h (by simp)] at hd;cases hd
     · cases h
   · cases h
   · split at h
     · rw [c.upd_deep hd] at h;cases h
     · cases h
theorem mput_val {c d:Codec} {q:c.α} {x:d.α} {clk:Nat}:∀ {l:List (Ent' c d)} {e:Ent' c d},e∈mputGo c d q x clk l→e.2.1=x∨e∈l
 | [],e,h=>by
   rw [List.mem_singleton.1 h];exact .inl rfl
 | y :: r,e,h=>by
   simp only [mputGo] at h
   split at h
   · rcases List.mem_cons.1 h with rfl | h
     · exact .inl rfl
     · exact .inr (yv _ h)
   · rcases List.mem_cons.1 h with rfl | h
     · exact .inr (by simp)
     · rcases mput_val h with h | h
       · exact .inl h
       · exact .inr (yv _ h)
theorem mget_val (c d:Codec) (l:List (Ent' c d)) (q:c.α):(∃ e∈l,e.2.1=mget c d l q)∨mget c d l q=d.dflt:=by
 unfold mget
 cases h:mfix c d q l 0 with
 | none=>exact .inr rfl
 | some p=>
   obtain ⟨i,x⟩:=p
   obtain ⟨_,_,e,h3,_,h5⟩:=mfix_lt h
   exact .inl ⟨e,List.mem_of_getElem? h3,by simpa using h5⟩
theorem mset_val {c d:Codec} {s:Nat} {x:d.α}:∀ {l:List (Ent' c d)} {e:Ent' c d},e∈mset c d s x l→e.2.1=x∨e∈l
 | [],e,h=>by cases h
 | y :: r,e,h=>by
   simp only [mset] at h
   split at h
   · rcases List.mem_cons.1 h with rfl | h
     · exact .inl rfl
     · exact .inr (yv _ h)
   · rcases List.mem_cons.1 h with rfl | h
     · exact .inr (by simp)
     · rcases mset_val h with h | h
       · exact .inl h
       · exact .inr (yv _ h)
theorem mdel_sub {c d:Codec} {l:List (Ent' c d)} {q:c.α} {e:Ent' c d} (h:e∈mdel c d l q):e∈l:=by
 unfold mdel at h
 split at h
 · exact List.mem_of_mem_eraseIdx h
 · exact h
theorem OneOf.ent {m:List (Ck C)} {c tk tv:Nat} {l:List (Ent' (C tk) (C tv))} {clk:Nat} (hc:(nth m c).cells=.mp tk tv l clk) (hw:(nth m c).wr=true) {e:Ent' (C tk) (C tv)} (he:e∈l):OneOf m true tv e.2.1:=
 .inl ⟨_,nth_mem (lt_of_alive (show (nth m c).alive=true by simp [Ck.alive,hc])),.of_mp hc he,fun _ _=>hw⟩
theorem mapE_ok {P:Program} {S:Sx} {w0 w:World} {n:Nat} {tm:Tm} {m:List (Ck C)} {a:Act} (h:ActOK (ads m) n tm a) (hm:MemOK S w0 w m) {al:List (Nat×Bool)} (ha:AlOK tm al) {o:Oper}
 {K:SV→List (Ck C)→Tr} (hl:mapE P tm m al o.op K):Left P S w0 tm m w (execOp a.eval o) K:=by
 obtain ⟨dst,op,type,pos,after,guard⟩:=o
 simp only at hl
 cases op <;> simp only [mapE] at hl <;> try (first | contradiction | exact False.elim hl)
 case makeMap t r=>
  split at hl <;> try (first | contradiction | exact False.elim hl)
  rename_i kt vt ht hr hc
  simp only [zn] at hc
  have hrun:(execOp a.eval ⟨dst,.makeMap t r,type,pos,after,guard⟩).run P w=.ok (.value (.map (some w.heap.size))) (w.alloc (.map #[] 0)):=by
   cases r with
   | none=>simp [execOp,run_makeMap]
   | some x=>
     simp only at hr
     unfold isInt at hr
     split at hr
     · rename_i k i hx
       have ex:=ev_ok h hm.glob ha _ _ hx
       simp [execOp,ex,SV.va,run_makeMap' ht]
     · cases hr
  have hok:Ck.ok (ads (m ++ [(⟨w.heap.size,0,0,true,none,.mp kt vt [] 0⟩:Ck C)])) (w.alloc (.map #[] 0)) (⟨w.heap.size,0,0,true,none,.mp kt vt [] 0⟩:Ck C):=heap_alloc_at w _
  refine ⟨_,_,_,.inl ?_,hm.newO hc.1 (.map #[] 0) fz_map 0 _ hok (CsIn.mp fun e he=>by cases he),hl w.heap.size,ads_append _ _,by simp,.inr hc.2⟩
  have:ads (m ++ [(⟨w.heap.size,0,0,true,none,.mp kt vt [] 0⟩:Ck C)]) m.length=⟨w.heap.size,0,0,true⟩:=ads_append_new _ _
  rw [hrun];simp [SV.va,this]
 case mapUpdate t x k v=>
  split at hl <;> try (first | contradiction | exact False.elim hl)
  rename_i kt vt c kv vv ht hx hk hv
  split at hl <;> try (first | contradiction | exact False.elim hl)
  rename_i tk tv l clk hc
  split at hl <;> try (first | contradiction | exact False.elim hl)
  rename_i q y hb hq hy
  simp only [zn] at hb
  have e1:=zp hb.2.1
  have e2:=zp hb.2.2
  subst e1;subst e2
  obtain ⟨hK,hl⟩:=hl
  have ex:=ev_ok h hm.glob ha _ _ hx
  have ek:=ev_ok h hm.glob ha _ _ hk
  have ev':=ev_ok h hm.glob ha _ _ hv
  rw [← decV_ok hq (ads m)] at ek
  rw [← decV_ok hy (ads m)] at ev'
  obtain ⟨hcc,hon⟩:=Ck.sure_ok hc (by simp)
  have hlv:(nth m c).live=true:=by simp [Ck.live,Ck.alive,hcc,hon]
  have hbl:=mp_heap hm hc
  have hr:=run_mapPut ht hK hbl q y
  have hlt:=heap_size_of hbl
  refine ⟨_,_,.undef,.inr ⟨?_,rfl⟩,hm.putO hb.1 hlv hbl fz_map (o':=.map ((mput (C kt) (C vt) l q y clk).map (entryOf (C kt) (C vt))).toArray (mclk (C kt) (C vt) l q clk)) fz_map (.mp kt vt (mput (C kt) (C vt) l q y clk) (mclk (C kt) (C vt) l q clk)) (by simp [Ck.live,Ck.alive,Ck.on] at hon ⊢;exact hon) (by simp only [Ck.ok];exact World.putObj_heap_same hlt) (CsIn.mp fun e he=>by
   rcases mput_val he with he | he
   · rw [he];exact .inr (decV_flat hy)
   · exact OneOf.ent hcc hb.1 he),hl,fun k _=>by rw [ads_setCk],by rw [length_setCk];exact zx _,.inl ⟨length_setCk ..,ads_setCk ..⟩⟩
  simp [execOp,ex,ek,ev',SV.va,hr]
  rfl
 case mapEntry t x k=>
  split at hl <;> try (first | contradiction | exact False.elim hl)
  rename_i kt vt c kv ht hx hk
  split at hl <;> try (first | contradiction | exact False.elim hl)
  rename_i tk tv l clk hc
  split at hl <;> try (first | contradiction | exact False.elim hl)
  rename_i q hb hq
  simp only [zn] at hb
  have e1:=zp hb.2.1
  have e2:=zp hb.2.2
  subst e1;subst e2
  obtain ⟨⟨hK,hZ⟩,hl⟩:=hl
  have ex:=ev_ok h hm.glob ha _ _ hx
  have ek:=ev_ok h hm.glob ha _ _ hk
  rw [← decV_ok hq (ads m)] at ek
  obtain ⟨hcc,hon⟩:=Ck.sure_ok hc (by simp)
  have hlv:(nth m c).live=true:=by simp [Ck.live,Ck.alive,hcc,hon]
  have hbl:=mp_heap hm hc
  have hr:=run_mapEntry ht hK hZ hbl q
  have hlt:=heap_size_of hbl
  refine ⟨_,_,_,.inl ?_,hm.putO hb.1 hlv hbl fz_map (o':=.map ((mput (C kt) (C vt) l q (mget (C kt) (C vt) l q) clk).map (entryOf (C kt) (C vt))).toArray (mclk (C kt) (C vt) l q clk)) fz_map (.mp kt vt (mput (C kt) (C vt) l q (mget (C kt) (C vt) l q) clk) (mclk (C kt) (C vt) l q clk)) (by simp [Ck.live,Ck.alive,Ck.on] at hon ⊢;exact hon) (by simp only [Ck.ok];exact World.putObj_heap_same hlt) (CsIn.mp fun e he=>by
   rcases mput_val he with he | he
   · rw [he]
     rcases mget_val (C kt) (C vt) l q with ⟨e',he',h1⟩ | h1
     · rw [← h1];exact OneOf.ent hcc hb.1 he'
     · rw [h1];exact .inr (C vt).dflt_deep
   · exact OneOf.ent hcc hb.1 he),hl,fun k _=>by rw [ads_setCk],by rw [length_setCk];exact zx _,.inl ⟨length_setCk ..,ads_setCk ..⟩⟩
  simp [execOp,ex,ek,SV.va,SV.vas,hr,encV_va]
  rfl
 case entryStore t x s v=>
  split at hl <;> try (first | contradiction | exact False.elim hl)
  rename_i c k n vv hx hs hv
  split at hl <;> try (first | contradiction | exact False.elim hl)
  rename_i tk tv l clk hc
  split at hl <;> try (first | contradiction | exact False.elim hl)
  rename_i y hw hy
  obtain ⟨⟨hn,hst⟩,hl⟩:=hl
  have ex:=ev_ok h hm.glob ha _ _ hx
  have es:=ev_ok h hm.glob ha _ _ hs
  have ev':=ev_ok h hm.glob ha _ _ hv
  rw [← decV_ok hy (ads m)] at ev'
  obtain ⟨hcc,hon⟩:=Ck.sure_ok hc (by simp)
  have hlv:(nth m c).live=true:=by simp [Ck.live,Ck.alive,hcc,hon]
  have hbl:=mp_heap hm hc
  have hr:=run_entryStore (P:=P) (t:=t) hbl hn hst k y
  have hlt:=heap_size_of hbl
  refine ⟨_,_,.undef,.inr ⟨?_,rfl⟩,hm.putO hw hlv hbl fz_map (o':=.map ((mset (C tk) (C tv) n.toNat y l).map (entryOf (C tk) (C tv))).toArray clk) fz_map (.mp tk tv (mset (C tk) (C tv) n.toNat y l) clk) (by simp [Ck.live,Ck.alive,Ck.on] at hon ⊢;exact hon) (by simp only [Ck.ok];exact World.putObj_heap_same hlt) (CsIn.mp fun e he=>by
   rcases mset_val he with he | he
   · rw [he];exact .inr (decV_flat hy)
   · exact OneOf.ent hcc hw he),hl,fun k _=>by rw [ads_setCk],by rw [length_setCk];exact zx _,.inl ⟨length_setCk ..,ads_setCk ..⟩⟩
  simp [execOp,ex,es,ev',SV.va,hr]
  rfl
 case call c=>
  obtain ⟨callee,args,argTypes⟩:=c
  simp only at hl
  split at hl <;> try (first | contradiction | exact False.elim hl)
  split at hl <;> try (first | contradiction | exact False.elim hl)
  rename_i t t' x k hts hxs
  split at hl <;> try (first | contradiction | exact False.elim hl)
  rename_i kt vt c kv ht hx hk
  split at hl <;> try (first | contradiction | exact False.elim hl)
  rename_i tk tv l clk hc
  split at hl <;> try (first | contradiction | exact False.elim hl)
  rename_i q hb hq
  simp only [zn] at hb
  have e1:=zp hb.2.1
  have e2:=zp hb.2.2
  subst e1;subst e2
  obtain ⟨hK,hl⟩:=hl
  have ex:=ev_ok h hm.glob ha _ _ hx
  have ek:=ev_ok h hm.glob ha _ _ hk
  rw [← decV_ok hq (ads m)] at ek
  have e1:args = #[x,k]:=by apply xm;simpa using hxs
  have e2:argTypes = #[t,t']:=by apply xm;simpa using hts
  subst e1;subst e2
  obtain ⟨hcc,hon⟩:=Ck.sure_ok hc (by simp)
  have hlv:(nth m c).live=true:=by simp [Ck.live,Ck.alive,hcc,hon]
  have hbl:=mp_heap hm hc
  have hr:=run_mapDel (k:=t') (ty:=type) ht hK hbl q
  have hlt:=heap_size_of hbl
  refine ⟨_,_,.tup [],.inl ?_,hm.putO hb.1 hlv hbl fz_map (o':=.map ((mdel (C kt) (C vt) l q).map (entryOf (C kt) (C vt))).toArray clk) fz_map (.mp kt vt (mdel (C kt) (C vt) l q) clk) (by simp [Ck.live,Ck.alive,Ck.on] at hon ⊢;exact hon) (by simp only [Ck.ok];exact World.putObj_heap_same hlt) (CsIn.mp fun e he=>OneOf.ent hcc hb.1 (mdel_sub he)),hl,fun k _=>by rw [ads_setCk],by rw [length_setCk];exact zx _,.inl ⟨length_setCk ..,ads_setCk ..⟩⟩
  simp [execOp,resolve,invoke,builtin,ex,ek,SV.va,SV.vas,hr]
  rfl
 case range t x=>
  split at hl <;> try (first | contradiction | exact False.elim hl)
  rename_i kt vt c ht hx
  split at hl <;> try (first | contradiction | exact False.elim hl)
  rename_i tk tv l clk hc
  split at hl <;> try (first | contradiction | exact False.elim hl)
  rename_i hb
  simp only [zn] at hb
  have hcl:c<m.length:=by simpa using hb.2
  have ex:=ev_ok h hm.glob ha _ _ hx
  have hr:=run_range (P:=P) ht (mp_heap hm hc)
  have hok:Ck.ok (ads (m ++ [(⟨w.heap.size,0,0,true,none,.it c [] clk⟩:Ck C)])) (w.alloc (.mapIter (some (ads m c).block) clk #[] clk)) (⟨w.heap.size,0,0,true,none,.it c [] clk⟩:Ck C):=by
   show (w.alloc _).heap[w.heap.size]? = some (.mapIter (some (ads (m ++ [(⟨w.heap.size,0,0,true,none,.it c [] clk⟩:Ck C)]) c).block) clk #[] clk)
   rw [← ads_append m _ c hcl];exact heap_alloc_at w _
  refine ⟨_,_,_,.inl ?_,hm.newO hb.1.1 (.mapIter (some (ads m c).block) clk #[] clk) fz_iter 0 _ hok (CsIn.other (fun _ _ e=>by cases e) (fun _ _ _ _ e=>by cases e)),hl w.heap.size,ads_append _ _,by simp,.inr hb.1.2⟩
  have:ads (m ++ [(⟨w.heap.size,0,0,true,none,.it c [] clk⟩:Ck C)]) m.length=⟨w.heap.size,0,0,true⟩:=ads_append_new _ _
  simp [execOp,ex,SV.va,hr,this,Ad.at]
 case next it isS=>
  cases isS with
  | true=>exact False.elim hl
  | false=>
    simp only at hl
    split at hl <;> try (first | contradiction | exact False.elim hl)
    rename_i ci hit
    split at hl <;> try (first | contradiction | exact False.elim hl)
    rename_i mc seen clk hic hiw
    split at hl <;> try (first | contradiction | exact False.elim hl)
    rename_i tk tv l clk' hmc
    obtain ⟨⟨hbase,hclk,hold⟩,hdone,hmore⟩:=hl
    subst hclk
    have ei:=ev_ok h hm.glob ha _ _ hit
    obtain ⟨hicc,hon⟩:=Ck.sure_ok hic (by simp)
    have hlv:(nth m ci).live=true:=by simp [Ck.live,Ck.alive,hicc,hon]
    have hri:=hm.ok _ (nth_mem (lt_of_alive (Ck.live_iff.1 hlv).1)) hon
    simp only [Ck.ok,hicc] at hri
    obtain ⟨k,hk⟩:=run_next (P:=P) (ty:=type) hri (mp_heap hm hmc) hold
    have ea:(ads m ci).at 0 0=⟨(nth m ci).block,0,none⟩:=by simp [ads,Ck.ad,Ad.at,hbase]
    rcases hk with ⟨hall,hr⟩ | ⟨e,he,hne,hr⟩
    · refine ⟨_,m,_,.inl ?_,hm.drawn k,hdone hall,fun _ _=>rfl,zx _,.inl ⟨rfl,rfl⟩⟩
      simp [execOp,ei,SV.va,SV.vas,ea,hr,SB.val]
    · have hm':=hm.drawn k
      have hlt:=heap_size_of hri
      refine ⟨_,_,_,.inl ?_,hm'.putO hiw hlv hri fz_iter (o':=.mapIter (some (ads m mc).block) clk' (seen ++ [e.2.2]).toArray clk') fz_iter (.it mc (seen ++ [e.2.2]) clk') (by simp [Ck.live,Ck.alive,Ck.on] at hon ⊢;exact hon) (by simp only [Ck.ok];exact World.putObj_heap_same hlt) (CsIn.other (fun _ _ e=>by cases e) (fun _ _ _ _ e=>by cases e)),hmore e ⟨he,hne⟩,fun k _=>by rw [ads_setCk],by rw [length_setCk];exact zx _,.inl ⟨length_setCk ..,ads_setCk ..⟩⟩
      simp [execOp,ei,SV.va,SV.vas,ea,hr,SB.val,encV_va]
end Go.Vx
