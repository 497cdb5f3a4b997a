/-
  Round 10: is a number among these; slices.Sort of numbers.
  Round 10: binpoly's Mul.
  Round 10: the document's polynomials: Trim.
  Round 10: the document's polynomials: Times.
  Round 10: the document's leaders, az numbers that can be worked out: plain facts.
  Round 10: the document's FromRoots, cosets and leaders.
  Round 10: the document's bits of bytes: bit, Degree, bits, Of.
  Round 10: the document's BinMul, Minimal, Generator.
  Round 10: cosets, minimal polynomials, generators, az numbers that can be worked out: plain facts.
  Round 10: codes that can be worked out: their leaders, generators, roots.
  Round 10: the fields and codes of the statements, worked out by the kernel.
  Round 10: minimal.Coset.
  Round 10: minimal.leaders, Least.
  Conditions: none.
-/
import Derived.Test.YtfjogcklhibboaaGreatDoorM5
import Derived.Test.YtfjogcklhibboaaGreatDoorM6
import Derived.Shelf.SortM.SortNone
import Derived.Sort.EveryDepth
import Derived.KernelRfl
open Bool renaming and_eq_true → zn, false_ne_true → vf, not_eq_false' → ru, not_eq_true' → yp, or_eq_false_iff → xd, or_eq_true → xw
open Int renaming eq_ofNat_of_zero_le → yh, natCast_add → qo, ofNat_tdiv → ym, ofNat_tmod → zb, tmod_lt_of_pos → uv, toNat_natCast → zo
open List renaming all_eq_true → uw, any_eq_false → nr, any_eq_true → ph, drop_zero → zq, filter_cons_of_neg → rl, filter_cons_of_pos → rk, foldl_append → uo, getD → xg, getD_eq_getElem?_getD → zy, getElem?_eq_getElem → zt, getElem_mem → xi, length_append → zu, length_cons → xq, length_drop → vr, length_map → zm, length_replicate → ye, length_set → zg, length_take → zd, mem_of_mem_take → xu, mem_singleton → wj, nodup_nil → uu, pairwise_singleton → ri, range → xj, replicate → zw, take_length → xc, take_of_length_le → za
open Nat renaming add_zero → yx, beq → zj, ble → vz, blt_eq → uk, eq_of_beq_eq_true → zp, le_add_right → pc, le_of_ble_eq_true → xf, le_of_not_lt → ve, le_refl → zx, le_trans → xk, mod_lt → zc, not_lt_zero → wy, one_lt_two_pow → ui, succ_mul → nu, two_pow_pos → yd, zero_le → ze, zero_testBit → xa
open Option renaming getD_some → xy
set_option linter.unusedVariables false
set_option linter.unusedSimpArgs false
set_option linter.unusedSectionVars false
set_option maxRecDepth 100000
namespace Go.Proofs
open Go.Shelf
def Tryz.sortInts_ren:Go.Shelf.Ren:=⟨fun | 5=>122 | 7=>131 | 8=>132 | 10=>133 | 11=>134 | 12=>135 | 13=>136 | 14=>137 | 15=>138 | 16=>139 | 17=>140 | 18=>141 | 19=>142 | 20=>143 | 30=>144 | 31=>145 | 32=>146 | 33=>147 | 34=>148 | 35=>149 | 40=>150 | n=>n,fun | 0=>0 | 3=>3 | 4=>4 | 5=>5 | 9=>9 | 22=>33 | 23=>33 | 25=>3 | 32=>32 | 35=>172 | 36=>173 | 41=>177 | 44=>180 | 46=>182 | 53=>183 | 57=>187 | 63=>190 | 64=>191 | n=>n,fun | n=>n⟩
theorem Tryz.sortInts:Go.Proofs.SlLaysM.n5 Tryz.prog Tryz.sortInts_ren:={
 mixed:=by kernel_rfl
 f5:=⟨Tryz.f122.name,by decide,Tryz.func122.trans (congrArg some (by kernel_rfl))⟩
 f7:=⟨Tryz.f131.name,by decide,Tryz.func131.trans (congrArg some (by kernel_rfl))⟩
 f8:=Tryz.func132.trans (congrArg some (by kernel_rfl))
 f10:=⟨Tryz.f133.name,by decide,Tryz.func133.trans (congrArg some (by kernel_rfl))⟩
 f11:=⟨Tryz.f134.name,by decide,Tryz.func134.trans (congrArg some (by kernel_rfl))⟩
 f12:=⟨Tryz.f135.name,by decide,Tryz.func135.trans (congrArg some (by kernel_rfl))⟩
 f13:=⟨Tryz.f136.name,by decide,Tryz.func136.trans (congrArg some (by kernel_rfl))⟩
 f14:=⟨Tryz.f137.name,by decide,Tryz.func137.trans (congrArg some (by kernel_rfl))⟩
 f15:=⟨Tryz.f138.name,by decide,Tryz.func138.trans (congrArg some (by kernel_rfl))⟩
 f16:=⟨Tryz.f139.name,by decide,Tryz.func139.trans (congrArg some (by kernel_rfl))⟩
 f17:=⟨Tryz.f140.name,by decide,Tryz.func140.trans (congrArg some (by kernel_rfl))⟩
 f18:=⟨Tryz.f141.name,by decide,Tryz.func141.trans (congrArg some (by kernel_rfl))⟩
 f19:=Tryz.func142.trans (congrArg some (by kernel_rfl))
 f20:=Tryz.func143.trans (congrArg some (by kernel_rfl))
 f30:=⟨Tryz.f144.name,by decide,Tryz.func144.trans (congrArg some (by kernel_rfl))⟩
 f31:=Tryz.func145.trans (congrArg some (by kernel_rfl))
 f32:=Tryz.func146.trans (congrArg some (by kernel_rfl))
 f33:=⟨Tryz.f147.name,by decide,Tryz.func147.trans (congrArg some (by kernel_rfl))⟩
 f34:=⟨Tryz.f148.name,by decide,Tryz.func148.trans (congrArg some (by kernel_rfl))⟩
 f35:=⟨Tryz.f149.name,by decide,Tryz.func149.trans (congrArg some (by kernel_rfl))⟩
 f40:=⟨Tryz.f150.name,by decide,Tryz.func150.trans (congrArg some (by kernel_rfl))⟩
 t0:=Tryz.underlying0
 a0:=Tryz.isAgg0
 z0:=Tryz.sizeOf0
 v0:=Tryz.zeroValue0
 t3:=Tryz.underlying3
 a3:=Tryz.isAgg3
 z3:=Tryz.sizeOf3
 v3:=Tryz.zeroValue3
 t4:=Tryz.underlying4
 a4:=Tryz.isAgg4
 z4:=Tryz.sizeOf4
 v4:=Tryz.zeroValue4
 t5:=Tryz.underlying5
 a5:=Tryz.isAgg5
 z5:=Tryz.sizeOf5
 v5:=Tryz.zeroValue5
 t9:=Tryz.underlying9
 a9:=Tryz.isAgg9
 z9:=Tryz.sizeOf9
 v9:=Tryz.zeroValue9
 t22:=Tryz.underlying33
 a22:=Tryz.isAgg33
 z22:=Tryz.sizeOf33
 v22:=Tryz.zeroValue33
 t23:=Tryz.underlying33
 a23:=Tryz.isAgg33
 z23:=Tryz.sizeOf33
 v23:=Tryz.zeroValue33
 t25:=Tryz.underlying3
 a25:=Tryz.isAgg3
 z25:=Tryz.sizeOf3
 v25:=Tryz.zeroValue3
 t32:=Tryz.underlying32
 a32:=Tryz.isAgg32
 z32:=Tryz.sizeOf32
 v32:=Tryz.zeroValue32
 t35:=Tryz.underlying172
 a35:=Tryz.isAgg172
 z35:=Tryz.sizeOf172
 v35:=Tryz.zeroValue172
 t36:=Tryz.underlying173
 a36:=Tryz.isAgg173
 z36:=Tryz.sizeOf173
 v36:=Tryz.zeroValue173
 t41:=Tryz.underlying177
 a41:=Tryz.isAgg177
 z41:=Tryz.sizeOf177
 v41:=Tryz.zeroValue177
 t44:=Tryz.underlying180
 a44:=Tryz.isAgg180
 z44:=Tryz.sizeOf180
 v44:=Tryz.zeroValue180
 t46:=Tryz.underlying182
 a46:=Tryz.isAgg182
 z46:=Tryz.sizeOf182
 v46:=Tryz.zeroValue182
 t53:=Tryz.underlying183
 a53:=Tryz.isAgg183
 z53:=Tryz.sizeOf183
 v53:=Tryz.zeroValue183
 t57:=Tryz.underlying187
 a57:=Tryz.isAgg187
 z57:=Tryz.sizeOf187
 v57:=Tryz.zeroValue187
 t63:=Tryz.underlying190
 a63:=Tryz.isAgg190
 z63:=Tryz.sizeOf190
 v63:=Tryz.zeroValue190
 t64:=Tryz.underlying191
 a64:=Tryz.isAgg191
 z64:=Tryz.sizeOf191
 v64:=Tryz.zeroValue191
}
end Go.Proofs
namespace Go.Vx
open Go Go.Proofs Go.Shelf Go.Sort
variable [Gl]
theorem take_snoc {α:Type} {A:List α} {i:Nat} {d:α} (h:i<A.length):A.take (i+1)=A.take i ++ [A.getD i d]:=by
 rw [List.take_add_one]
 simp [xg,h]
theorem tk_len {α:Type} {l:List α} {n:Nat} (h:n≤l.length):(l.take n).length=n:=by
 rw [zd];omega
theorem tk_get {α:Type} {l:List α} {n i:Nat} {d:α} (h:i<n):(l.take n).getD i d=l.getD i d:=by
 simp only [zy,List.getElem?_take,if_pos h]
theorem getD_mem {α:Type} {l:List α} {i:Nat} {d:α} (h:i<l.length):l.getD i d∈l:=by
 rw [zy,zt h];exact xi h
@[irreducible] def ixF {α:Type} (f:α→Bool) (A:List α):Int:=if A.any f then (A.findIdx f:Nat) else -1
@[irreducible] def anyF {α:Type} (f:α→Bool) (A:List α):Bool:=A.any f
theorem anyF_iff {α:Type} {f:α→Bool} {A:List α}:anyF f A=true↔∃ x∈A,f x=true:=by unfold anyF;exact ph
theorem anyF_snoc {α:Type} {f:α→Bool} {A:List α} {i:Nat} {d:α} (h:i<A.length):anyF f (A.take (i+1))=(anyF f (A.take i) || f (A.getD i d)):=by
 unfold anyF
 rw [take_snoc (d:=d) h,List.any_append]
 simp
theorem anyF_zero {α:Type} {f:α→Bool} {A:List α}:anyF f (A.take 0)=false:=by unfold anyF;rfl
theorem ixF_no {α:Type} {f:α→Bool} {A:List α} (h:anyF f A=false):ixF f A = -1:=by
 unfold anyF at h
 unfold ixF
 rw [h];rfl
theorem ixF_at {α:Type} {f:α→Bool} {A:List α} {i:Nat} {d:α} (hi:i<A.length) (h:anyF f (A.take i)=false) (h2:f (A.getD i d)=true):ixF f A=(i:Nat):=by
 have e:A.getD i d=A[i]:=by rw [zy,zt hi,xy]
 rw [e] at h2
 unfold anyF at h
 rw [nr] at h
 unfold ixF
 rw [if_pos (List.any_eq_true.2 ⟨_,xi hi,h2⟩)]
 congr 1
 rw [List.findIdx_eq hi]
 refine ⟨h2,fun j hj => ?_⟩
 have:=h A[j] (by rw [List.mem_take_iff_getElem];exact ⟨j,by omega,rfl⟩)
 simpa using this
theorem ixF_ge {α:Type} {f:α→Bool} {A:List α}:decide (ixF f A ≥ 0)=anyF f A:=by
 unfold ixF anyF
 cases h:A.any f
 · simp
 · simp
def Ix {α:Type} (f:α→Bool) (A:List α):Inv' C0:=⟨2,Nat,fun i=>[(8,.int .i64 (i:Int))],fun _ m=>m,fun i=>i≤A.length∧anyF f (A.take i)=false,fun i=>A.length - i⟩
def eqI (x:Int) (y:Int):Bool:=decide (x=y)
theorem index_ok (o:Bool) (b q:Nat) (l:List Int) (n c:Nat) (x:Int) (h:n≤l.length) (hn:n<4611686018427387904) (ho:o=false→n=0∧c=0):
 Tells (C:=C0) Tryz.prog (.fn 123) [⟨b,q,1,false,some o,.rows 3 l⟩] [.sl 0 0 n c,.int .i64 x] (.int .i64 (ixF (eqI x) (l.take n))):=by
 have hL:=tk_len h
 refine loc_pc (P:=Tryz.prog) (E:=⟨[],[],19,[],[],[],none⟩) (L:=[Ix (eqI x) (l.take n)]) mix Tryz.func123 rfl (by kernel_rfl) (by kernel_rfl) rfl rfl ?_
 ((conv=>arg 1;reduce);with_reducible repeat' first | exact ty | refine ta ?_ ?_ | refine ti fun _ => ?_ | refine tf fun _ => ?_ | refine tl ?_)
 all_goals try (first | exact vlf | ((try dsimp only [Ix] at *);exact vau) | (refine on_of ho ?_;((try dsimp only [Ix] at *);exact vau)))
 · refine Stands.one (0:Nat) ⟨⟨ze _,anyF_zero⟩,?_⟩
   exact vgo
 · rename_i v hv h1 h2
   change Nat at v
   obtain ⟨e1,e2⟩:=hv
   have h1:v<n:=by have:=ng h1;omega
   refine (ixF_at (d:=0) (by rw [hL];exact h1) e2 ?_).symm
   rw [tk_get h1]
   exact h2
 · rename_i v hv h1 h2
   change Nat at v
   obtain ⟨e1,e2⟩:=hv
   have h1:v<n:=by have:=ng h1;omega
   refine Stands.one (v+1:Nat) ⟨⟨by rw [hL];exact h1,?_⟩,?_,?_⟩
   · show anyF _ ((l.take n).take (v+1))=false
     rw [anyF_snoc (d:=0) (by rw [hL];exact h1),e2,tk_get h1]
     exact h2
   · show (l.take n).length - (v+1)<(l.take n).length - v
     rw [hL];omega
   exact vgo
 · rename_i v hv h1
   change Nat at v
   obtain ⟨e1,e2⟩:=hv
   have h1:¬ v<n:=by have:=nf h1;omega
   rw [za (by rw [hL];omega)] at e2
   exact (ixF_no e2).symm
def pcIndex:Pc Tryz.prog C0 where
 tg:=.fn 123
 X:=Bool×Nat×Nat×List Int×Nat×Nat×Int
 args:=fun (o,b,q,l,n,c,x)=>[.sl 0 0 n c,.int .i64 x]
 mem:=fun (o,b,q,l,n,c,x)=>[⟨b,q,1,false,some o,.rows 3 l⟩]
 pre:=fun (o,b,q,l,n,c,x)=>n≤l.length∧n<4611686018427387904∧(o=false→n=0∧c=0)
 res:=fun (o,b,q,l,n,c,x)=>.int .i64 (ixF (eqI x) (l.take n))
 mat vs m:=match vs with
  | [.sl a 0 n c,.int _ x]=>match nth m a with
    | ⟨b,q,_,_,g,.rows 3 l⟩=>some ((onOf g,b,q,l,n,c,x),[a])
    | _=>none
  | [.nils,.int _ x]=>some ((false,0,0,[],0,0,x),[m.length])
  | _=>none
 ok:=fun (o,b,q,l,n,c,x) h=>index_ok o b q l n c x h.1 h.2.1 h.2.2
theorem contains_ok (o:Bool) (b q:Nat) (l:List Int) (n c:Nat) (x:Int) (h:n≤l.length) (hn:n<4611686018427387904) (ho:o=false→n=0∧c=0):
 Tells (C:=C0) Tryz.prog (.fn 99) [⟨b,q,1,false,some o,.rows 3 l⟩] [.sl 0 0 n c,.int .i64 x] (.bool (.tm (anyF (eqI x) (l.take n)))):=by
 refine loc_pc (P:=Tryz.prog) (E:=⟨[],[pcIndex],9,[],[],[],none⟩) (L:=[]) mix Tryz.func99 rfl (by kernel_rfl) (by kernel_rfl) rfl rfl ?_
 ((conv=>arg 1;reduce);with_reducible repeat' first | exact ty | refine ta ?_ ?_ | refine ti fun _ => ?_ | refine tf fun _ => ?_ | refine tl ?_)
 all_goals try exact vlf
 · exact ⟨h,hn,ho⟩
 · exact ixF_ge
def pcContains:Pc Tryz.prog C0 where
 tg:=.fn 99
 X:=Bool×Nat×Nat×List Int×Nat×Nat×Int
 args:=fun (o,b,q,l,n,c,x)=>[.sl 0 0 n c,.int .i64 x]
 mem:=fun (o,b,q,l,n,c,x)=>[⟨b,q,1,false,some o,.rows 3 l⟩]
 pre:=fun (o,b,q,l,n,c,x)=>n≤l.length∧n<4611686018427387904∧(o=false→n=0∧c=0)
 res:=fun (o,b,q,l,n,c,x)=>.bool (.tm (anyF (eqI x) (l.take n)))
 mat vs m:=match vs with
  | [.sl a 0 n c,.int _ x]=>match nth m a with
    | ⟨b,q,_,_,g,.rows 3 l⟩=>some ((onOf g,b,q,l,n,c,x),[a])
    | _=>none
  | [.nils,.int _ x]=>some ((false,0,0,[],0,0,x),[m.length])
  | _=>none
 ok:=fun (o,b,q,l,n,c,x) h=>contains_ok o b q l n c x h.1 h.2.1 h.2.2
@[irreducible] def srt (l:List Int):List Int:=l.mergeSort fun x y=>decide (x≤y)
theorem srt_perm (l:List Int):(srt l).Perm l:=by unfold srt;exact List.mergeSort_perm _ _
theorem srt_len (l:List Int):(srt l).length=l.length:=(srt_perm l).length_eq
theorem srt_nil:srt []=[]:=by unfold srt;simp
theorem srt_le (l:List Int):(srt l).Pairwise (· ≤ ·):=by
 unfold srt
 have:=List.pairwise_mergeSort (le:=fun x y:Int=>decide (x≤y)) (fun a b c h1 h2=>by simp at *;omega) (fun a b=>by simp;omega) l
 exact this.imp fun h=>by simpa using h
theorem sortOn_ok (b q:Nat) (l:List Int) (n c:Nat) (hn:n≤l.length) (hbig:n<4611686018427387904):
 Does (C:=C0) Tryz.prog (.fn 122) [⟨b,q,1,true,some true,.rows 3 l⟩] [.sl 0 0 n c]
  [⟨Unit,fun _=>True,fun _=>.tup [],fun _=>[⟨b,q,1,true,some true,.rows 3 (srt (l.take n) ++ l.drop n)⟩]⟩]:=by
 intro w hm
 have hN:(l.take n).length=n:=tk_len hn
 have hrow:=hm.ok _ (List.mem_singleton.2 rfl) rfl
 simp only [Ck.ok] at hrow
 obtain ⟨_,hrow⟩:=hrow
 have hblk:b<w.heap.size:=hm.lt _ (List.mem_singleton.2 rfl) rfl
 have hfr:∀ a:Addr,a.block=b→w.frozen? a=false:=hm.wrok _ (List.mem_singleton.2 rfl) rfl rfl
 have hcell:∀ i,i<l.length→w.cell? ⟨b,q+i,none⟩=some (.int .i64 (l.getD i 0)):=by
  intro i hi
  have:=hrow i hi 0 Nat.zero_lt_one
  have e:(Ck.ad ({ block:=b,base:=q,sz:=1,wr:=true,gl:=some true,cells:=.rows 3 l }:Ck C0)).at i 0=⟨b,q+i,none⟩:=by simp [Ck.ad,Ad.at]
  rw [e] at this
  rw [this];rfl
 have hH:Go.Sort.Holds (Value.int .i64) w b q (l.take n).toArray:=by
  intro j hj
  have hj:j<n:=by rw [List.size_toArray,hN] at hj;exact hj
  refine ⟨?_,hfr _ rfl⟩
  rw [hcell j (by omega),getElem!_pos _ j (by simpa [hN] using hj)]
  simp [xg,zt (show j<l.length by omega)]
 have hcon:Calls Tryz.prog 122 #[.slice (some ⟨b,q,none⟩) n c] w fun e w'=>e=.returned (.tuple #[])∧∃ k os,w'=grow (putRow (Value.int .i64) (Sort.ahead w k) b q ((l.take n).mergeSort fun x y=>decide (x≤y)).toArray) os:=by
  have h0:=calls_of_every_depth fun D=>AnySM.slices_Sort_int_in (P:=Tryz.prog) Tryz.sortInts D b q c (l.take n) w hH hblk (by rw [hN];exact hbig)
  rw [hN] at h0
  exact h0
 have e0:(SV.vas (ads ([⟨b,q,1,true,some true,.rows 3 l⟩]:List (Ck C0))) [.sl 0 0 n c]).toArray = #[.slice (some ⟨b,q,none⟩) n c]:=by
  simp [SV.vas,SV.va,ads,nth,Ck.ad,Ck.on,Ad.at]
 rw [e0]
 refine ⟨_,_,run_callFunc Tryz.func122 rfl (by kernel_rfl) _ w,hcon.mono ?_⟩
 rintro e w' ⟨rfl,k,os,rfl⟩
 have hs:((l.take n).mergeSort fun x y=>decide (x≤y))=srt (l.take n):=by unfold srt;rfl
 rw [hs]
 have hL:(srt (l.take n)).length=n:=by rw [srt_len,hN]
 have hsz0:(putRow (Value.int .i64) (Sort.ahead w k) b q (srt (l.take n)).toArray).heap.size=w.heap.size:=by rw [Go.Sort.size_putRow];rfl
 have hHa:Go.Sort.Holds (Value.int .i64) (Sort.ahead w k) b q (l.take n).toArray:=hH
 have hin:∀ j,j<n→(grow (putRow (Value.int .i64) (Sort.ahead w k) b q (srt (l.take n)).toArray) os).cell? ⟨b,q+j,none⟩=some (.int .i64 ((srt (l.take n)).getD j 0)):=by
  intro j hj
  rw [cell?_grow _ _ _ (by rw [hsz0];exact hblk)]
  have h2:=holds_putRow (Value.int .i64) (Sort.ahead w k) b q (l.take n).toArray (srt (l.take n)).toArray hHa (by simp [hL,hN])
  rw [(h2 j (by simp [hL];exact hj)).1,getElem!_pos _ j (by simp [hL];exact hj)]
  simp [xg,zt (show j<(srt (l.take n)).length by omega)]
 have hother:∀ a:Addr,a.block<w.heap.size→(a.block≠b∨a.off<q∨q+n≤a.off)→(grow (putRow (Value.int .i64) (Sort.ahead w k) b q (srt (l.take n)).toArray) os).cell? a=w.cell? a:=by
  intro a ha hoff
  rw [cell?_grow _ _ _ (by rw [hsz0];exact ha),cell?_putRow_other _ _ _ _ _ _ (by simpa [hL] using hoff)]
  rfl
 have hheap:∀ j,j<w.heap.size→j≠b→(grow (putRow (Value.int .i64) (Sort.ahead w k) b q (srt (l.take n)).toArray) os).heap[j]? = w.heap[j]? := by
  intro j hj hjb
  rw [heap_grow_old _ _ (by rw [hsz0];exact hj)]
  unfold putRow mapBlock
  simp only [Array.getElem?_modify]
  rw [if_neg (Ne.symm hjb)]
  rfl
 have hsize:w.heap.size≤(grow (putRow (Value.int .i64) (Sort.ahead w k) b q (srt (l.take n)).toArray) os).heap.size:=by rw [size_grow,hsz0];omega
 refine ⟨.tup [],[⟨b,q,1,true,some true,.rows 3 (srt (l.take n) ++ l.drop n)⟩],by simp [SV.va,SV.vas],?_,?_,?_⟩
 · refine ⟨rfl,⟨rfl,pc _ _⟩,rfl,hsize,?_,?_,?_,?_,?_,?_,?_⟩
   · intro j hj hS
     refine hheap j hj fun hjb=>hS ⟨_,List.mem_singleton.2 rfl,rfl,rfl,hjb.symm⟩
   · intro c' hc' _ _ _
     exact ⟨_,List.mem_singleton.2 rfl,rfl,rfl,by rw [List.mem_singleton.1 hc']⟩
   · intro c' hc' _
     rw [List.mem_singleton.1 hc']
     refine ⟨rfl,fun i hi f hf => ?_⟩
     have hf0:f=0:=by
      have:f<1:=hf
      omega
     subst hf0
     have hlen:(srt (l.take n) ++ l.drop n).length=l.length:=by rw [zu,hL,vr];omega
     have e:(Ck.ad ({ block:=b,base:=q,sz:=1,wr:=true,gl:=some true,cells:=.rows 3 (srt (l.take n) ++ l.drop n) }:Ck C0)).at i 0=⟨b,q+i,none⟩:=by simp [Ck.ad,Ad.at]
     rw [e]
     show _=some (Value.int .i64 ((srt (l.take n) ++ l.drop n).getD i 0))
     by_cases hi':i<n
     · rw [hin i hi']
       congr 2
       rw [zy,zy,List.getElem?_append_left (by omega)]
     · rw [hother _ hblk (.inr (.inr (by show q+n≤q+i;omega))),hcell i (by omega)]
       congr 2
       rw [zy,zy,List.getElem?_append_right (by omega),hL,List.getElem?_drop,show n+(i - n)=i by omega]
   · intro c' hc' _ _ a ha
     rw [List.mem_singleton.1 hc'] at ha
     rw [frozen?_grow _ _ _ (by rw [hsz0,ha];exact hblk),frozen?_putRow]
     exact hfr a ha
   · intro i j hi hj hij
     simp at hi hj;omega
   · intro c' hc' _
     rw [List.mem_singleton.1 hc']
     exact Nat.lt_of_lt_of_le hblk hsize
   · refine hm.more.mono hm.inS ?_ ?_ (zx _) hsize ?_
     · intro j hj hno
       exact hheap j hj fun hjb=>hno _ (List.mem_singleton.2 rfl) rfl rfl hjb.symm
     · intro c' hc' hl'
       rw [List.mem_singleton.1 hc']
       exact .inl ⟨_,List.mem_singleton.2 rfl,rfl,rfl,id⟩
     · intro c' hc'
       rw [List.mem_singleton.1 hc']
       exact CsIn.rows (RowsOf.flat rfl _)
 · refine ⟨zx _,?_,?_⟩
   · intro k hk
     have:k=0:=by simp at hk;omega
     subst this
     exact ⟨rfl,rfl,rfl,rfl,rfl⟩
   · intro k h0 h2
     simp at h0 h2;omega
 · exact Ends.one () trivial ⟨rfl,rfl⟩
theorem sortOff_ok (b q:Nat) (l:List Int):Does (C:=C0) Tryz.prog (.fn 122) [⟨b,q,1,true,some false,.rows 3 l⟩] [.sl 0 0 0 0]
 [⟨Unit,fun _=>True,fun _=>.tup [],fun _=>[⟨b,q,1,true,some false,.rows 3 l⟩]⟩]:=by
 intro w hm
 have hcon:Calls Tryz.prog 122 #[.slice none 0 0] w fun e w'=>e=.returned (.tuple #[])∧w'=w:=calls_of_every_depth fun D=>AnySM.slices_Sort_int_none_in (P:=Tryz.prog) Tryz.sortInts D none 0 w
 have e0:(SV.vas (ads ([⟨b,q,1,true,some false,.rows 3 l⟩]:List (Ck C0))) [.sl 0 0 0 0]).toArray = #[.slice none 0 0]:=by
  simp [SV.vas,SV.va,ads,nth,Ck.ad,Ck.on,Ad.at]
 rw [e0]
 refine ⟨_,_,run_callFunc Tryz.func122 rfl (by kernel_rfl) _ w,hcon.mono ?_⟩
 rintro e w' ⟨rfl,rfl⟩
 refine ⟨.tup [],_,by simp [SV.va,SV.vas],hm,⟨zx _,fun k hk => ?_,fun k h0 h2 => ?_⟩,Ends.one () trivial ⟨rfl,rfl⟩⟩
 · exact ⟨rfl,rfl,rfl,rfl,rfl⟩
 · simp at h0 h2;omega
theorem sort_ok (o:Bool) (b q:Nat) (l:List Int) (n c:Nat) (hn:n≤l.length) (hbig:n<4611686018427387904) (ho:o=false→n=0∧c=0):
 Does (C:=C0) Tryz.prog (.fn 122) [⟨b,q,1,true,some o,.rows 3 l⟩] [.sl 0 0 n c]
  [⟨Unit,fun _=>True,fun _=>.tup [],fun _=>[⟨b,q,1,true,some o,.rows 3 (srt (l.take n) ++ l.drop n)⟩]⟩]:=by
 cases o with
 | true=>exact sortOn_ok b q l n c hn hbig
 | false=>
   obtain ⟨rfl,rfl⟩:=ho rfl
   have e:srt (l.take 0) ++ l.drop 0=l:=by rw [List.take_zero,srt_nil];simp
   rw [e]
   exact sortOff_ok b q l
noncomputable def fcSort:Fc Tryz.prog C0 where
 tg:=.fn 122
 X:=Bool×Nat×Nat×List Int×Nat×Nat
 args:=fun (o,b,q,l,n,c)=>[.sl 0 0 n c]
 mem:=fun (o,b,q,l,n,c)=>[⟨b,q,1,true,some o,.rows 3 l⟩]
 pre:=fun (o,b,q,l,n,c)=>n≤l.length∧n<4611686018427387904∧(o=false→n=0∧c=0)
 alts:=fun (o,b,q,l,n,c)=>[⟨Unit,fun _=>True,fun _=>.tup [],fun _=>[⟨b,q,1,true,some o,.rows 3 (srt (l.take n) ++ l.drop n)⟩]⟩]
 mat vs m:=match vs with
  | [.sl a 0 n c]=>match nth m a with
    | ⟨b,q,_,_,g,.rows 3 l⟩=>some ((onOf g,b,q,l,n,c),[a])
    | _=>none
  | _=>none
 ok:=fun (o,b,q,l,n,c) h=>sort_ok o b q l n c h.1 h.2.1 h.2.2
end Go.Vx
namespace Go.Vx
open Go Go.Proofs
noncomputable section
variable [Gl]
theorem sb1 {N:Nat} {y:Os} (h:Ow (nb N) y) (hn:(nb N).length<100000000):Sb.pre (y.1,y.2.1,0,y.2.2.1,0,(nb N).length,y.2.2.2):=
 ⟨by have:=h.cap;have:=h.len;show 0+_≤_;omega,h.cap,hn,h.nil,by show Byt8 ((y.2.2.1.drop 0).take _);rw [zq,h.eq];exact nb_byt _⟩
theorem Oqw.at {L:List Int} {y:Oq} (h:Oqw L y) {i:Nat} (hi:i<L.length):y.2.2.2.1.getD i 0=L.getD i 0:=by
 have e:=h.eq
 have:(y.2.2.2.1.take L.length).getD i 0=L.getD i 0:=by rw [e]
 rw [← this]
 simp only [zy,List.getElem?_take_of_lt hi]
def Pm8 (A B K:Nat):Inv' C0:=⟨8,Nat,fun j=>[(38,.int .i64 (j:Int))],fun j m=>match m with
 | [a,b,c,d,t,e]=>[a,b,c,d,⟨t.block,t.base,1,true,none,.rows 5 (byT K (clF B ((exL A).take j)))⟩,e]
 | m=>m,fun j=>j≤(exL A).length,fun j=>(exL A).length - j⟩
set_option maxHeartbeats 4000000 in
theorem pmul_ok (o:Bool) (b q:Nat) (l:List Int) (i n c:Nat) (o2:Bool) (b2 q2:Nat) (l2:List Int) (i2 n2 c2:Nat) (hp:Sb.pre (o,b,q,l,i,n,c)) (hq:Sb.pre (o2,b2,q2,l2,i2,n2,c2))
 (A B:Nat) (hA:byN ((l.drop i).take n)=A) (hB:byN ((l2.drop i2).take n2)=B) (a0:A≠0) (b0:B≠0) (hd:bl A+bl B≤4098):
 Does (C:=C0) Tryz.prog (.fn 80) [⟨b,q,1,false,some o,.rows 5 l⟩,⟨b2,q2,1,false,some o2,.rows 5 l2⟩] [.sl 0 i n c,.sl 1 i2 n2 c2]
  [⟨Os,fun y=>Ow (nb (clm A B)) y,fun y=>.tup [.sl 2 0 (nb (clm A B)).length y.2.2.2,.nili],fun y=>[⟨b,q,1,false,some o,.rows 5 l⟩,⟨b2,q2,1,false,some o2,.rows 5 l2⟩,osB true y]⟩]:=by
 have pA:=bl_pos a0
 have pB:=bl_pos b0
 have nA:nl A=(bl A+7) / 8:=rfl
 have hby:(Tryz.prog.types[5].bytes:Int)=1:=by kernel_rfl
 have nB:nl B=(bl B+7) / 8:=rfl
 refine loc_fn (P:=Tryz.prog) (E:=⟨[fcTrm,fcExps,fcInto],[pcDeg],49,[],[],[],none⟩) (L:=[Pm8 A B (nl A+nl B+1)]) mix Tryz.func80 rfl (by kernel_rfl) (by kernel_rfl) rfl rfl ?_
 ((conv=>arg 1;reduce);with_reducible repeat' first | exact ty | refine ta ?_ ?_ | refine ti fun _ => ?_ | refine tf fun _ => ?_ | refine tl ?_)
 all_goals try exact vlf
 · exact hp
 · exact hq
 · exfalso
   rename_i y1 hy1 y2 hy2 d0
   simp only [hA,hB,nb_len,xw,decide_eq_true_eq,SB.val] at d0
   omega
 all_goals try (
  rename_i y1 hy1 y2 hy2 d0
  have hy1:Ow (nb A) y1:=hA ▸ hy1
  have hy2:Ow (nb B) y2:=hB ▸ hy2
  have t1:((y1.2.2.1.drop 0).take (nb A).length)=nb A:=hy1.eq
  have t2:((y2.2.2.1.drop 0).take (nb B).length)=nb B:=hy2.eq
  have p1:Sb.pre (y1.1,y1.2.1,0,y1.2.2.1,0,(nb A).length,y1.2.2.2):=sb1 hy1 (by rw [nb_len];omega)
  have p2:Sb.pre (y2.1,y2.2.1,0,y2.2.2.1,0,(nb B).length,y2.2.2.2):=sb1 hy2 (by rw [nb_len];omega)
  have ek:((nb A).length:Int)+((nb B).length:Int)+1=((nl A+nl B+1:Nat):Int):=by rw [nb_len,nb_len];omega
  clear d0
  first
  | (simp only [hA];exact p1)
  | (simp only [hB];exact p2)
  | (simp only [hA,hB,t1,t2,byN_nb];exact inR64 (n:=(bl A:Int) - 1) (by omega) (by omega))
  | (simp only [hA,hB,t1,t2,byN_nb];exact inR64 (n:=(bl A:Int) - 1+((bl B:Int) - 1)) (by omega) (by omega)))
 · exfalso
   rename_i y1 hy1 y2 hy2 d0 d1
   have hy1:Ow (nb A) y1:=hA ▸ hy1
   have hy2:Ow (nb B) y2:=hB ▸ hy2
   have t1:((y1.2.2.1.drop 0).take (nb A).length)=nb A:=hy1.eq
   have t2:((y2.2.2.1.drop 0).take (nb B).length)=nb B:=hy2.eq
   simp only [hA,hB,t1,t2,byN_nb,decide_eq_true_eq] at d1
   omega
 all_goals try (
  rename_i y1 hy1 y2 hy2 d0 d1
  have hy1:Ow (nb A) y1:=hA ▸ hy1
  have hy2:Ow (nb B) y2:=hB ▸ hy2
  have t1:((y1.2.2.1.drop 0).take (nb A).length)=nb A:=hy1.eq
  have t2:((y2.2.2.1.drop 0).take (nb B).length)=nb B:=hy2.eq
  have p1:Sb.pre (y1.1,y1.2.1,0,y1.2.2.1,0,(nb A).length,y1.2.2.2):=sb1 hy1 (by rw [nb_len];omega)
  have p2:Sb.pre (y2.1,y2.2.1,0,y2.2.2.1,0,(nb B).length,y2.2.2.2):=sb1 hy2 (by rw [nb_len];omega)
  have ek:((nb A).length:Int)+((nb B).length:Int)+1=((nl A+nl B+1:Nat):Int):=by rw [nb_len,nb_len];omega
  clear d0 d1
  first
  | (simp only [hA,hB,nb_len];exact inR64 (n:=(nl A:Int)+(nl B:Int)) (by omega) (by omega))
  | (simp only [hA,hB,nb_len];exact inR64 (n:=(nl A:Int)+(nl B:Int)+1) (by omega) (by omega))
  | (simp only [hA,hB,nb_len];rw [hby];omega))
 · rename_i y1 hy1 y2 hy2 d0 d1 b
   have hy1:Ow (nb A) y1:=hA ▸ hy1
   simp only [hA]
   exact sb1 hy1 (by rw [nb_len];omega)
 · rename_i y1 hy1 y2 hy2 d0 d1 b yE hyE
   have hy1:Ow (nb A) y1:=hA ▸ hy1
   have hy2:Ow (nb B) y2:=hB ▸ hy2
   have t1:((y1.2.2.1.drop 0).take (nb A).length)=nb A:=hy1.eq
   have t2:((y2.2.2.1.drop 0).take (nb B).length)=nb B:=hy2.eq
   have p1:Sb.pre (y1.1,y1.2.1,0,y1.2.2.1,0,(nb A).length,y1.2.2.2):=sb1 hy1 (by rw [nb_len];omega)
   have p2:Sb.pre (y2.1,y2.2.1,0,y2.2.2.1,0,(nb B).length,y2.2.2.2):=sb1 hy2 (by rw [nb_len];omega)
   have ek:((nb A).length:Int)+((nb B).length:Int)+1=((nl A+nl B+1:Nat):Int):=by rw [nb_len,nb_len];omega
   simp only [hA,t1,byN_nb] at hyE
   have hyE:Oqw (exL A) yE:=hyE
   refine Stands.one (0:Nat) ⟨ze _,?_⟩
   ((conv=>arg 1;reduce);with_reducible repeat' first | exact ty | refine ta ?_ ?_ | refine ti fun _ => ?_ | refine tf fun _ => ?_ | refine tl ?_)
   all_goals first
    | exact vlf
    | (show byT (nl A+nl B+1) (clF B ((exL A).take 0))=zw _ (0:Int);simp only [hA,hB];rw [ek,zo];exact byT_zero _)
    | (simp only [hA,hB,t1,byN_nb])
 all_goals try (
  rename_i y1 hy1 y2 hy2 d0 d1 b yE hyE j hj d2
  have hy1:Ow (nb A) y1:=hA ▸ hy1
  have hy2:Ow (nb B) y2:=hB ▸ hy2
  have t1:((y1.2.2.1.drop 0).take (nb A).length)=nb A:=hy1.eq
  have t2:((y2.2.2.1.drop 0).take (nb B).length)=nb B:=hy2.eq
  have p1:Sb.pre (y1.1,y1.2.1,0,y1.2.2.1,0,(nb A).length,y1.2.2.2):=sb1 hy1 (by rw [nb_len];omega)
  have p2:Sb.pre (y2.1,y2.2.1,0,y2.2.2.1,0,(nb B).length,y2.2.2.2):=sb1 hy2 (by rw [nb_len];omega)
  have ek:((nb A).length:Int)+((nb B).length:Int)+1=((nl A+nl B+1:Nat):Int):=by rw [nb_len,nb_len];omega
  change Nat at j
  have hj:j≤(exL A).length:=hj
  simp only [hA,t1,byN_nb] at d2 hyE
  have hyE:Oqw (exL A) yE:=hyE
  clear d0 d1
  have d2:(j:Int)<((exL A).length:Int):=ng d2
  have lE:=hyE.cap
  have lE2:=hyE.len
  first
  | exact on_of hyE.nil (by omega)
  | (simp only [hA,t1,byN_nb];exact d2)
  | (show (j:Int).toNat+0<yE.2.2.2.1.length;omega)
  | (have eE:yE.2.2.2.1.getD ((j:Int).toNat+0) 0=(exL A).getD j 0:=by
      rw [zo,yx j];exact hyE.at (by omega)
     have hx:=exL_lt _ (getD_mem (d:=0) (show j<(exL A).length by omega))
     refine ⟨by simp only [hB];exact p2,?_,?_,?_,?_⟩
     · show byT (nl A+nl B+1) (clF B ((exL A).take j))=byT _ (byN (byT (nl A+nl B+1) (clF B ((exL A).take j))))
       have hlt:clF B ((exL A).take j)<2 ^ (8*(nl A+nl B+1)):=clF_lt _ fun x hx=>by
        have:=exL_lt x (xu hx);omega
       rw [byT_N hlt]
       simp only [hA,hB]
       rw [ek,zo]
     · show 0≤yE.2.2.2.1.getD ((j:Int).toNat+0) 0
       rw [eE];exact hx.1
     · show (nb (byN ((l2.drop i2).take n2))).length+(yE.2.2.2.1.getD ((j:Int).toNat+0) 0).toNat / 8+1≤_
       rw [eE]
       simp only [hA,hB]
       rw [ek,zo,nb_len]
       omega
     · show _<100000000
       simp only [hA,hB]
       rw [ek,zo]
       omega))
 iterate 2 (focus
  rename_i y1 hy1 y2 hy2 d0 d1 b yE hyE j hj d2 yU hyU
  have hy1:Ow (nb A) y1:=hA ▸ hy1
  have hy2:Ow (nb B) y2:=hB ▸ hy2
  have t1:((y1.2.2.1.drop 0).take (nb A).length)=nb A:=hy1.eq
  have t2:((y2.2.2.1.drop 0).take (nb B).length)=nb B:=hy2.eq
  have p1:Sb.pre (y1.1,y1.2.1,0,y1.2.2.1,0,(nb A).length,y1.2.2.2):=sb1 hy1 (by rw [nb_len];omega)
  have p2:Sb.pre (y2.1,y2.2.1,0,y2.2.2.1,0,(nb B).length,y2.2.2.2):=sb1 hy2 (by rw [nb_len];omega)
  have ek:((nb A).length:Int)+((nb B).length:Int)+1=((nl A+nl B+1:Nat):Int):=by rw [nb_len,nb_len];omega
  change Nat at j
  have hj:j≤(exL A).length:=hj
  simp only [hA,t1,byN_nb] at d2 hyE
  have hyE:Oqw (exL A) yE:=hyE
  clear d0 d1
  have d2:(j:Int)<((exL A).length:Int):=ng d2
  have eE:yE.2.2.2.1.getD ((j:Int).toNat+0) 0=(exL A).getD j 0:=by
   rw [zo,yx j];exact hyE.at (by omega)
  have lX:=exL_len A
  first
  | exact inR64 (n:=(j:Int)+1) (by omega) (by omega)
  | (refine Stands.one (j+1:Nat) ⟨by show j+1≤(exL A).length;omega,by show (exL A).length - (j+1)<(exL A).length - j;omega,?_⟩
     ((conv=>arg 1;reduce);with_reducible repeat' first | exact ty | refine ta ?_ ?_ | refine ti fun _ => ?_ | refine tf fun _ => ?_ | refine tl ?_)
     all_goals first
      | exact vlf
      | (simp only [hA,hB,t1,t2,byN_nb]
         show byT (nl A+nl B+1) (clF B ((exL A).take (j+1)))=byT (((nb A).length:Int)+((nb B).length:Int)+1).toNat (byN (byT (nl A+nl B+1) (clF B ((exL A).take j))) ^^^ (B <<< (yE.2.2.2.1.getD ((j:Int).toNat+0) 0).toNat))
         rw [eE,take_snoc (d:=0) (show j<(exL A).length by omega),clF_snoc,ek,zo]
         have hlt:clF B ((exL A).take j)<2 ^ (8*(nl A+nl B+1)):=clF_lt _ fun x hx=>by
          have:=exL_lt x (xu hx);omega
         rw [byT_N hlt])))
 · rename_i y1 hy1 y2 hy2 d0 d1 b yE hyE j hj d2
   have hy1:Ow (nb A) y1:=hA ▸ hy1
   have hy2:Ow (nb B) y2:=hB ▸ hy2
   have t1:((y1.2.2.1.drop 0).take (nb A).length)=nb A:=hy1.eq
   have t2:((y2.2.2.1.drop 0).take (nb B).length)=nb B:=hy2.eq
   have p1:Sb.pre (y1.1,y1.2.1,0,y1.2.2.1,0,(nb A).length,y1.2.2.2):=sb1 hy1 (by rw [nb_len];omega)
   have p2:Sb.pre (y2.1,y2.2.1,0,y2.2.2.1,0,(nb B).length,y2.2.2.2):=sb1 hy2 (by rw [nb_len];omega)
   have ek:((nb A).length:Int)+((nb B).length:Int)+1=((nl A+nl B+1:Nat):Int):=by rw [nb_len,nb_len];omega
   change Nat at j
   have hj:j≤(exL A).length:=hj
   simp only [hA,t1,byN_nb] at d2 hyE
   have hyE:Oqw (exL A) yE:=hyE
   simp only [hA,hB]
   refine ⟨by show 0+_≤(byT _ _).length;rw [byT_len,ek];omega,zx _,by show _<100000000;rw [ek];omega,(fun h=>nomatch h),?_⟩
   exact fun x hx=>byT_byt _ _ x (List.mem_of_mem_drop (xu hx))
 · rename_i y1 hy1 y2 hy2 d0 d1 b yE hyE j hj d2 y3 hy3
   have hy1:Ow (nb A) y1:=hA ▸ hy1
   have hy2:Ow (nb B) y2:=hB ▸ hy2
   have t1:((y1.2.2.1.drop 0).take (nb A).length)=nb A:=hy1.eq
   have t2:((y2.2.2.1.drop 0).take (nb B).length)=nb B:=hy2.eq
   have p1:Sb.pre (y1.1,y1.2.1,0,y1.2.2.1,0,(nb A).length,y1.2.2.2):=sb1 hy1 (by rw [nb_len];omega)
   have p2:Sb.pre (y2.1,y2.2.1,0,y2.2.2.1,0,(nb B).length,y2.2.2.2):=sb1 hy2 (by rw [nb_len];omega)
   have ek:((nb A).length:Int)+((nb B).length:Int)+1=((nl A+nl B+1:Nat):Int):=by rw [nb_len,nb_len];omega
   change Nat at j
   have hj:j≤(exL A).length:=hj
   simp only [hA,t1,byN_nb] at d2 hyE
   have hyE:Oqw (exL A) yE:=hyE
   have d2:¬ (j:Int)<((exL A).length:Int):=nf d2
   obtain rfl:j=(exL A).length:=by omega
   have hlt:clF B ((exL A).take (exL A).length)<2 ^ (8*(nl A+nl B+1)):=clF_lt _ fun x hx=>by
    have:=exL_lt x (xu hx);omega
   have e9:byN (((byT (nl A+nl B+1) (clF B ((exL A).take (exL A).length))).drop 0).take (nl A+nl B+1))=clm A B:=by
    rw [zq,za (by rw [byT_len];exact zx _),byT_N hlt,xc]
    unfold clm;rfl
   simp only [hA,hB] at hy3
   rw [ek,zo] at hy3
   have hy3:Ow (nb (byN (((byT (nl A+nl B+1) (clF B ((exL A).take (exL A).length))).drop 0).take (nl A+nl B+1)))) y3:=hy3
   rw [e9] at hy3
   refine Ends.one y3 hy3 ?_
   ((conv=>arg 1;reduce);with_reducible repeat' first | exact ty | refine ta ?_ ?_ | refine ti fun _ => ?_ | refine tf fun _ => ?_ | refine tl ?_)
   all_goals first
    | exact vlf
    | (simp only [hA,hB];rw [ek,zo,e9])
end
end Go.Vx
namespace Go.Vx
open Go Go.Proofs
noncomputable section
variable [Gl]
@[irreducible] def loL (F:Gf) (P:List Int) (j:Nat):List Int:=vis (els F (P.take j))
section
variable {F:Gf}
theorem loL_len {P:List Int} {j:Nat} (h:j≤P.length):(loL F P j).length=j:=by
 unfold loL;rw [zm,zm,zd];omega
theorem loL_succ {P:List Int} {j:Nat} (h:j<P.length):loL F P (j+1)=loL F P j ++ [loI F (P.getD j 0)]:=by
 unfold loL vis;rw [els_snoc h,List.map_append,loI_eq];rfl
theorem loL_trim {P:List Int} {k:Nat} (h:top (els F P)=k):(loL F P P.length).take k=trL F P:=by
 unfold loL trL trim;rw [xc,h,← List.map_take]
theorem loL_at {P:List Int} {k:Nat} (h:k<P.length):(loL F P P.length).getD k 0=vi (cf (els F P) k):=by
 unfold loL;rw [xc,vis_getD]
theorem top_of {l:List (El F)} {k:Nat} (h1:top l≤k) (h2:k=0∨cf l (k - 1)≠Fd.zr):top l=k:=by
 rcases h2 with h2 | h2
 · omega
 · exact Classical.byContradiction fun hn=>h2 (top_zero l (by omega))
theorem Oqw.pre {L:List Int} {y:Oq} (h:Oqw L y) (k:Nat):Oqw (L.take k) y:=by
 have h1:=h.eq
 have hl:(L.take k).length≤L.length:=by rw [zd];omega
 refine ⟨?_,by have:=h.cap;omega,h.len,fun h0=>⟨by have:=(h.nil h0).1;omega,(h.nil h0).2⟩⟩
 have e:(L.take k).length=min k L.length:=zd
 rw [e]
 calc y.2.2.2.1.take (min k L.length)=(y.2.2.2.1.take L.length).take k:=by rw [List.take_take]
  _=L.take k:=by rw [h1]
end
section
variable (F:Gf)
def Rt3 (P:List Int):Inv' C0:=⟨3,Nat×Oq,fun x=>[(6,.int .i64 (x.1:Int)),(5,.sl 1 0 x.1 x.2.2.2.2.2)],fun x m=>match m with
 | p :: _=>[p,oqC true x.2]
 | m=>m,fun x=>x.1≤P.length∧Oqw (loL F P x.1) x.2,fun x=>P.length - x.1⟩
def Rt6 (P:List Int):Inv' C0:=⟨6,Nat×Oq,fun x=>[(5,.sl 1 0 x.1 x.2.2.2.2.2)],fun x m=>match m with
 | p :: _=>[p,oqC true x.2]
 | m=>m,fun x=>x.1≤P.length∧top (els F P)≤x.1∧Oqw (loL F P P.length) x.2,fun x=>x.1⟩
set_option maxHeartbeats 4000000 in
theorem rtrim_ok (o:Bool) (b q:Nat) (l:List Int) (i n c:Nat) (h:i+n≤l.length) (hn:n<1000000000) (ho:o=false→n=0∧c=0) (P:List Int) (hP:(l.drop i).take n=P):
 Does (C:=C0) Tryz.prog (.fn 70) [⟨b,q,1,false,some o,.rows 3 l⟩] [.int .i64 (F.m:Int),.sl 0 i n c]
  [⟨Oq,fun y=>Oqw (trL F P) y,fun y=>.sl 1 0 (trL F P).length y.2.2.2.2,fun y=>[⟨b,q,1,false,some o,.rows 3 l⟩,oqC true y]⟩]:=by
 have hby:Tryz.prog.types[3].bytes=8:=by kernel_rfl
 have hL:P.length=n:=by rw [← hP];exact row_len h
 have pv:∀ j,j<n→l.getD (j+i) 0=P.getD j 0:=fun j hj=>by rw [row_at j hj,hP]
 refine loc_fn (P:=Tryz.prog) (E:=⟨[],[pcRlow F],40,[],[],[],none⟩) (L:=[Rt3 F P,Rt6 F P]) mix Tryz.func70 rfl (by kernel_rfl) (by kernel_rfl) rfl rfl ?_
 ((conv=>arg 1;reduce);with_reducible repeat' first | exact ty | refine ta ?_ ?_ | refine ti fun _ => ?_ | refine tf fun _ => ?_ | refine tl ?_)
 all_goals try exact vlf
 · refine Stands.one ((0,(false,0,0,[],0)):Nat×Oq) ⟨⟨ze _,by unfold loL;exact Oqw.none⟩,?_⟩
   exact vgo
 iterate 4 (focus
  rename_i x hx d
  change Nat×Oq at x
  obtain ⟨j,y⟩:=x
  have d:(j:Int)<(n:Int):=ng d
  first
  | exact on_of ho (by omega)
  | exact d
  | (show (j:Int).toNat+i<l.length;omega))
 iterate 2 (focus
  rename_i x hx d g1
  change Nat×Oq at x
  obtain ⟨j,y⟩:=x
  obtain ⟨k1,k2⟩:j≤P.length∧Oqw (loL F P j) y:=hx
  have hl:=loL_len (F:=F) k1
  have c1:=k2.cap
  have c2:=k2.len
  first
  | (rw [hby];exact ⟨by show j≤y.2.2.2.2;omega,by show 0+y.2.2.2.2≤y.2.2.2.1.length;omega,zx _,by show (j+1)*8≤_;omega⟩)
  | exact fun h0=>⟨by have:=(k2.nil h0).1;show j=0;omega,(k2.nil h0).2⟩)
 iterate 2 (focus
  rename_i x hx d g1 g2 g3 sp k h1 h2
  change Nat×Oq at x
  change List Int at sp
  obtain ⟨j,y⟩:=x
  obtain ⟨k1,k2⟩:j≤P.length∧Oqw (loL F P j) y:=hx
  have hl:=loL_len (F:=F) k1
  have d:(j:Int)<(n:Int):=ng d
  first
  | exact inR64 (n:=(j:Int)+1) (by omega) (by omega)
  | (have eV:l.getD ((j:Int).toNat+i) 0=P.getD j 0:=pv j (by omega)
     have e2:=loL_succ (F:=F) (show j<P.length by omega)
     refine Stands.one ((j+1,(true,g2,g3,y.2.2.2.1.take j ++ [loI F (l.getD ((j:Int).toNat+i) 0)] ++ sp,k)):Nat×Oq) ⟨⟨by show j+1≤P.length;omega,?_⟩,by show P.length - (j+1)<P.length - j;omega,?_⟩
     · show Oqw (loL F P (j+1)) _
       rw [e2]
       exact k2.snoc _ _ _ _ _ sp _ (by rw [eV,hl]) (by rw [hl];exact h1) (by rw [hl];exact h2) rfl
     exact vgo))
 · rename_i x hx d
   change Nat×Oq at x
   obtain ⟨j,y⟩:=x
   obtain ⟨k1,k2⟩:j≤P.length∧Oqw (loL F P j) y:=hx
   have d:¬ (j:Int)<(n:Int):=nf d
   obtain rfl:j=P.length:=by omega
   have ht:=top_le (els F P)
   rw [zm] at ht
   refine Stands.one ((P.length,y):Nat×Oq) ⟨⟨zx _,ht,k2⟩,?_⟩
   exact vgo
 iterate 5 (focus
  rename_i x0 hx0 d0 x hx d
  change Nat×Oq at x
  obtain ⟨k,y⟩:=x
  obtain ⟨k1,k2,k3⟩:k≤P.length∧top (els F P)≤k∧Oqw (loL F P P.length) y:=hx
  have hl:=loL_len (F:=F) (zx P.length)
  have d:(0:Int)<(k:Int):=ng d
  have c1:=k3.cap
  have c2:=k3.len
  first
  | exact inR64 (n:=(k:Int) - 1) (by omega) (by omega)
  | exact on_of k3.nil (by omega)
  | (show (0:Int)≤(k:Int) - 1;omega)
  | (show ((k:Int) - 1).toNat+0<y.2.2.2.1.length;omega))
 iterate 5 (focus
  rename_i x0 hx0 d0 x hx d
  change Nat×Oq at x
  obtain ⟨k,y⟩:=x
  obtain ⟨k1,k2,k3⟩:k≤P.length∧top (els F P)≤k∧Oqw (loL F P P.length) y:=hx
  have hl:=loL_len (F:=F) (zx P.length)
  simp only [zn,decide_eq_true_eq,SB.val] at d
  have d1:(0:Int)<(k:Int):=d.1
  have d2:y.2.2.2.1.getD (((k:Int) - 1).toNat+0) 0=0:=d.2
  have c1:=k3.cap
  have c2:=k3.len
  first
  | exact inR64 (n:=(k:Int) - 1) (by omega) (by omega)
  | exact fun h0=>by have:=(k3.nil h0).1;omega
  | (show (0:Int)≤(k:Int) - 1;omega)
  | (show (k:Int) - 1≤(y.2.2.2.2:Int);omega)
  | (rw [show ((k:Int) - 1).toNat+0=k - 1 by omega,k3.at (by omega),loL_at (by omega),vi_zero] at d2
     have ht:top (els F P)≤k - 1:=ve fun hlt=>top_ne (els F P) (by omega) (by rw [show top (els F P)=k by omega];exact d2)
     refine Stands.one ((k - 1,y):Nat×Oq) ⟨⟨by show k - 1≤P.length;omega,ht,k3⟩,by show k - 1<k;omega,?_⟩
     ((conv=>arg 1;reduce);with_reducible repeat' first | exact ty | refine ta ?_ ?_ | refine ti fun _ => ?_ | refine tf fun _ => ?_ | refine tl ?_)
     all_goals first | exact vlf | (show ((k:Int) - 1).toNat=k - 1;omega) | (show k - 1=((k:Int) - 1).toNat;omega)))
 · rename_i x0 hx0 d0 x hx d
   change Nat×Oq at x
   obtain ⟨k,y⟩:=x
   obtain ⟨k1,k2,k3⟩:k≤P.length∧top (els F P)≤k∧Oqw (loL F P P.length) y:=hx
   have hl:=loL_len (F:=F) (zx P.length)
   have ht:top (els F P)=k:=by
    refine top_of k2 ?_
    by_cases h0:k=0
    · exact .inl h0
    · refine .inr fun hz => ?_
      have d:(decide (0<(k:Int)) && (SB.tm (decide (y.2.2.2.1.getD (((k:Int) - 1).toNat+0) 0=0))).val)=false:=d
      rw [show ((k:Int) - 1).toNat+0=k - 1 by omega,k3.at (by omega),loL_at (by omega),hz] at d
      simp only [Bool.and_eq_false_iff,decide_eq_false_iff_not,SB.val] at d
      rcases d with d | d
      · omega
      · exact d rfl
   have e:=loL_trim (F:=F) ht
   have hl2:(trL F P).length=k:=by rw [← e,zd,hl];omega
   refine Ends.one (y:Oq) (by show Oqw (trL F P) y;rw [← e];exact k3.pre k) ?_
   ((conv=>arg 1;reduce);with_reducible repeat' first | exact ty | refine ta ?_ ?_ | refine ti fun _ => ?_ | refine tf fun _ => ?_ | refine tl ?_)
   all_goals first | exact vlf | exact hl2 | exact hl2.symm
def fcRtrim:Fc Tryz.prog C0 where
 tg:=.fn 70
 X:=Sl3
 args:=fun (o,b,q,l,i,n,c)=>[.int .i64 (F.m:Int),.sl 0 i n c]
 mem:=fun (o,b,q,l,i,n,c)=>[⟨b,q,1,false,some o,.rows 3 l⟩]
 pre:=Sl3.pre
 alts:=fun (o,b,q,l,i,n,c)=>[⟨Oq,fun y=>Oqw (trL F ((l.drop i).take n)) y,fun y=>.sl 1 0 (trL F ((l.drop i).take n)).length y.2.2.2.2,fun y=>[⟨b,q,1,false,some o,.rows 3 l⟩,oqC true y]⟩]
 mat vs m:=match vs with
  | [_,.sl s i n c]=>match nth m s with
    | ⟨b,q,_,_,g,.rows 3 l⟩=>some ((onOf g,b,q,l,i,n,c),[s])
    | _=>none
  | [_,.nils]=>some ((false,0,0,[],0,0,0),[m.length])
  | _=>none
 ok:=fun (o,b,q,l,i,n,c) h=>rtrim_ok F o b q l i n c h.1 h.2.1 h.2.2 _ rfl
end
end
end Go.Vx
namespace Go.Vx
open Go Go.Proofs
noncomputable section
variable [Gl]
section
variable (F:Gf)
def Xm5 (A B:List Int):Inv' C0:=⟨5,Nat,fun i=>[(8,.int .i64 (i:Int))],fun i m=>match m with
 | [p,q,a,b,t]=>[p,q,a,b,⟨t.block,t.base,1,true,none,.rows 3 (tmI F A B i 0)⟩]
 | m=>m,fun i=>i≤A.length,fun i=>A.length - i⟩
def Xm8 (A B:List Int):Inv' C0:=⟨8,Nat×Nat,fun x=>[(8,.int .i64 (x.1:Int)),(9,.int .i64 (x.2:Int))],fun x m=>match m with
 | [p,q,a,b,t]=>[p,q,a,b,⟨t.block,t.base,1,true,none,.rows 3 (tmI F A B x.1 x.2)⟩]
 | m=>m,fun x=>x.1<A.length∧x.2≤B.length,fun x=>B.length - x.2⟩
set_option maxHeartbeats 4000000 in
theorem rtimes_ok (o:Bool) (b q:Nat) (l:List Int) (i n c:Nat) (h:i+n≤l.length) (hn:n<100000000) (ho:o=false→n=0∧c=0) (o2:Bool) (b2 q2:Nat) (l2:List Int) (i2 n2 c2:Nat) (h2:i2+n2≤l2.length) (hn2:n2<100000000) (ho2:o2=false→n2=0∧c2=0)
 (P:List Int) (hP:(l.drop i).take n=P) (Q:List Int) (hQ:(l2.drop i2).take n2=Q):
 Does (C:=C0) Tryz.prog (.fn 68) [⟨b,q,1,false,some o,.rows 3 l⟩,⟨b2,q2,1,false,some o2,.rows 3 l2⟩] [.int .i64 (F.m:Int),.sl 0 i n c,.sl 1 i2 n2 c2]
  [⟨Oq,fun y=>Oqw (tmL F P Q) y,fun y=>.sl 2 0 (tmL F P Q).length y.2.2.2.2,fun y=>[⟨b,q,1,false,some o,.rows 3 l⟩,⟨b2,q2,1,false,some o2,.rows 3 l2⟩,oqC true y]⟩]:=by
 have hby:(Tryz.prog.types[3].bytes:Int)=8:=by kernel_rfl
 have hL:P.length=n:=by rw [← hP];exact row_len h
 have hL2:Q.length=n2:=by rw [← hQ];exact row_len h2
 have lA:=trL_le F P
 have lB:=trL_le F Q
 rw [hL] at lA
 rw [hL2] at lB
 have eT:=fun i k=>tmI_len (F:=F) (P:=trL F P) (Q:=trL F Q) (i:=i) (k:=k)
 subst hP hQ
 refine loc_fn (P:=Tryz.prog) (E:=⟨[fcRtrim F],[pcRmul F],59,[(10,[],[.p 0,.p 1,.p 2,.p 3,.p 4,.p 5,.p 6,.p 7,.p 8,.p 10,.p 11,.p 12,.p 13,.p 15,.p 16,.p 17,.q 9,.q 14,.q 18,.q 19,.p 20,.p 21,.e 22])],[],[],none⟩) (L:=[Xm5 F (trL F ((l.drop i).take n)) (trL F ((l2.drop i2).take n2)),Xm8 F (trL F ((l.drop i).take n)) (trL F ((l2.drop i2).take n2))]) mix Tryz.func68 rfl (by kernel_rfl) (by kernel_rfl) rfl rfl ?_
 ((conv=>arg 1;reduce);with_reducible repeat' first | exact ty | refine ta ?_ ?_ | refine ti fun _ => ?_ | refine tf fun _ => ?_ | refine tl ?_)
 all_goals try exact vlf
 · exact ⟨h,by show n<1000000000;omega,ho⟩
 · exact ⟨h2,by show n2<1000000000;omega,ho2⟩
 · rw [hby];omega
 · refine Stands.one (0:Nat) ⟨ze _,?_⟩
   ((conv=>arg 1;reduce);with_reducible repeat' first | exact ty | refine ta ?_ ?_ | refine ti fun _ => ?_ | refine tf fun _ => ?_ | refine tl ?_)
   all_goals first | exact vlf | exact tmI_zero
 · rename_i ya ha yb hb b0 i0 hi d
   change Nat at i0
   have d:(i0:Int)<((trL F ((l.drop i).take n)).length:Int):=ng d
   refine Stands.one ((i0,0):Nat×Nat) ⟨⟨by show i0<_;omega,ze _⟩,?_⟩
   exact vgo
 iterate 16 (focus
  rename_i ya ha yb hb b0 i0 hi d0 x hx e1 d
  change Oq at ya
  change Oq at yb
  have ha:Oqw (trL F ((l.drop i).take n)) ya:=ha
  have hb:Oqw (trL F ((l2.drop i2).take n2)) yb:=hb
  have a1:=ha.cap
  have a2:=ha.len
  have b1:=hb.cap
  have b2:=hb.len
  change Nat at i0
  change Nat×Nat at x
  obtain ⟨j,k⟩:=x
  obtain ⟨k1,k2⟩:j<(trL F ((l.drop i).take n)).length∧k≤(trL F ((l2.drop i2).take n2)).length:=hx
  have e1:(i0:Int)=(j:Int):=e1
  obtain rfl:i0=j:=by omega
  have eJ:=eT i0 k
  have d:(k:Int)<((trL F ((l2.drop i2).take n2)).length:Int):=ng d
  have hk:k<(trL F ((l2.drop i2).take n2)).length:=by omega
  first
  | exact inR64 (n:=(i0:Int)+(k:Int)) (by omega) (by omega)
  | exact inR64 (n:=(k:Int)+1) (by omega) (by omega)
  | exact on_of ha.nil (by omega)
  | exact on_of hb.nil (by omega)
  | (show (i0:Int)+(k:Int)<(((_:Int)).toNat:Int);omega)
  | (show (i0:Int)<_;omega)
  | exact d
  | (show ((i0:Int)+(k:Int)).toNat+0<(tmI F (trL F ((l.drop i).take n)) (trL F ((l2.drop i2).take n2)) i0 k).length;omega)
  | (show (i0:Int).toNat+0<ya.2.2.2.1.length;omega)
  | (show (k:Int).toNat+0<yb.2.2.2.1.length;omega)
  | (have v1:ya.2.2.2.1.getD ((i0:Int).toNat+0) 0=vi (cf (els F (trL F ((l.drop i).take n))) i0):=by
      rw [show (i0:Int).toNat+0=i0 by omega,ha.at k1,← vis_getD,trL_vis]
     have v2:yb.2.2.2.1.getD ((k:Int).toNat+0) 0=vi (cf (els F (trL F ((l2.drop i2).take n2))) k):=by
      rw [show (k:Int).toNat+0=k by omega,hb.at hk,← vis_getD,trL_vis]
     have eN:((i0:Int)+(k:Int)).toNat+0=i0+k:=by omega
     have e3:(tmI F (trL F ((l.drop i).take n)) (trL F ((l2.drop i2).take n2)) i0 k).set (((i0:Int)+(k:Int)).toNat+0) (ibit .xor .i64 ((tmI F (trL F ((l.drop i).take n)) (trL F ((l2.drop i2).take n2)) i0 k).getD (((i0:Int)+(k:Int)).toNat+0) 0) (muI F (ya.2.2.2.1.getD ((i0:Int).toNat+0) 0) (yb.2.2.2.1.getD ((k:Int).toNat+0) 0)))=tmI F (trL F ((l.drop i).take n)) (trL F ((l2.drop i2).take n2)) i0 (k+1):=by
      rw [eN,v1,v2,muI_eq,el_vi,el_vi,tmI_at k1 hk,xor_vi]
      exact tmI_step k1 hk
     refine Stands.one ((i0,k+1):Nat×Nat) ⟨⟨k1,by show k+1≤_;omega⟩,by show _ - (k+1)<_ - k;omega,?_⟩
     ((conv=>arg 1;reduce);with_reducible repeat' first | exact ty | refine ta ?_ ?_ | refine ti fun _ => ?_ | refine tf fun _ => ?_ | refine tl ?_)
     all_goals first | exact vlf | exact e3 | exact e3.symm))
 iterate 2 (focus
  rename_i ya ha yb hb b0 i0 hi d0 x hx e1 d
  change Oq at ya
  change Oq at yb
  have ha:Oqw (trL F ((l.drop i).take n)) ya:=ha
  have hb:Oqw (trL F ((l2.drop i2).take n2)) yb:=hb
  have a1:=ha.cap
  have a2:=ha.len
  have b1:=hb.cap
  have b2:=hb.len
  change Nat at i0
  change Nat×Nat at x
  obtain ⟨j,k⟩:=x
  obtain ⟨k1,k2⟩:j<(trL F ((l.drop i).take n)).length∧k≤(trL F ((l2.drop i2).take n2)).length:=hx
  have e1:(i0:Int)=(j:Int):=e1
  obtain rfl:i0=j:=by omega
  have eJ:=eT i0 k
  have d:¬ (k:Int)<((trL F ((l2.drop i2).take n2)).length:Int):=nf d
  obtain rfl:k=(trL F ((l2.drop i2).take n2)).length:=by omega
  first
  | exact inR64 (n:=(i0:Int)+1) (by omega) (by omega)
  | (have e3:=tmI_row (F:=F) (P:=trL F ((l.drop i).take n)) (Q:=trL F ((l2.drop i2).take n2)) (i:=i0)
     refine Stands.one (i0+1:Nat) ⟨by show i0+1≤_;omega,by show _ - (i0+1)<_ - i0;omega,?_⟩
     ((conv=>arg 1;reduce);with_reducible repeat' first | exact ty | refine ta ?_ ?_ | refine ti fun _ => ?_ | refine tf fun _ => ?_ | refine tl ?_)
     all_goals first | exact vlf | exact e3 | exact e3.symm))
 · rename_i ya ha yb hb b0 i0 hi d
   change Nat at i0
   have eJ:=eT i0 0
   exact ⟨by show 0+((_:Int)).toNat≤(tmI F (trL F ((l.drop i).take n)) (trL F ((l2.drop i2).take n2)) i0 0).length;omega,by show ((_:Int)).toNat<1000000000;omega,nofun⟩
 · rename_i ya ha yb hb b0 i0 hi d yz hz
   change Nat at i0
   have hi:i0≤(trL F ((l.drop i).take n)).length:=hi
   have d:¬ (i0:Int)<((trL F ((l.drop i).take n)).length:Int):=nf d
   obtain rfl:i0=(trL F ((l.drop i).take n)).length:=by omega
   have eL:((tmI F (trL F ((l.drop i).take n)) (trL F ((l2.drop i2).take n2)) (trL F ((l.drop i).take n)).length 0).drop 0).take (((trL F ((l.drop i).take n)).length:Int)+((trL F ((l2.drop i2).take n2)).length:Int)).toNat=tmI F (trL F ((l.drop i).take n)) (trL F ((l2.drop i2).take n2)) (trL F ((l.drop i).take n)).length 0:=by
    rw [zq,za (by rw [tmI_len];omega)]
   have hz:Oqw (trL F (((tmI F (trL F ((l.drop i).take n)) (trL F ((l2.drop i2).take n2)) (trL F ((l.drop i).take n)).length 0).drop 0).take (((trL F ((l.drop i).take n)).length:Int)+((trL F ((l2.drop i2).take n2)).length:Int)).toNat)) yz:=hz
   have eF:trL F (tmI F (trL F ((l.drop i).take n)) (trL F ((l2.drop i2).take n2)) (trL F ((l.drop i).take n)).length 0)=tmL F ((l.drop i).take n) ((l2.drop i2).take n2):=by
    rw [tmI_end]
    unfold tmL trL
    rw [els_vis,els_vis]
   rw [eL,eF] at hz
   rw [eL,eF]
   refine Ends.one (yz:Oq) hz ?_
   exact vgo
def fcRtimes:Fc Tryz.prog C0 where
 tg:=.fn 68
 X:=Sl3×Sl3
 args:=fun ((o,b,q,l,i,n,c),(o2,b2,q2,l2,i2,n2,c2))=>[.int .i64 (F.m:Int),.sl 0 i n c,.sl 1 i2 n2 c2]
 mem:=fun ((o,b,q,l,i,n,c),(o2,b2,q2,l2,i2,n2,c2))=>[⟨b,q,1,false,some o,.rows 3 l⟩,⟨b2,q2,1,false,some o2,.rows 3 l2⟩]
 pre:=fun ((o,b,q,l,i,n,c),(o2,b2,q2,l2,i2,n2,c2))=>(Sl3.pre (o,b,q,l,i,n,c)∧n<100000000)∧Sl3.pre (o2,b2,q2,l2,i2,n2,c2)∧n2<100000000
 alts:=fun ((o,b,q,l,i,n,c),(o2,b2,q2,l2,i2,n2,c2))=>[⟨Oq,fun y=>Oqw (tmL F ((l.drop i).take n) ((l2.drop i2).take n2)) y,fun y=>.sl 2 0 (tmL F ((l.drop i).take n) ((l2.drop i2).take n2)).length y.2.2.2.2,fun y=>[⟨b,q,1,false,some o,.rows 3 l⟩,⟨b2,q2,1,false,some o2,.rows 3 l2⟩,oqC true y]⟩]
 mat vs m:=match vs with
  | [_,.sl s i n c,.sl s2 i2 n2 c2]=>match nth m s,nth m s2 with
    | ⟨b,q,_,_,g,.rows 3 l⟩,⟨b2,q2,_,_,g2,.rows 3 l2⟩=>some (((onOf g,b,q,l,i,n,c),(onOf g2,b2,q2,l2,i2,n2,c2)),[s,s2])
    | _,_=>none
  | _=>none
 ok:=fun ((o,b,q,l,i,n,c),(o2,b2,q2,l2,i2,n2,c2)) h=>rtimes_ok F o b q l i n c h.1.1.1 h.1.2 h.1.1.2.2 o2 b2 q2 l2 i2 n2 c2 h.2.1.1 h.2.2 h.2.1.2.2 _ rfl _ rfl
end
end
end Go.Vx
namespace Go.Vx
def lsI (n:Nat):Nat→Nat→List Bool→Nat→List Bool×Nat
 | 0,_,s,d=>(s,d)
 | f+1,x,s,d=>if s.getD x true then (s,d) else lsI n f (2*x % n) (s.set x true) (d+1)
def lsP (n j:Nat) (y:List Bool×List Int×Nat):List Bool×List Int×Nat:=if y.1.getD ((2*j+1) % n) true then y else
    ((lsI n (n+1) ((2*j+1) % n) y.1 y.2.2).1,y.2.1 ++ [2*(j:Int)+1],(lsI n (n+1) ((2*j+1) % n) y.1 y.2.2).2)
def lsQ (n:Nat):Nat→List Bool×List Int×Nat
 | 0=>(zw n false,[],0)
 | j+1=>lsP n j (lsQ n j)
@[irreducible] def lsO (n j:Nat):List Bool×List Int×Nat:=lsQ n j
theorem lsO_zero (n:Nat):lsO n 0=(zw n false,[],0):=by unfold lsO;rfl
theorem lsO_succ (n j:Nat):lsO n (j+1)=if (lsO n j).1.getD ((2*j+1) % n) true then lsO n j else
 ((lsI n (n+1) ((2*j+1) % n) (lsO n j).1 (lsO n j).2.2).1,(lsO n j).2.1 ++ [2*(j:Int)+1],(lsI n (n+1) ((2*j+1) % n) (lsO n j).1 (lsO n j).2.2).2):=by unfold lsO;rfl
def cfB (s:List Bool):Nat:=(s.filter fun b=>!b).length
theorem cfB_le (s:List Bool):cfB s≤s.length:=List.length_filter_le _ _
theorem cfB_set:∀ (s:List Bool) (x:Nat),x<s.length→s.getD x true=false→cfB (s.set x true)+1=cfB s
 | [],_,h,_=>absurd h (wy _)
 | b :: s,0,_,h=>by
   have h:b=false:=h
   subst h
   rfl
 | b :: s,x+1,h,h2=>by
   have ih:=cfB_set s x (Nat.lt_of_succ_lt_succ h) h2
   unfold cfB at ih ⊢
   show ((b :: s.set x true).filter _).length+1=_
   cases b
   · rw [rk rfl,rk rfl,xq,xq,ih]
   · rw [rl (by decide),rl (by decide),ih]
theorem lsI_len (n:Nat):∀ (f x:Nat) (s:List Bool) (d:Nat),(lsI n f x s d).1.length=s.length∧(lsI n f x s d).2≤d+f
 | 0,_,_,_=>⟨rfl,zx _⟩
 | f+1,x,s,d=>by
   unfold lsI
   split
   · exact ⟨rfl,pc _ _⟩
   · have:=lsI_len n f (2*x % n) (s.set x true) (d+1)
     rw [zg] at this
     exact ⟨this.1,by omega⟩
theorem lsO_facts (n:Nat):∀ j,(lsO n j).1.length=n∧(lsO n j).2.2≤j*(n+1)∧(lsO n j).2.1.length≤j∧∀ x∈(lsO n j).2.1,1≤x∧x<2*(j:Int)+1
 | 0=>by rw [lsO_zero];exact ⟨ye,ze _,zx _,fun x h=>nomatch h⟩
 | j+1=>by
   obtain ⟨h1,h2,h3,h4⟩:=lsO_facts n j
   rw [lsO_succ]
   split
   · exact ⟨h1,by rw [nu];omega,by omega,fun x hx=>by have:=h4 x hx;omega⟩
   · obtain ⟨a,b⟩:=lsI_len n (n+1) ((2*j+1) % n) (lsO n j).1 (lsO n j).2.2
     refine ⟨a.trans h1,xk b (by rw [nu];exact Nat.add_le_add_right h2 _),by show ((lsO n j).2.1 ++ [_]).length≤_;rw [zu];show (lsO n j).2.1.length+1≤_;omega,fun x hx => ?_⟩
     rcases List.mem_append.1 hx with hx | hx
     · have:=h4 x hx;omega
     · rw [wj] at hx;omega
def LsAt (n:Nat) (x:Nat) (s:List Bool) (d:Nat) (R:List Bool×Nat):Prop:=∃ f,cfB s≤f∧lsI n f x s d=R
theorem LsAt.stop {n x:Nat} {s:List Bool} {d:Nat} {R:List Bool×Nat} (h:LsAt n x s d R) (hx:s.getD x true=true):R=(s,d):=by
 obtain ⟨f,_,h⟩:=h
 cases f with
 | zero=>exact h.symm
 | succ f=>unfold lsI at h;rw [if_pos hx] at h;exact h.symm
theorem LsAt.next {n x:Nat} {s:List Bool} {d:Nat} {R:List Bool×Nat} (h:LsAt n x s d R) (hl:x<s.length) (hx:s.getD x true=false):LsAt n (2*x % n) (s.set x true) (d+1) R:=by
 obtain ⟨f,hf,h⟩:=h
 have hc:=cfB_set s x hl hx
 cases f with
 | zero=>omega
 | succ f=>
   unfold lsI at h
   rw [if_neg (by rw [hx];exact vf)] at h
   exact ⟨f,by omega,h⟩
theorem lsI_mono (n:Nat):∀ (f x:Nat) (s:List Bool) (d:Nat),d≤(lsI n f x s d).2
 | 0,_,_,_=>zx _
 | f+1,x,s,d=>by
   unfold lsI
   split
   · exact zx _
   · exact xk (Nat.le_succ d) (lsI_mono n f (2*x % n) (s.set x true) (d+1))
theorem LsAt.le {n x:Nat} {s:List Bool} {d:Nat} {R:List Bool×Nat} (h:LsAt n x s d R) (_:0≤n):d≤R.2:=by
 obtain ⟨f,_,h⟩:=h
 rw [← h]
 exact lsI_mono n f x s d
end Go.Vx
namespace Go.Vx
open Go Go.Proofs
noncomputable section
variable [Gl]
section
variable (F:Gf)
abbrev Lq:=List Int×Oq
def Fr3 (n:Nat):Inv' C0:=⟨3,Nat×Lq,fun x=>[(6,.int .i64 (x.1:Int)),(5,.sl 1 0 x.2.1.length x.2.2.2.2.2.2),(7,.junk)],fun x m=>match m with
 | p :: _=>[p,oqC true x.2.2]
 | m=>m,fun x=>x.1≤n∧Oqw x.2.1 x.2.2∧x.2.1.length≤1+2*x.1,fun x=>n - x.1⟩
set_option maxHeartbeats 4000000 in
theorem rfroots_ok (o:Bool) (b q:Nat) (l:List Int) (i n c:Nat) (h:i+n≤l.length) (hn:n<10000000) (ho:o=false→n=0∧c=0):
 Does (C:=C0) Tryz.prog (.fn 110) [⟨b,q,1,false,some o,.rows 3 l⟩] [.int .i64 (F.m:Int),.sl 0 i n c]
  [⟨Lq,fun y=>Oqw y.1 y.2∧y.1.length≤1+2*n,fun y=>.sl 1 0 y.1.length y.2.2.2.2.2,fun y=>[⟨b,q,1,false,some o,.rows 3 l⟩,oqC true y.2]⟩]:=by
 have hby:(Tryz.prog.types[3].bytes:Int)=8:=by kernel_rfl
 refine loc_fn (P:=Tryz.prog) (E:=⟨[fcRtimes F],[],23,[],[],[],none⟩) (L:=[Fr3 n]) mix Tryz.func110 rfl (by kernel_rfl) (by kernel_rfl) rfl rfl ?_
 ((conv=>arg 1;reduce);with_reducible repeat' first | exact ty | refine ta ?_ ?_ | refine ti fun _ => ?_ | refine tf fun _ => ?_ | refine tl ?_)
 all_goals try exact vlf
 · refine Stands.one ((0,[1],(true,‹Nat›,0,[1],1)):Nat×Lq) ⟨⟨ze _,⟨rfl,zx _,zx _,nofun⟩,zx _⟩,?_⟩
   exact vgo
 iterate 4 (focus
  rename_i b0 x hx d
  change Nat×Lq at x
  obtain ⟨j,L,y⟩:=x
  have d:(j:Int)<(n:Int):=ng d
  first
  | exact on_of ho (by omega)
  | exact d
  | (show (j:Int).toNat+i<l.length;omega))
 · rename_i b0 x hx d b1
   change Nat×Lq at x
   obtain ⟨j,L,y⟩:=x
   obtain ⟨k1,k2,k3⟩:j≤n∧Oqw L y∧L.length≤1+2*j:=hx
   have c1:=k2.cap
   have c2:=k2.len
   exact ⟨⟨⟨by show 0+L.length≤y.2.2.2.1.length;omega,by show L.length<1000000000;omega,k2.nil⟩,by show L.length<100000000;omega⟩,⟨by show 0+2≤2;omega,by show 2<1000000000;omega,nofun⟩,by show 2<100000000;omega⟩
 iterate 2 (focus
  rename_i b0 x hx d b1 z hz
  change Nat×Lq at x
  change Oq at z
  obtain ⟨j,L,y⟩:=x
  obtain ⟨k1,k2,k3⟩:j≤n∧Oqw L y∧L.length≤1+2*j:=hx
  have d:(j:Int)<(n:Int):=ng d
  first
  | exact inR64 (n:=(j:Int)+1) (by omega) (by omega)
  | (have hl:=tmL_len (F:=F) (P:=(y.2.2.2.1.drop 0).take L.length) (Q:=[l.getD ((j:Int).toNat+i) 0,1])
     rw [zq,k2.eq] at hl
     have hl:(tmL F L [l.getD ((j:Int).toNat+i) 0,1]).length≤L.length+2:=hl
     have hz:Oqw (tmL F ((y.2.2.2.1.drop 0).take L.length) [l.getD ((j:Int).toNat+i) 0,1]) z:=hz
     rw [zq,k2.eq] at hz
     refine Stands.one ((j+1,tmL F L [l.getD ((j:Int).toNat+i) 0,1],z):Nat×Lq) ⟨⟨by show j+1≤n;omega,hz,by show (tmL F L _).length≤1+2*(j+1);omega⟩,by show n - (j+1)<n - j;omega,?_⟩
     ((conv=>arg 1;reduce);with_reducible repeat' first | exact ty | refine ta ?_ ?_ | refine ti fun _ => ?_ | refine tf fun _ => ?_ | refine tl ?_)
     all_goals first
      | exact vlf
      | (show (tmL F ((y.2.2.2.1.drop 0).take L.length) [l.getD ((j:Int).toNat+i) 0,1]).length=(tmL F L [l.getD ((j:Int).toNat+i) 0,1]).length;rw [zq,k2.eq])
      | (show (tmL F L [l.getD ((j:Int).toNat+i) 0,1]).length=(tmL F ((y.2.2.2.1.drop 0).take L.length) [l.getD ((j:Int).toNat+i) 0,1]).length;rw [zq,k2.eq])))
 · rename_i b0 x hx d
   change Nat×Lq at x
   obtain ⟨j,L,y⟩:=x
   obtain ⟨k1,k2,k3⟩:j≤n∧Oqw L y∧L.length≤1+2*j:=hx
   refine Ends.one ((L,y):Lq) ⟨k2,by show L.length≤1+2*n;omega⟩ ?_
   exact vgo
def fcRfroots:Fc Tryz.prog C0 where
 tg:=.fn 110
 X:=Sl3
 args:=fun (o,b,q,l,i,n,c)=>[.int .i64 (F.m:Int),.sl 0 i n c]
 mem:=fun (o,b,q,l,i,n,c)=>[⟨b,q,1,false,some o,.rows 3 l⟩]
 pre:=fun (o,b,q,l,i,n,c)=>Sl3.pre (o,b,q,l,i,n,c)∧n<10000000
 alts:=fun (o,b,q,l,i,n,c)=>[⟨Lq,fun y=>Oqw y.1 y.2∧y.1.length≤1+2*n,fun y=>.sl 1 0 y.1.length y.2.2.2.2.2,fun y=>[⟨b,q,1,false,some o,.rows 3 l⟩,oqC true y.2]⟩]
 mat vs m:=match vs with
  | [_,.sl s i n c]=>match nth m s with
    | ⟨b,q,_,_,g,.rows 3 l⟩=>some ((onOf g,b,q,l,i,n,c),[s])
    | _=>none
  | _=>none
 ok:=fun (o,b,q,l,i,n,c) h=>rfroots_ok F o b q l i n c h.1.1 h.2 h.1.2.2
theorem tmod_low (i:Int) {n:Nat} (h:0<n) : -(n:Int)<i.tmod (n:Int):=by
 have h3:=Int.neg_tmod i (n:Int)
 have h4:=uv (-i) (show (0:Int)<(n:Int) by omega)
 omega
def Rng (L:List Int) (n:Nat):Prop:=∀ x∈L,0≤x∧x<(n:Int)
def Co5':Inv' C0:=⟨5,List Bool×Nat,fun x=>[(7,.int .i64 (x.2:Int))],fun x m=>match m with
 | [s]=>[⟨s.block,s.base,1,true,none,.rows 4 x.1⟩]
 | m=>m,fun x=>x.1.length=nF F∧x.2<nF F,fun x=>cfB x.1⟩
def Co10 (S:List Bool):Inv' C0:=⟨10,Nat×Lq,fun x=>[(9,.int .i64 (x.1:Int)),(8,.sl 1 0 x.2.1.length x.2.2.2.2.2.2)],fun x m=>match m with
 | s :: _=>[s,oqC true x.2.2]
 | m=>m,fun x=>x.1≤nF F∧Oqw x.2.1 x.2.2∧x.2.1.length≤x.1∧Rng x.2.1 (nF F),fun x=>nF F - x.1⟩
set_option maxHeartbeats 4000000 in
theorem rcoset_ok (i:Int) (h1 : -1000000000<i) (h2:i<1000000000):
 Does (C:=C0) Tryz.prog (.fn 109) [] [.int .i64 (F.m:Int),.int .i64 i]
  [⟨Lq,fun y=>Oqw y.1 y.2∧y.1.length≤nF F∧Rng y.1 (nF F),fun y=>.sl 0 0 y.1.length y.2.2.2.2.2,fun y=>[oqC true y.2]⟩]:=by
 obtain ⟨hs,h7,hh⟩:=nF_sz F
 have es:=shl_sz F
 have e1:(szF F:Int) - 1=(nF F:Int):=by omega
 have hb4:(Tryz.prog.types[4].bytes:Int)=1:=by kernel_rfl
 have hby:Tryz.prog.types[3].bytes=8:=by kernel_rfl
 have t1:=uv i (show (0:Int)<(nF F:Int) by omega)
 have t2:=tmod_low i (show 0<nF F by omega)
 have eM:ishl .i64 1 (IntKind.u64.wrap (F.m:Int)) - 1=(nF F:Int):=by rw [wm,es,e1]
 refine loc_fn (P:=Tryz.prog) (E:=⟨[],[],50,[],[],[],none⟩) (L:=[Co5' F,Co10 F []]) mix Tryz.func109 rfl (by kernel_rfl) (by kernel_rfl) rfl rfl ?_
 ((conv=>arg 1;reduce);with_reducible repeat' first | exact ty | refine ta ?_ ?_ | refine ti fun _ => ?_ | refine tf fun _ => ?_ | refine tl ?_)
 all_goals try exact vlf
 all_goals try first
  | (rw [wm];omega)
  | (rw [eM];exact inR64 (by omega) (by omega))
  | (rw [eM];omega)
  | (rw [eM,hb4];omega)
 · have t1:=uv (i.tmod (nF F:Int)+nF F) (show (0:Int)<(nF F:Int) by omega)
   have t3:=Int.tmod_nonneg (nF F:Int) (show (0:Int)≤i.tmod (nF F:Int)+nF F by omega)
   refine Stands.one ((zw (nF F) false,((i.tmod (nF F:Int)+nF F).tmod (nF F:Int)).toNat):List Bool×Nat) ⟨⟨ye,by show _<_;omega⟩,?_⟩
   ((conv=>arg 1;reduce);with_reducible repeat' first | exact ty | refine ta ?_ ?_ | refine ti fun _ => ?_ | refine tf fun _ => ?_ | refine tl ?_)
   all_goals first | exact vlf | (rw [eM];rfl) | (rw [eM];show _=(((_:Int).toNat:Nat):Int);omega) | (rw [eM];show (((_:Int).toNat:Nat):Int)=_;omega)
 all_goals try (
  rename_i b0 x hx
  change List Bool×Nat at x
  obtain ⟨S,k⟩:=x
  obtain ⟨k1,k2⟩:S.length=nF F∧k<nF F:=hx
  first
  | (rw [eM];show (k:Int)<((nF F:Int).toNat:Int);omega)
  | (show (k:Int).toNat+0<S.length;omega))
 all_goals try (
  rename_i b0 x hx d
  change List Bool×Nat at x
  obtain ⟨S,k⟩:=x
  obtain ⟨k1,k2⟩:S.length=nF F∧k<nF F:=hx
  have d:(!S.getD ((k:Int).toNat+0) false)=true:=d
  rw [show (k:Int).toNat+0=k by omega,yp] at d
  have d':S.getD k true=false:=by
   rw [zy,zt (by omega)] at d ⊢;exact d
  first
  | (rw [eM];show (k:Int)<((nF F:Int).toNat:Int);omega)
  | (show (k:Int).toNat+0<S.length;omega)
  | exact inR64 (n:=2*(k:Int)) (by omega) (by omega)
  | (rw [eM];show (nF F:Int)≠0;omega)
  | (have hc:=cfB_set S k (by omega) d'
     have e2:(2*(k:Int)).tmod (nF F:Int)=((2*k % nF F:Nat):Int):=(zb (2*k) (nF F)).symm
     refine Stands.one ((S.set k true,2*k % nF F):List Bool×Nat) ⟨⟨by show (S.set k true).length=_;rw [zg];exact k1,zc _ (by omega)⟩,by show cfB (S.set k true)<cfB S;omega,?_⟩
     ((conv=>arg 1;reduce);with_reducible repeat' first | exact ty | refine ta ?_ ?_ | refine ti fun _ => ?_ | refine tf fun _ => ?_ | refine tl ?_)
     all_goals first | exact vlf | (rw [eM];exact e2) | (rw [eM];exact e2.symm)))
 · rename_i b0 x hx d
   change List Bool×Nat at x
   obtain ⟨S,k⟩:=x
   obtain ⟨k1,k2⟩:S.length=nF F∧k<nF F:=hx
   refine Stands.one ((0,[],(false,0,0,[],0)):Nat×Lq) ⟨⟨ze _,Oqw.none,zx _,fun x hx=>nomatch hx⟩,?_⟩
   exact vgo
 all_goals try (
  rename_i b0 w hw dw x hx d
  change Nat×Lq at x
  obtain ⟨j,L,y⟩:=x
  rw [eM] at d
  have d:(j:Int)<(nF F:Int):=ng d
  have w1:w.1.length=nF F:=hw.1
  first
  | (rw [eM];show (j:Int)<((nF F:Int).toNat:Int);omega)
  | (show (j:Int).toNat+0<w.1.length;omega))
 all_goals try (
  rename_i b0 w hw dw x hx d dz b1
  change Nat×Lq at x
  obtain ⟨j,L,y⟩:=x
  obtain ⟨k1,k2,k3,k4⟩:j≤nF F∧Oqw L y∧L.length≤j∧Rng L (nF F):=hx
  have c1:=k2.cap
  have c2:=k2.len
  first
  | (rw [hby];exact ⟨c1,by show 0+y.2.2.2.2≤y.2.2.2.1.length;omega,zx _,by show (L.length+1)*8≤_;omega⟩)
  | exact k2.nil)
 iterate 2 (focus
  rename_i b0 w hw dw x hx d dz g1 g2 g3 sp k h3 h4
  change Nat×Lq at x
  change List Int at sp
  obtain ⟨j,L,y⟩:=x
  obtain ⟨k1,k2,k3,k4⟩:j≤nF F∧Oqw L y∧L.length≤j∧Rng L (nF F):=hx
  rw [eM] at d
  have d:(j:Int)<(nF F:Int):=ng d
  have h3:L.length+1≤k:=h3
  have h4:k≤L.length+1+sp.length:=h4
  first
  | exact inR64 (n:=(j:Int)+1) (by omega) (by omega)
  | (refine Stands.one ((j+1,L ++ [(j:Int)],(true,g2,g3,y.2.2.2.1.take L.length ++ [(j:Int)] ++ sp,k)):Nat×Lq) ⟨⟨by show j+1≤nF F;omega,k2.snoc _ _ _ _ _ sp _ rfl h3 h4 rfl,by show (L ++ [_]).length≤j+1;rw [zu];show L.length+1≤j+1;omega,fun z hz => ?_⟩,by show nF F - (j+1)<nF F - j;omega,?_⟩
     · rcases List.mem_append.1 hz with hz | hz
       · exact k4 z hz
       · rw [List.mem_singleton.1 hz];omega
     ((conv=>arg 1;reduce);with_reducible repeat' first | exact ty | refine ta ?_ ?_ | refine ti fun _ => ?_ | refine tf fun _ => ?_ | refine tl ?_)
     all_goals first | exact vlf | (show L.length+1=(L ++ [(j:Int)]).length;rw [zu];rfl) | (show (L ++ [(j:Int)]).length=L.length+1;rw [zu];rfl)))
 all_goals try (
  rename_i b0 w hw dw x hx d dz
  change Nat×Lq at x
  obtain ⟨j,L,y⟩:=x
  obtain ⟨k1,k2,k3,k4⟩:j≤nF F∧Oqw L y∧L.length≤j∧Rng L (nF F):=hx
  rw [eM] at d
  have d:(j:Int)<(nF F:Int):=ng d
  first
  | exact inR64 (n:=(j:Int)+1) (by omega) (by omega)
  | (refine Stands.one ((j+1,L,y):Nat×Lq) ⟨⟨by show j+1≤nF F;omega,k2,by show L.length≤j+1;omega,k4⟩,by show nF F - (j+1)<nF F - j;omega,?_⟩
     exact vgo))
 all_goals try (
  rename_i b0 w hw dw x hx d
  change Nat×Lq at x
  obtain ⟨j,L,y⟩:=x
  obtain ⟨k1,k2,k3,k4⟩:j≤nF F∧Oqw L y∧L.length≤j∧Rng L (nF F):=hx
  refine Ends.one ((L,y):Lq) ⟨k2,by show L.length≤nF F;omega,k4⟩ ?_
  exact vgo)
def fcRcoset:Fc Tryz.prog C0 where
 tg:=.fn 109
 X:=Int
 args i:=[.int .i64 (F.m:Int),.int .i64 i]
 mem _:=[]
 pre i := -1000000000<i∧i<1000000000
 alts i:=[⟨Lq,fun y=>Oqw y.1 y.2∧y.1.length≤nF F∧Rng y.1 (nF F),fun y=>.sl 0 0 y.1.length y.2.2.2.2.2,fun y=>[oqC true y.2]⟩]
 mat vs m:=match vs with
  | [_,.int _ i]=>some (i,[])
  | _=>none
 ok i h:=rcoset_ok F i h.1 h.2
def Le10 (t:Nat):Inv' C0:=⟨10,Nat×Oq,fun x=>[(11,.int .i64 (2*(x.1:Int)+1)),(9,.int .i64 ((lsO (nF F) x.1).2.2:Int)),(10,.sl 1 0 (lsO (nF F) x.1).2.1.length x.2.2.2.2.2)],fun x m=>match m with
 | s :: _=>[⟨s.block,s.base,1,true,none,.rows 4 (lsO (nF F) x.1).1⟩,oqC true x.2]
 | m=>m,fun x=>x.1≤t∧Oqw (lsO (nF F) x.1).2.1 x.2,fun x=>t - x.1⟩
def Le15 (t:Nat):Inv' C0:=⟨15,Nat×List Bool×Nat×Nat,fun x=>[(11,.int .i64 (2*(x.1:Int)+1)),(12,.int .i64 (x.2.2.1:Int)),(9,.int .i64 (x.2.2.2:Int))],fun x m=>match m with
 | s :: m=>⟨s.block,s.base,1,true,none,.rows 4 x.2.1⟩ :: m
 | m=>m,fun x=>x.1<t∧x.2.1.length=nF F∧x.2.2.1<nF F∧LsAt (nF F) x.2.2.1 x.2.1 x.2.2.2 (lsI (nF F) (nF F+1) ((2*x.1+1) % nF F) (lsO (nF F) x.1).1 (lsO (nF F) x.1).2.2),fun x=>cfB x.2.1⟩
set_option maxHeartbeats 4000000 in
theorem rleast_ok (t:Nat) (t1:1≤t) (t40:t≤40) (hD:(lsO (nF F) t).2.2<nF F):
 Does (C:=C0) Tryz.prog (.fn 55) [] [.int .i64 (F.m:Int),.int .i64 (t:Int)]
  [⟨Oq,fun y=>Oqw (lsO (nF F) t).2.1 y,fun y=>.tup [.int .i64 ((lsO (nF F) t).2.2:Int),.sl 0 0 (lsO (nF F) t).2.1.length y.2.2.2.2,.int .i64 0],fun y=>[oqC true y]⟩]:=by
 obtain ⟨hs,h7,hh⟩:=nF_sz F
 have es:=shl_sz F
 have e1:(szF F:Int) - 1=(nF F:Int):=by omega
 have hb4:(Tryz.prog.types[4].bytes:Int)=1:=by kernel_rfl
 have hby:Tryz.prog.types[3].bytes=8:=by kernel_rfl
 have m3:=F.m3
 have m14:=F.m14
 have eM:ishl .i64 1 (IntKind.u64.wrap (F.m:Int)) - 1=(nF F:Int):=by rw [wm,es,e1]
 refine loc_fn (P:=Tryz.prog) (E:=⟨[],[],67,[],[],[],none⟩) (L:=[Le10 F t,Le15 F t]) mix Tryz.func55 rfl (by kernel_rfl) (by kernel_rfl) rfl rfl ?_
 ((conv=>arg 1;reduce);with_reducible repeat' first | exact ty | refine ta ?_ ?_ | refine ti fun _ => ?_ | refine tf fun _ => ?_ | refine tl ?_)
 all_goals try exact vlf
 · exfalso
   rename_i d
   simp only [xw,decide_eq_true_eq,SB.val] at d
   omega
 · exfalso
   rename_i d0 d
   simp only [xw,decide_eq_true_eq,SB.val] at d
   omega
 all_goals try first
  | (rw [wm];omega)
  | (rw [eM];exact inR64 (by omega) (by omega))
  | (rw [eM];omega)
  | (rw [eM,hb4];omega)
 · refine Stands.one ((0,(false,0,0,[],0)):Nat×Oq) ⟨⟨ze _,by rw [lsO_zero];exact Oqw.none⟩,?_⟩
   ((conv=>arg 1;reduce);with_reducible repeat' first | exact ty | refine ta ?_ ?_ | refine ti fun _ => ?_ | refine tf fun _ => ?_ | refine tl ?_)
   all_goals first
    | exact vlf
    | (show (lsO (nF F) 0).1=_;rw [eM,lsO_zero];rfl)
    | (show _=(lsO (nF F) 0).1;rw [eM,lsO_zero];rfl)
    | (show _=(((lsO (nF F) 0).2.2:Nat):Int);rw [lsO_zero];rfl)
    | (show (0:Nat)=(lsO (nF F) 0).2.1.length;rw [lsO_zero];rfl)
    | (show (lsO (nF F) 0).2.1.length=0;rw [lsO_zero];rfl)
 all_goals try (
  rename_i d0 d1 b0 x hx d
  change Nat×Oq at x
  obtain ⟨j,y⟩:=x
  obtain ⟨k1,k2⟩:j≤t∧Oqw (lsO (nF F) j).2.1 y:=hx
  have e2:(2*(j:Int)+1).tmod (nF F:Int)=(((2*j+1) % nF F:Nat):Int):=(zb (2*j+1) (nF F)).symm
  have e3:=zc (2*j+1) (show 0<nF F by omega)
  have e4:=(lsO_facts (nF F) j).1
  rw [eM]
  first
  | (show (nF F:Int)≠0;omega)
  | (show 0≤(2*(j:Int)+1).tmod (nF F:Int);rw [e2];omega)
  | (show (2*(j:Int)+1).tmod (nF F:Int)<((nF F:Int).toNat:Int);rw [e2];omega)
  | (show ((2*(j:Int)+1).tmod (nF F:Int)).toNat+0<(lsO (nF F) j).1.length;rw [e2];omega))
 all_goals try (
  rename_i d0 d1 b0 x hx d dz
  change Nat×Oq at x
  obtain ⟨j,y⟩:=x
  obtain ⟨k1,k2⟩:j≤t∧Oqw (lsO (nF F) j).2.1 y:=hx
  have d:2*(j:Int)+1<2*(t:Int):=ng d
  have e2:(2*(j:Int)+1).tmod (nF F:Int)=(((2*j+1) % nF F:Nat):Int):=(zb (2*j+1) (nF F)).symm
  have dz:(lsO (nF F) j).1.getD (((2*(j:Int)+1).tmod (ishl .i64 1 (IntKind.u64.wrap (F.m:Int)) - 1)).toNat+0) false=true:=dz
  first
  | exact inR64 (n:=2*(j:Int)+1+2) (by omega) (by omega)
  | (rw [eM,e2,show (((2*j+1) % nF F:Nat):Int).toNat+0=(2*j+1) % nF F by omega] at dz
     have eL:lsO (nF F) (j+1)=lsO (nF F) j:=by
      rw [lsO_succ,if_pos]
      rw [zy] at dz ⊢
      cases h:(lsO (nF F) j).1[(2*j+1) % nF F]? with
      | none=>rfl
      | some v=>rw [h] at dz;exact dz
     refine Stands.one ((j+1,y):Nat×Oq) ⟨⟨by show j+1≤t;omega,by show Oqw (lsO (nF F) (j+1)).2.1 y;rw [eL];exact k2⟩,by show t - (j+1)<t - j;omega,?_⟩
     ((conv=>arg 1;reduce);with_reducible repeat' first | exact ty | refine ta ?_ ?_ | refine ti fun _ => ?_ | refine tf fun _ => ?_ | refine tl ?_)
     all_goals first
      | exact vlf
      | (show 2*(j:Int)+1+2=2*((j+1:Nat):Int)+1;omega)
      | (show (lsO (nF F) (j+1)).1=(lsO (nF F) j).1;rw [eL])
      | (show ((lsO (nF F) j).2.2:Int)=((lsO (nF F) (j+1)).2.2:Int);rw [eL])
      | (show (lsO (nF F) j).2.1.length=(lsO (nF F) (j+1)).2.1.length;rw [eL])
      | (show (lsO (nF F) (j+1)).2.1.length=(lsO (nF F) j).2.1.length;rw [eL])))
 all_goals try (
  rename_i d0 d1 b0 x hx d dz b1
  change Nat×Oq at x
  obtain ⟨j,y⟩:=x
  obtain ⟨k1,k2⟩:j≤t∧Oqw (lsO (nF F) j).2.1 y:=hx
  have c1:=k2.cap
  have c2:=k2.len
  have c3:=(lsO_facts (nF F) j).2.2.1
  first
  | (rw [hby];exact ⟨c1,by show 0+y.2.2.2.2≤y.2.2.2.1.length;omega,zx _,by show ((lsO (nF F) j).2.1.length+1)*8≤_;omega⟩)
  | exact k2.nil)
 · rename_i d0 d1 b0 x hx d dz g1 g2 g3 sp k h3 h4
   change Nat×Oq at x
   obtain ⟨j,y⟩:=x
   have d:2*(j:Int)+1<2*(t:Int):=ng d
   have e2:(2*(j:Int)+1).tmod (nF F:Int)=(((2*j+1) % nF F:Nat):Int):=(zb (2*j+1) (nF F)).symm
   have e4:=(lsO_facts (nF F) j).1
   refine Stands.one ((j,(lsO (nF F) j).1,(2*j+1) % nF F,(lsO (nF F) j).2.2):Nat×List Bool×Nat×Nat) ⟨⟨by show j<t;omega,e4,zc _ (by omega),nF F+1,by have:=cfB_le (lsO (nF F) j).1;show cfB (lsO (nF F) j).1≤_;omega,rfl⟩,?_⟩
   ((conv=>arg 1;reduce);with_reducible repeat' first | exact ty | refine ta ?_ ?_ | refine ti fun _ => ?_ | refine tf fun _ => ?_ | refine tl ?_)
   all_goals first | exact vlf | (rw [eM];exact e2) | (rw [eM];exact e2.symm)
 all_goals try (
  rename_i d0 d1 b0 x hx d dz g1 g2 g3 sp k h3 h4 z hz e
  change Nat×List Bool×Nat×Nat at z
  obtain ⟨j,S,u,v⟩:=z
  obtain ⟨k1,k2,k3,k4⟩:j<t∧S.length=nF F∧u<nF F∧_:=hz
  first
  | (rw [eM];show (u:Int)<((nF F:Int).toNat:Int);omega)
  | (show (u:Int).toNat+0<S.length;omega))
 all_goals try (
  rename_i d0 d1 b0 x hx d dz g1 g2 g3 sp k h3 h4 z hz e dn
  change Nat×List Bool×Nat×Nat at z
  obtain ⟨j,S,u,v⟩:=z
  obtain ⟨k1,k2,k3,k4⟩:j<t∧S.length=nF F∧u<nF F∧LsAt (nF F) u S v (lsI (nF F) (nF F+1) ((2*j+1) % nF F) (lsO (nF F) j).1 (lsO (nF F) j).2.2):=hz
  have dn:(!S.getD ((u:Int).toNat+0) false)=true:=dn
  rw [show (u:Int).toNat+0=u by omega,yp] at dn
  have dn':S.getD u true=false:=by
   rw [zy,zt (by omega)] at dn ⊢;exact dn
  first
  | (rw [eM];show (u:Int)<((nF F:Int).toNat:Int);omega)
  | (show (u:Int).toNat+0<S.length;omega)
  | (have hv:=k4.le (by omega)
     exact inR64 (n:=(v:Int)+1) (by omega) (by
      have h5:=(lsI_len (nF F) (nF F+1) ((2*j+1) % nF F) (lsO (nF F) j).1 (lsO (nF F) j).2.2).2
      have h6:=(lsO_facts (nF F) j).2.1
      have h7:j*(nF F+1)≤40*(nF F+1):=Nat.mul_le_mul_right _ (by omega)
      omega))
  | exact inR64 (n:=2*(u:Int)) (by omega) (by omega)
  | (rw [eM];show (nF F:Int)≠0;omega)
  | (have hc:=cfB_set S u (by omega) dn'
     have e2:(2*(u:Int)).tmod (nF F:Int)=((2*u % nF F:Nat):Int):=(zb (2*u) (nF F)).symm
     refine Stands.one ((j,S.set u true,2*u % nF F,v+1):Nat×List Bool×Nat×Nat) ⟨⟨k1,by show (S.set u true).length=_;rw [zg];exact k2,zc _ (by omega),k4.next (by omega) dn'⟩,by show cfB (S.set u true)<cfB S;omega,?_⟩
     ((conv=>arg 1;reduce);with_reducible repeat' first | exact ty | refine ta ?_ ?_ | refine ti fun _ => ?_ | refine tf fun _ => ?_ | refine tl ?_)
     all_goals first | exact vlf | (rw [eM];exact e2) | (rw [eM];exact e2.symm)))
 iterate 2 (focus
  rename_i d0 d1 b0 x hx d dz g1 g2 g3 sp k h3 h4 z hz e dn
  change Nat×Oq at x
  change List Int at sp
  change Nat×List Bool×Nat×Nat at z
  obtain ⟨i,y⟩:=x
  obtain ⟨x1,x2⟩:i≤t∧Oqw (lsO (nF F) i).2.1 y:=hx
  obtain ⟨j,S,u,v⟩:=z
  obtain ⟨k1,k2,k3,k4⟩:j<t∧S.length=nF F∧u<nF F∧LsAt (nF F) u S v (lsI (nF F) (nF F+1) ((2*j+1) % nF F) (lsO (nF F) j).1 (lsO (nF F) j).2.2):=hz
  have e:2*(i:Int)+1=2*(j:Int)+1:=e
  obtain rfl:i=j:=by omega
  have h3:(lsO (nF F) i).2.1.length+1≤k:=h3
  have h4:k≤(lsO (nF F) i).2.1.length+1+sp.length:=h4
  first
  | exact inR64 (n:=2*(i:Int)+1+2) (by omega) (by omega)
  | (have dn:(!S.getD ((u:Int).toNat+0) false)=false:=dn
     rw [show (u:Int).toNat+0=u by omega,ru] at dn
     have dn':S.getD u true=true:=by
      rw [zy,zt (by omega)] at dn ⊢;exact dn
     have e2:(2*(i:Int)+1).tmod (nF F:Int)=(((2*i+1) % nF F:Nat):Int):=(zb (2*i+1) (nF F)).symm
     have dz:(lsO (nF F) i).1.getD (((2*(i:Int)+1).tmod (ishl .i64 1 (IntKind.u64.wrap (F.m:Int)) - 1)).toNat+0) false=false:=dz
     rw [eM,e2,show (((2*i+1) % nF F:Nat):Int).toNat+0=(2*i+1) % nF F by omega] at dz
     have eR:=k4.stop dn'
     have eL:lsO (nF F) (i+1)=(S,(lsO (nF F) i).2.1 ++ [2*(i:Int)+1],v):=by
      rw [lsO_succ,if_neg,eR]
      have e4:=(lsO_facts (nF F) i).1
      have e3:=zc (2*i+1) (show 0<nF F by omega)
      rw [zy,zt (by omega)] at dz ⊢
      rw [show (lsO (nF F) i).1[(2*i+1) % nF F]=false from dz]
      exact vf
     refine Stands.one ((i+1,(true,g2,g3,y.2.2.2.1.take (lsO (nF F) i).2.1.length ++ [2*(i:Int)+1] ++ sp,k)):Nat×Oq) ⟨⟨by show i+1≤t;omega,by show Oqw (lsO (nF F) (i+1)).2.1 _;rw [eL];exact x2.snoc _ _ _ _ _ sp _ rfl h3 h4 rfl⟩,by show t - (i+1)<t - i;omega,?_⟩
     ((conv=>arg 1;reduce);with_reducible repeat' first | exact ty | refine ta ?_ ?_ | refine ti fun _ => ?_ | refine tf fun _ => ?_ | refine tl ?_)
     all_goals first
      | exact vlf
      | (show 2*(i:Int)+1+2=2*((i+1:Nat):Int)+1;omega)
      | (show (lsO (nF F) (i+1)).1=S;rw [eL])
      | (show (v:Int)=((lsO (nF F) (i+1)).2.2:Int);rw [eL])
      | (show (lsO (nF F) i).2.1.length+1=(lsO (nF F) (i+1)).2.1.length;rw [eL];show _=((lsO (nF F) i).2.1 ++ [2*(i:Int)+1]).length;rw [zu];rfl)
      | (show (lsO (nF F) (i+1)).2.1.length=(lsO (nF F) i).2.1.length+1;rw [eL];show ((lsO (nF F) i).2.1 ++ [2*(i:Int)+1]).length=_;rw [zu];rfl)))
 all_goals try (
  rename_i d0 d1 b0 x hx d dn
  change Nat×Oq at x
  obtain ⟨j,y⟩:=x
  obtain ⟨k1,k2⟩:j≤t∧Oqw (lsO (nF F) j).2.1 y:=hx
  have d:¬ 2*(j:Int)+1<2*(t:Int):=nf d
  obtain rfl:j=t:=by omega
  rw [eM] at dn
  simp only [decide_eq_true_eq,decide_eq_false_iff_not] at dn
  first
  | (exfalso;omega)
  | (refine Ends.one (y:Oq) k2 ?_
     exact vgo))
def fcRleast:Fc Tryz.prog C0 where
 tg:=.fn 55
 X:=Nat
 args t:=[.int .i64 (F.m:Int),.int .i64 (t:Int)]
 mem _:=[]
 pre t:=1≤t∧t≤40∧(lsO (nF F) t).2.2<nF F
 alts t:=[⟨Oq,fun y=>Oqw (lsO (nF F) t).2.1 y,fun y=>.tup [.int .i64 ((lsO (nF F) t).2.2:Int),.sl 0 0 (lsO (nF F) t).2.1.length y.2.2.2.2,.int .i64 0],fun y=>[oqC true y]⟩]
 mat vs m:=match vs with
  | [_,.int _ (t:Nat)]=>some (t,[])
  | _=>none
 ok t h:=rleast_ok F t h.1 h.2.1 h.2.2
end
end
end Go.Vx
namespace Go.Vx
open Go Go.Proofs
noncomputable section
variable [Gl]
abbrev obC (wr:Bool) (y:Oq):Ck C0:=⟨y.2.1,y.2.2.1,1,wr,some y.1,.rows 5 y.2.2.2.1⟩
theorem rbit_ok (o:Bool) (b q:Nat) (l:List Int) (i n c:Nat) (h:i+n≤l.length) (hn:n<1000000000) (ho:o=false→n=0∧c=0) (z:Nat) (hz:z<10000000000) (P:List Int) (hP:(l.drop i).take n=P) (kP:Byt8 P):
 Tells (C:=C0) Tryz.prog (.fn 74) [⟨b,q,1,false,some o,.rows 5 l⟩] [.sl 0 i n c,.int .i64 (z:Int)] (.int .i64 ((bt P z).toNat:Int)):=by
 have e1:(z:Int).tdiv 8=((z / 8:Nat):Int):=(ym z 8).symm
 have e2:(z:Int).tmod 8=((z % 8:Nat):Int):=(zb z 8).symm
 refine loc_pc (P:=Tryz.prog) (E:=⟨[],[],25,[],[],[],none⟩) (L:=[]) mix Tryz.func74 rfl (by kernel_rfl) (by kernel_rfl) rfl rfl ?_
 ((conv=>arg 1;reduce);with_reducible repeat' first | exact ty | refine ta ?_ ?_ | refine ti fun _ => ?_ | refine tf fun _ => ?_ | refine tl ?_)
 all_goals try exact vlf
 all_goals (
  rename_i d
  simp only [xw,xd,decide_eq_true_eq,decide_eq_false_iff_not,SB.val,e1] at d)
 · rw [bt_out (by rw [← hP,row_len h];omega)];rfl
 all_goals have wz:IntKind.u64.wrap ((z:Int).tmod 8)=((z % 8:Nat):Int):=by rw [e2];exact wu (by omega)
 all_goals first
  | exact on_of ho (by omega)
  | (show (z:Int).tdiv 8<(n:Int);rw [e1];omega)
  | (show ((z:Int).tdiv 8).toNat+i<l.length;rw [e1];omega)
  | (rw [wz];omega)
  | (have hx:0≤P.getD (z / 8) 0∧P.getD (z / 8) 0<256:=by
      rw [zy,zt (by rw [← hP,row_len h];omega),xy]
      exact kP _ (xi _)
     obtain ⟨x,hx2⟩:=yh hx.1
     have h3:x / 2 ^ (z % 8)≤x:=Nat.div_le_self _ _
     have eG:l.getD (((z:Int).tdiv 8).toNat+i) 0=(x:Int):=by
      rw [e1,zo,row_at (n:=n) (z / 8) (by omega),hP,hx2]
     have eS:ishr .u8 (l.getD (((z:Int).tdiv 8).toNat+i) 0) (IntKind.u64.wrap ((z:Int).tmod 8))=((x / 2 ^ (z % 8):Nat):Int):=by
      rw [eG,wz,shr8 .u8 x (z % 8) (show z % 8≤8 by omega)]
     have hx3:x<256:=by omega
     first
     | (show inR .i64 (ishr .u8 (l.getD (((z:Int).tdiv 8).toNat+i) 0) (IntKind.u64.wrap ((z:Int).tmod 8)))
        rw [eS]
        generalize x / 2 ^ (z % 8)=u at h3
        exact inR64 (n:=(u:Int)) (by omega) (by omega))
     | (show ibit .and .i64 (ishr .u8 (l.getD (((z:Int).tdiv 8).toNat+i) 0) (IntKind.u64.wrap ((z:Int).tmod 8))) 1=((bt P z).toNat:Int)
        rw [eS,odd64 (by omega)]
        have eB:bt P z=x.testBit (z % 8):=by unfold bt;rw [hx2];rfl
        rw [eB,Nat.testBit_eq_decide_div_mod_eq]
        by_cases h9:x / 2 ^ (z % 8) % 2=1
        · rw [decide_eq_true h9,h9];rfl
        · rw [decide_eq_false h9,show x / 2 ^ (z % 8) % 2=0 by omega];rfl))
def pcRbit:Pc Tryz.prog C0 where
 tg:=.fn 74
 X:=Sl3×Int
 args:=fun ((o,b,q,l,i,n,c),z)=>[.sl 0 i n c,.int .i64 z]
 mem:=fun ((o,b,q,l,i,n,c),z)=>[⟨b,q,1,false,some o,.rows 5 l⟩]
 pre:=fun (s,z)=>Sl3.pre s∧(0≤z∧z<10000000000)∧Byt8 ((s.2.2.2.1.drop s.2.2.2.2.1).take s.2.2.2.2.2.1)
 res:=fun ((o,b,q,l,i,n,c),z)=>.int .i64 ((bt ((l.drop i).take n) z.toNat).toNat:Int)
 mat vs m:=match vs with
  | [.sl s i n c,.int _ z]=>match nth m s with
    | ⟨b,q,_,_,g,.rows 5 l⟩=>some (((onOf g,b,q,l,i,n,c),z),[s])
    | _=>none
  | _=>none
 ok:=fun ((o,b,q,l,i,n,c),z) h=>by
  obtain ⟨z,rfl⟩:=yh h.2.1.1
  exact rbit_ok o b q l i n c h.1.1 h.1.2.1 h.1.2.2 z (Int.ofNat_lt.1 h.2.1.2) _ rfl h.2.2
def Gd2 (n:Nat):Inv' C0:=⟨2,Nat,fun x=>[(3,.int .i64 ((x:Int) - 1))],fun _ m=>m,fun x=>x≤8*n,fun x=>x⟩
theorem rdeg_ok (o:Bool) (b q:Nat) (l:List Int) (i n c:Nat) (h:i+n≤l.length) (hn:n<1000000000) (ho:o=false→n=0∧c=0) (kP:Byt8 ((l.drop i).take n)):
 Does (C:=C0) Tryz.prog (.fn 107) [⟨b,q,1,false,some o,.rows 5 l⟩] [.sl 0 i n c]
  [⟨Nat,fun d=>d≤8*n,fun d=>.int .i64 ((d:Int) - 1),fun _=>[⟨b,q,1,false,some o,.rows 5 l⟩]⟩]:=by
 refine loc_fn (P:=Tryz.prog) (E:=⟨[],[pcRbit],17,[],[],[],none⟩) (L:=[Gd2 n]) mix Tryz.func107 rfl (by kernel_rfl) (by kernel_rfl) rfl rfl ?_
 ((conv=>arg 1;reduce);with_reducible repeat' first | exact ty | refine ta ?_ ?_ | refine ti fun _ => ?_ | refine tf fun _ => ?_ | refine tl ?_)
 all_goals try exact vlf
 · refine Stands.one (8*n:Nat) ⟨zx _,?_⟩
   ((conv=>arg 1;reduce);with_reducible repeat' first | exact ty | refine ta ?_ ?_ | refine ti fun _ => ?_ | refine tf fun _ => ?_ | refine tl ?_)
   all_goals first | exact vlf | (show 8*(n:Int) - 1=((8*n:Nat):Int) - 1;omega)
 · rename_i x hx d
   change Nat at x
   have hx:x≤8*n:=hx
   have d:0≤(x:Int) - 1:=ng d
   exact ⟨⟨h,hn,ho⟩,⟨d,by show (x:Int) - 1<_;omega⟩,kP⟩
 · rename_i x hx d d2
   change Nat at x
   refine Ends.one (x:Nat) hx ?_
   exact vgo
 iterate 2 (focus
  rename_i x hx d d2
  change Nat at x
  have hx:x≤8*n:=hx
  have d:0≤(x:Int) - 1:=ng d
  first
  | exact inR64 (n:=(x:Int) - 1 - 1) (by omega) (by omega)
  | (refine Stands.one (x - 1:Nat) ⟨by show x - 1≤8*n;omega,by show x - 1<x;omega,?_⟩
     ((conv=>arg 1;reduce);with_reducible repeat' first | exact ty | refine ta ?_ ?_ | refine ti fun _ => ?_ | refine tf fun _ => ?_ | refine tl ?_)
     all_goals first | exact vlf | (show (x:Int) - 1 - 1=((x - 1:Nat):Int) - 1;omega)))
 · rename_i x hx d
   change Nat at x
   have d:¬ 0≤(x:Int) - 1:=nf d
   refine Ends.one (0:Nat) (ze _) ?_
   ((conv=>arg 1;reduce);with_reducible repeat' first | exact ty | refine ta ?_ ?_ | refine ti fun _ => ?_ | refine tf fun _ => ?_ | refine tl ?_)
   all_goals first | exact vlf | rfl
def fcRdeg:Fc Tryz.prog C0 where
 tg:=.fn 107
 X:=Sl3
 args:=fun (o,b,q,l,i,n,c)=>[.sl 0 i n c]
 mem:=fun (o,b,q,l,i,n,c)=>[⟨b,q,1,false,some o,.rows 5 l⟩]
 pre:=fun s=>Sl3.pre s∧Byt8 ((s.2.2.2.1.drop s.2.2.2.2.1).take s.2.2.2.2.2.1)
 alts:=fun (o,b,q,l,i,n,c)=>[⟨Nat,fun d=>d≤8*n,fun d=>.int .i64 ((d:Int) - 1),fun _=>[⟨b,q,1,false,some o,.rows 5 l⟩]⟩]
 mat vs m:=match vs with
  | [.sl s i n c]=>match nth m s with
    | ⟨b,q,_,_,g,.rows 5 l⟩=>some ((onOf g,b,q,l,i,n,c),[s])
    | _=>none
  | _=>none
 ok:=fun (o,b,q,l,i,n,c) h=>rdeg_ok o b q l i n c h.1.1 h.1.2.1 h.1.2.2 h.2
theorem wrap8_byt (n:Int):0≤IntKind.u8.wrap n∧IntKind.u8.wrap n<256:=by
 unfold IntKind.wrap
 simp [IntKind.bits,IntKind.signed]
 omega
theorem or8_byt (a b:Int):0≤ibit .or .u8 a b∧ibit .or .u8 a b<256:=by rw [ibit_or];exact wrap8_byt _
theorem Oqw.put {L:List Int} {y:Oq} (h:Oqw L y) {i:Nat} (hi:i<L.length) (v:Int):Oqw (L.set i v) (y.1,y.2.1,y.2.2.1,y.2.2.2.1.set i v,y.2.2.2.2):=by
 refine ⟨?_,by show (L.set i v).length≤_;rw [zg];exact h.cap,by show _≤(y.2.2.2.1.set i v).length;rw [zg];exact h.len,fun h0 => ?_⟩
 · show (y.2.2.2.1.set i v).take (L.set i v).length=L.set i v
   rw [zg,List.take_set,h.eq]
 · have:=(h.nil h0).1;omega
def Bi3 (n:Nat):Inv' C0:=⟨3,Nat×Lq,fun x=>[(4,.int .i64 (x.1:Int)),(3,.sl 1 0 x.2.1.length x.2.2.2.2.2.2)],fun x m=>match m with
 | p :: _=>[p,obC true x.2.2]
 | m=>m,fun x=>x.1≤n∧Oqw x.2.1 x.2.2∧Byt8 x.2.1∧8*x.2.1.length≤x.1+7,fun x=>n - x.1⟩
def Bi6 (n:Nat):Inv' C0:=⟨6,Nat×Lq,fun x=>[(4,.int .i64 (x.1:Int)),(3,.sl 1 0 x.2.1.length x.2.2.2.2.2.2)],fun x m=>match m with
 | p :: _=>[p,obC true x.2.2]
 | m=>m,fun x=>x.1<n∧Oqw x.2.1 x.2.2∧Byt8 x.2.1∧x.2.1.length≤x.1 / 8+1,fun x=>x.1 / 8+1 - x.2.1.length⟩
set_option maxHeartbeats 4000000 in
theorem rbits_ok (o:Bool) (b q:Nat) (l:List Int) (i n c:Nat) (h:i+n≤l.length) (hn:n<1000000000) (ho:o=false→n=0∧c=0):
 Does (C:=C0) Tryz.prog (.fn 108) [⟨b,q,1,false,some o,.rows 3 l⟩] [.sl 0 i n c]
  [⟨Lq,fun y=>Oqw y.1 y.2∧Byt8 y.1∧8*y.1.length≤n+7,fun y=>.sl 1 0 y.1.length y.2.2.2.2.2,fun y=>[⟨b,q,1,false,some o,.rows 3 l⟩,obC true y.2]⟩]:=by
 have hby:Tryz.prog.types[5].bytes=1:=by kernel_rfl
 refine loc_fn (P:=Tryz.prog) (E:=⟨[],[],39,[],[],[],none⟩) (L:=[Bi3 n,Bi6 n]) mix Tryz.func108 rfl (by kernel_rfl) (by kernel_rfl) rfl rfl ?_
 ((conv=>arg 1;reduce);with_reducible repeat' first | exact ty | refine ta ?_ ?_ | refine ti fun _ => ?_ | refine tf fun _ => ?_ | refine tl ?_)
 all_goals try exact vlf
 · refine Stands.one ((0,[],(false,0,0,[],0)):Nat×Lq) ⟨⟨ze _,Oqw.none,(fun x hx=>nomatch hx),by decide⟩,?_⟩
   exact vgo
 iterate 4 (focus
  rename_i x hx d
  change Nat×Lq at x
  obtain ⟨j,L,y⟩:=x
  have d:(j:Int)<(n:Int):=ng d
  first
  | exact on_of ho (by omega)
  | exact d
  | (show (j:Int).toNat+i<l.length;omega))
 iterate 2 (focus
  rename_i x hx d d2
  change Nat×Lq at x
  obtain ⟨j,L,y⟩:=x
  obtain ⟨k1,k2,k3,k4⟩:j≤n∧Oqw L y∧Byt8 L∧8*L.length≤j+7:=hx
  have d:(j:Int)<(n:Int):=ng d
  first
  | exact inR64 (n:=(j:Int)+1) (by omega) (by omega)
  | (refine Stands.one ((j+1,L,y):Nat×Lq) ⟨⟨by show j+1≤n;omega,k2,k3,by show 8*L.length≤j+1+7;omega⟩,by show n - (j+1)<n - j;omega,?_⟩
     exact vgo))
 · rename_i x hx d d2
   change Nat×Lq at x
   obtain ⟨j,L,y⟩:=x
   obtain ⟨k1,k2,k3,k4⟩:j≤n∧Oqw L y∧Byt8 L∧8*L.length≤j+7:=hx
   have d:(j:Int)<(n:Int):=ng d
   refine Stands.one ((j,L,y):Nat×Lq) ⟨⟨by show j<n;omega,k2,k3,by show L.length≤j / 8+1;omega⟩,?_⟩
   exact vgo
 all_goals have q8:∀ j:Nat,(j:Int).tdiv 8=((j / 8:Nat):Int):=fun j=>(ym j 8).symm
 all_goals have m8:∀ j:Nat,(j:Int).tmod 8=((j % 8:Nat):Int):=fun j=>(zb j 8).symm
 · rename_i w hw dw dw2 x hx e
   change Nat×Lq at x
   obtain ⟨j,L,y⟩:=x
   have j1:j<n:=hx.1
   show inR .i64 ((j:Int).tdiv 8)
   rw [q8];exact inR64 (n:=((j / 8:Nat):Int)) (by omega) (by omega)
 iterate 2 (focus
  rename_i w hw dw dw2 x hx e d b1
  change Nat×Lq at x
  obtain ⟨j,L,y⟩:=x
  obtain ⟨k1,k2,k3,k4⟩:j<n∧Oqw L y∧Byt8 L∧L.length≤j / 8+1:=hx
  have c1:=k2.cap
  have c2:=k2.len
  first
  | (rw [hby];exact ⟨c1,by show 0+y.2.2.2.2≤y.2.2.2.1.length;omega,zx _,by show (L.length+1)*1≤_;omega⟩)
  | exact k2.nil)
 · rename_i w hw dw dw2 x hx e d g1 g2 g3 sp k h3 h4
   change Nat×Lq at x
   change List Int at sp
   obtain ⟨j,L,y⟩:=x
   obtain ⟨k1,k2,k3,k4⟩:j<n∧Oqw L y∧Byt8 L∧L.length≤j / 8+1:=hx
   have d:(L.length:Int)≤(j:Int).tdiv 8:=ng d
   rw [q8] at d
   have h3:L.length+1≤k:=h3
   have h4:k≤L.length+1+sp.length:=h4
   refine Stands.one ((j,L ++ [0],(true,g2,g3,y.2.2.2.1.take L.length ++ [0] ++ sp,k)):Nat×Lq) ⟨⟨k1,k2.snoc _ _ _ _ _ sp _ rfl h3 h4 rfl,fun z hz => ?_,by show (L ++ [0]).length≤_;rw [zu];show L.length+1≤j / 8+1;omega⟩,by show j / 8+1 - (L ++ [0]).length<j / 8+1 - L.length;rw [zu];show j / 8+1 - (L.length+1)<_;omega,?_⟩
   · rcases List.mem_append.1 hz with hz | hz
     · exact k3 z hz
     · rw [List.mem_singleton.1 hz];decide
   ((conv=>arg 1;reduce);with_reducible repeat' first | exact ty | refine ta ?_ ?_ | refine ti fun _ => ?_ | refine tf fun _ => ?_ | refine tl ?_)
   all_goals first | exact vlf | (show L.length+1=(L ++ [(0:Int)]).length;rw [zu];rfl) | (show (L ++ [(0:Int)]).length=L.length+1;rw [zu];rfl)
 all_goals try (
  rename_i w hw dw dw2 x hx e d
  change Nat×Lq at w
  change Nat×Lq at x
  obtain ⟨j,L,y⟩:=x
  obtain ⟨k1,k2,k3,k4⟩:j<n∧Oqw L y∧Byt8 L∧L.length≤j / 8+1:=hx
  have d:¬ (L.length:Int)≤(j:Int).tdiv 8:=nf d
  rw [q8] at d
  have c1:=k2.cap
  have c2:=k2.len
  have lL:L.length=j / 8+1:=by omega
  first
  | (show inR .i64 ((j:Int).tdiv 8);rw [q8];exact inR64 (n:=((j / 8:Nat):Int)) (by omega) (by omega))
  | exact on_of k2.nil (by omega)
  | (show 0≤(j:Int).tdiv 8;rw [q8];omega)
  | (show (j:Int).tdiv 8<(L.length:Int);rw [q8];omega)
  | (show ((j:Int).tdiv 8).toNat+0<y.2.2.2.1.length;rw [q8];omega)
  | (show 0≤IntKind.u64.wrap ((j:Int).tmod 8);rw [m8,wu (by omega)];omega)
  | exact inR64 (n:=(j:Int)+1) (by omega) (by omega)
  | (refine Stands.one ((j+1,L.set (j / 8) (ibit .or .u8 (y.2.2.2.1.getD (((j:Int).tdiv 8).toNat+0) 0) (ishl .u8 1 (IntKind.u64.wrap ((j:Int).tmod 8)))),(y.1,y.2.1,y.2.2.1,y.2.2.2.1.set (j / 8) (ibit .or .u8 (y.2.2.2.1.getD (((j:Int).tdiv 8).toNat+0) 0) (ishl .u8 1 (IntKind.u64.wrap ((j:Int).tmod 8)))),y.2.2.2.2)):Nat×Lq) ⟨⟨by show j+1≤n;omega,k2.put (by omega) _,byt_set k3 (or8_byt _ _),by show 8*(L.set _ _).length≤_;rw [zg];omega⟩,by have:=e;show n - (j+1)<n - w.1;have e:(w.1:Int)=(j:Int):=e;omega,?_⟩
     ((conv=>arg 1;reduce);with_reducible repeat' first | exact ty | refine ta ?_ ?_ | refine ti fun _ => ?_ | refine tf fun _ => ?_ | refine tl ?_)
     all_goals first
      | exact vlf
      | (show L.length=(L.set (j / 8) _).length;rw [zg])
      | (show (L.set (j / 8) _).length=L.length;rw [zg])
      | (rw [show ((j:Int).tdiv 8).toNat+0=j / 8 by rw [q8];omega];rfl)
      | (have eN:((j:Int).tdiv 8).toNat+0=j / 8:=by rw [q8];omega
         simp only [eN];rfl)))
 · rename_i x hx d
   change Nat×Lq at x
   obtain ⟨j,L,y⟩:=x
   obtain ⟨k1,k2,k3,k4⟩:j≤n∧Oqw L y∧Byt8 L∧8*L.length≤j+7:=hx
   refine Ends.one ((L,y):Lq) ⟨k2,k3,by show 8*L.length≤n+7;omega⟩ ?_
   exact vgo
def fcRbits:Fc Tryz.prog C0 where
 tg:=.fn 108
 X:=Sl3
 args:=fun (o,b,q,l,i,n,c)=>[.sl 0 i n c]
 mem:=fun (o,b,q,l,i,n,c)=>[⟨b,q,1,false,some o,.rows 3 l⟩]
 pre:=Sl3.pre
 alts:=fun (o,b,q,l,i,n,c)=>[⟨Lq,fun y=>Oqw y.1 y.2∧Byt8 y.1∧8*y.1.length≤n+7,fun y=>.sl 1 0 y.1.length y.2.2.2.2.2,fun y=>[⟨b,q,1,false,some o,.rows 3 l⟩,obC true y.2]⟩]
 mat vs m:=match vs with
  | [.sl s i n c]=>match nth m s with
    | ⟨b,q,_,_,g,.rows 3 l⟩=>some ((onOf g,b,q,l,i,n,c),[s])
    | _=>none
  | _=>none
 ok:=fun (o,b,q,l,i,n,c) h=>rbits_ok o b q l i n c h.1 h.2.1 h.2.2
def Rf3 (N:Nat) (P:List Int):Inv' C0:=⟨3,Nat×Nat,fun x=>[(4,.int .i64 (x.1:Int)),(3,.int .i64 (x.2:Int))],fun _ m=>m,fun x=>x.1≤P.length∧x.2<N∧∀ k,k<x.1→P.getD k 0≤(x.2:Int),fun x=>P.length - x.1⟩
def Rf8 (N:Nat) (P:List Int):Inv' C0:=⟨8,Nat×Nat×List Int,fun x=>[(6,.int .i64 (x.1:Int)),(3,.int .i64 (x.2.1:Int))],fun x m=>match m with
 | [p,t]=>[p,⟨t.block,t.base,1,true,none,.rows 3 x.2.2⟩]
 | m=>m,fun x=>x.1≤P.length∧x.2.1<N∧x.2.2.length=x.2.1+1∧∀ k,k<P.length→P.getD k 0≤(x.2.1:Int),fun x=>P.length - x.1⟩
set_option maxHeartbeats 4000000 in
theorem rof_ok (N:Nat) (hN:N<100000000) (h0:0<N) (o:Bool) (b q:Nat) (l:List Int) (i n c:Nat) (h:i+n≤l.length) (hn:n<1000000000) (ho:o=false→n=0∧c=0) (P:List Int) (hP:(l.drop i).take n=P) (hR:Rng P N):
 Does (C:=C0) Tryz.prog (.fn 111) [⟨b,q,1,false,some o,.rows 3 l⟩] [.sl 0 i n c]
  [⟨Lq,fun y=>Oqw y.1 y.2∧Byt8 y.1∧8*y.1.length≤N+7,fun y=>.sl 1 0 y.1.length y.2.2.2.2.2,fun y=>[⟨b,q,1,false,some o,.rows 3 l⟩,obC true y.2]⟩]:=by
 have hby:(Tryz.prog.types[3].bytes:Int)=8:=by kernel_rfl
 have hL:P.length=n:=by rw [← hP];exact row_len h
 have pv:∀ j,j<n→l.getD (j+i) 0=P.getD j 0:=fun j hj=>by rw [row_at j hj,hP]
 have pR:∀ j,j<n→0≤P.getD j 0∧P.getD j 0<(N:Int):=fun j hj=>hR _ (getD_mem (by omega))
 refine loc_fn (P:=Tryz.prog) (E:=⟨[fcRbits],[],44,[(10,[],[.p 0,.p 1,.p 2,.p 3,.p 5,.p 6,.p 7,.p 8,.q 4,.q 9,.p 10,.q 11,.p 12,.p 13,.e 14])],[],[],none⟩) (L:=[Rf3 N P,Rf8 N P]) mix Tryz.func111 rfl (by kernel_rfl) (by kernel_rfl) rfl rfl ?_
 ((conv=>arg 1;reduce);with_reducible repeat' first | exact ty | refine ta ?_ ?_ | refine ti fun _ => ?_ | refine tf fun _ => ?_ | refine tl ?_)
 all_goals try exact vlf
 · refine Stands.one ((0,0):Nat×Nat) ⟨⟨ze _,h0,fun k hk=>absurd hk (wy k)⟩,?_⟩
   exact vgo
 all_goals try (
  rename_i x hx d
  change Nat×Nat at x
  obtain ⟨j,w⟩:=x
  obtain ⟨k1,k2,k3⟩:j≤P.length∧w<N∧∀ k,k<j→P.getD k 0≤(w:Int):=hx
  have d:(j:Int)<(n:Int):=ng d
  have r1:=pR j (by omega)
  have eV:l.getD ((j:Int).toNat+i) 0=P.getD j 0:=pv j (by omega)
  first
  | exact on_of ho (by omega)
  | exact d
  | (show (j:Int).toNat+i<l.length;omega)
  | exact inR64 (n:=(j:Int)+1) (by omega) (by omega)
  | (refine Stands.one ((j+1,(max (w:Int) (P.getD j 0)).toNat):Nat×Nat) ⟨⟨by show j+1≤P.length;omega,by show (max (w:Int) (P.getD j 0)).toNat<N;omega,fun k hk => ?_⟩,by show P.length - (j+1)<P.length - j;omega,?_⟩
     · show P.getD k 0≤((max (w:Int) (P.getD j 0)).toNat:Int)
       have hk:k<j+1:=hk
       by_cases hj:k=j
       · rw [hj];omega
       · have:=k3 k (by omega);omega
     ((conv=>arg 1;reduce);with_reducible repeat' first | exact ty | refine ta ?_ ?_ | refine ti fun _ => ?_ | refine tf fun _ => ?_ | refine tl ?_)
     all_goals first
      | exact vlf
      | (show max (w:Int) (l.getD ((j:Int).toNat+i) 0)=((max (w:Int) (P.getD j 0)).toNat:Int);rw [eV];omega)))
 all_goals try (
  rename_i x hx d
  change Nat×Nat at x
  obtain ⟨j,w⟩:=x
  obtain ⟨k1,k2,k3⟩:j≤P.length∧w<N∧∀ k,k<j→P.getD k 0≤(w:Int):=hx
  have d:¬ (j:Int)<(n:Int):=nf d
  first
  | exact inR64 (n:=(w:Int)+1) (by omega) (by omega)
  | (rw [hby];show 0≤(w:Int)+1∧(w:Int)+1≤(w:Int)+1∧8*((w:Int)+1)≤281474976710656∧(w:Int)+1≤9223372036854775807;omega))
 · rename_i x hx d b0
   change Nat×Nat at x
   obtain ⟨j,w⟩:=x
   obtain ⟨k1,k2,k3⟩:j≤P.length∧w<N∧∀ k,k<j→P.getD k 0≤(w:Int):=hx
   have d:¬ (j:Int)<(n:Int):=nf d
   have ew:((w:Int)+1).toNat=w+1:=by omega
   refine Stands.one ((0,w,zw (w+1) 0):Nat×Nat×List Int) ⟨⟨ze _,k2,ye,fun k hk=>k3 k (by omega)⟩,?_⟩
   ((conv=>arg 1;reduce);with_reducible repeat' first | exact ty | refine ta ?_ ?_ | refine ti fun _ => ?_ | refine tf fun _ => ?_ | refine tl ?_)
   all_goals first | exact vlf | (show zw (w+1) (0:Int)=zw ((w:Int)+1).toNat 0;rw [ew]) | (show zw ((w:Int)+1).toNat (0:Int)=zw (w+1) 0;rw [ew])
 all_goals try (
  rename_i w0 hw d0 b0 x hx e d
  change Nat×Nat at w0
  change Nat×Nat×List Int at x
  obtain ⟨j0,w⟩:=w0
  obtain ⟨j,w',V⟩:=x
  obtain ⟨k1,k2,k3,k4⟩:j≤P.length∧w'<N∧V.length=w'+1∧∀ k,k<P.length→P.getD k 0≤(w':Int):=hx
  have e:(w:Int)=(w':Int):=e
  obtain rfl:w=w':=by omega
  have d:(j:Int)<(n:Int):=ng d
  have r1:=pR j (by omega)
  have r2:=k4 j (by omega)
  have eV:l.getD ((j:Int).toNat+i) 0=P.getD j 0:=pv j (by omega)
  first
  | exact on_of ho (by omega)
  | exact d
  | (show (j:Int).toNat+i<l.length;omega)
  | (show 0≤l.getD ((j:Int).toNat+i) 0;omega)
  | (show l.getD ((j:Int).toNat+i) 0<(((w:Int)+1).toNat:Int);omega)
  | (show (l.getD ((j:Int).toNat+i) 0).toNat+0<V.length;omega)
  | exact inR64 (n:=(j:Int)+1) (by omega) (by omega)
  | (refine Stands.one ((j+1,w,V.set ((l.getD ((j:Int).toNat+i) 0).toNat+0) (ibit .xor .i64 (V.getD ((l.getD ((j:Int).toNat+i) 0).toNat+0) 0) 1)):Nat×Nat×List Int) ⟨⟨by show j+1≤P.length;omega,k2,by show (V.set _ _).length=_;rw [zg];exact k3,k4⟩,by show P.length - (j+1)<P.length - j;omega,?_⟩
     exact vgo))
 · rename_i w0 hw d0 b0 x hx e d
   change Nat×Nat at w0
   change Nat×Nat×List Int at x
   obtain ⟨j0,w⟩:=w0
   obtain ⟨j,w',V⟩:=x
   obtain ⟨k1,k2,k3,k4⟩:j≤P.length∧w'<N∧V.length=w'+1∧∀ k,k<P.length→P.getD k 0≤(w':Int):=hx
   have e:(w:Int)=(w':Int):=e
   exact ⟨by show 0+((w:Int)+1).toNat≤V.length;omega,by show ((w:Int)+1).toNat<1000000000;omega,nofun⟩
 · rename_i w0 hw d0 b0 x hx e d y hy
   change Nat×Nat at w0
   change Lq at y
   obtain ⟨j0,w⟩:=w0
   have k2:w<N:=hw.2.1
   have hy:Oqw y.1 y.2∧Byt8 y.1∧8*y.1.length≤((w:Int)+1).toNat+7:=hy
   refine Ends.one (y:Lq) ⟨hy.1,hy.2.1,by omega⟩ ?_
   exact vgo
def fcRof (N:Nat):Fc Tryz.prog C0 where
 tg:=.fn 111
 X:=Sl3
 args:=fun (o,b,q,l,i,n,c)=>[.sl 0 i n c]
 mem:=fun (o,b,q,l,i,n,c)=>[⟨b,q,1,false,some o,.rows 3 l⟩]
 pre:=fun s=>(N<100000000∧0<N)∧Sl3.pre s∧Rng ((s.2.2.2.1.drop s.2.2.2.2.1).take s.2.2.2.2.2.1) N
 alts:=fun (o,b,q,l,i,n,c)=>[⟨Lq,fun y=>Oqw y.1 y.2∧Byt8 y.1∧8*y.1.length≤N+7,fun y=>.sl 1 0 y.1.length y.2.2.2.2.2,fun y=>[⟨b,q,1,false,some o,.rows 3 l⟩,obC true y.2]⟩]
 mat vs m:=match vs with
  | [.sl s i n c]=>match nth m s with
    | ⟨b,q,_,_,g,.rows 3 l⟩=>some ((onOf g,b,q,l,i,n,c),[s])
    | _=>none
  | _=>none
 ok:=fun (o,b,q,l,i,n,c) h=>rof_ok N h.1.1 h.1.2 o b q l i n c h.2.1.1 h.2.1.2.1 h.2.1.2.2 _ rfl h.2.2
end
end Go.Vx
namespace Go.Vx
open Go Go.Proofs
noncomputable section
variable [Gl]
def Bm7 (n n2:Nat):Inv' C0:=⟨7,Nat×Nat×Nat×List Int,fun x=>[(8,.int .i64 (x.1:Int)),(5,.int .i64 ((x.2.1:Int) - 1)),(6,.int .i64 ((x.2.2.1:Int) - 1))],fun x m=>match m with
 | [p,q,t]=>[p,q,⟨t.block,t.base,1,true,none,.rows 3 x.2.2.2⟩]
 | m=>m,fun x=>(1≤x.2.1∧x.2.1≤8*n∧1≤x.2.2.1∧x.2.2.1≤8*n2)∧x.2.2.2.length=x.2.1+x.2.2.1 - 1∧x.1≤x.2.1,fun x=>x.2.1 - x.1⟩
def Bm11 (n n2:Nat):Inv' C0:=⟨11,Nat×Nat×Nat×Nat×List Int,fun x=>[(8,.int .i64 (x.1:Int)),(9,.int .i64 (x.2.1:Int)),(5,.int .i64 ((x.2.2.1:Int) - 1)),(6,.int .i64 ((x.2.2.2.1:Int) - 1))],fun x m=>match m with
 | [p,q,t]=>[p,q,⟨t.block,t.base,1,true,none,.rows 3 x.2.2.2.2⟩]
 | m=>m,fun x=>(1≤x.2.2.1∧x.2.2.1≤8*n∧1≤x.2.2.2.1∧x.2.2.2.1≤8*n2)∧x.2.2.2.2.length=x.2.2.1+x.2.2.2.1 - 1∧x.1<x.2.2.1∧x.2.1≤x.2.2.2.1,fun x=>x.2.2.2.1 - x.2.1⟩
set_option maxHeartbeats 4000000 in
theorem rbmul_ok (o:Bool) (b q:Nat) (l:List Int) (i n c:Nat) (h:i+n≤l.length) (hn:n<10000000) (ho:o=false→n=0∧c=0) (kP:Byt8 ((l.drop i).take n)) (o2:Bool) (b2 q2:Nat) (l2:List Int) (i2 n2 c2:Nat) (h2:i2+n2≤l2.length) (hn2:n2<10000000) (ho2:o2=false→n2=0∧c2=0) (kQ:Byt8 ((l2.drop i2).take n2)):
 Does (C:=C0) Tryz.prog (.fn 81) [⟨b,q,1,false,some o,.rows 5 l⟩,⟨b2,q2,1,false,some o2,.rows 5 l2⟩] [.sl 0 i n c,.sl 1 i2 n2 c2]
  [⟨Lq,fun y=>Oqw y.1 y.2∧Byt8 y.1∧y.1.length≤n+n2,fun y=>.sl 2 0 y.1.length y.2.2.2.2.2,fun y=>[⟨b,q,1,false,some o,.rows 5 l⟩,⟨b2,q2,1,false,some o2,.rows 5 l2⟩,obC true y.2]⟩]:=by
 have hby:(Tryz.prog.types[3].bytes:Int)=8:=by kernel_rfl
 refine loc_fn (P:=Tryz.prog) (E:=⟨[fcRdeg,fcRbits],[pcRbit],56,[(13,[],[.p 0,.p 1,.p 2,.p 3,.p 4,.p 5,.p 6,.p 7,.p 8,.p 10,.p 11,.q 9,.q 12,.p 13,.p 14,.e 15])],[],[],none⟩) (L:=[Bm7 n n2,Bm11 n n2]) mix Tryz.func81 rfl (by kernel_rfl) (by kernel_rfl) rfl rfl ?_
 ((conv=>arg 1;reduce);with_reducible repeat' first | exact ty | refine ta ?_ ?_ | refine ti fun _ => ?_ | refine tf fun _ => ?_ | refine tl ?_)
 all_goals try exact vlf
 · exact ⟨⟨h,by show n<1000000000;omega,ho⟩,kP⟩
 · exact ⟨⟨h2,by show n2<1000000000;omega,ho2⟩,kQ⟩
 · refine Ends.one (([],(false,0,0,[],0)):Lq) ⟨Oqw.none,(fun x hx=>nomatch hx),ze _⟩ ?_
   exact vgo
 all_goals try (
  rename_i d hd e he z
  change Nat at d
  change Nat at e
  have hd:d≤8*n:=hd
  have he:e≤8*n2:=he
  simp only [xd,decide_eq_false_iff_not,SB.val] at z
  rw [hby]
  show 0≤(d:Int) - 1+((e:Int) - 1)+1∧(d:Int) - 1+((e:Int) - 1)+1≤(d:Int) - 1+((e:Int) - 1)+1∧8*((d:Int) - 1+((e:Int) - 1)+1)≤281474976710656∧(d:Int) - 1+((e:Int) - 1)+1≤9223372036854775807
  omega)
 · rename_i d hd e he z b0
   change Nat at d
   change Nat at e
   have hd:d≤8*n:=hd
   have he:e≤8*n2:=he
   simp only [xd,decide_eq_false_iff_not,SB.val] at z
   refine Stands.one ((0,d,e,zw ((d:Int) - 1+((e:Int) - 1)+1).toNat 0):Nat×Nat×Nat×List Int) ⟨⟨⟨by show 1≤d;omega,hd,by show 1≤e;omega,he⟩,by show (zw _ _).length=d+e - 1;rw [ye];omega,ze _⟩,?_⟩
   exact vgo
 all_goals try (
  rename_i d hd e he z b0 x hx x1 x2 x3
  change Nat×Nat×Nat×List Int at x
  obtain ⟨j,d',e',V⟩:=x
  have hx:(1≤d'∧d'≤8*n∧1≤e'∧e'≤8*n2)∧V.length=d'+e' - 1∧j≤d':=hx
  exact ⟨⟨h,by show n<1000000000;omega,ho⟩,⟨by show 0≤(j:Int);omega,by show (j:Int)<10000000000;omega⟩,kP⟩)
 all_goals try (
  rename_i d hd e he z b0 x hx x1 x2 x3 x4
  change Nat×Nat×Nat×List Int at x
  obtain ⟨j,d',e',V⟩:=x
  have hx:(1≤d'∧d'≤8*n∧1≤e'∧e'≤8*n2)∧V.length=d'+e' - 1∧j≤d':=hx
  have x3:(j:Int)≤(d':Int) - 1:=ng x3
  first
  | exact inR64 (n:=(j:Int)+1) (by omega) (by omega)
  | (refine Stands.one ((j+1,d',e',V):Nat×Nat×Nat×List Int) ⟨⟨hx.1,hx.2.1,by show j+1≤d';omega⟩,by show d' - (j+1)<d' - j;omega,?_⟩
     exact vgo)
  | (refine Stands.one ((j,0,d',e',V):Nat×Nat×Nat×Nat×List Int) ⟨⟨hx.1,hx.2.1,by show j<d';omega,ze _⟩,?_⟩
     exact vgo))
 all_goals try (
  rename_i d hd e he z b0 w hw x1 x2 x3 x4 x hx y1 y2 y3 y4
  change Nat at d
  change Nat at e
  change Nat×Nat×Nat×List Int at w
  change Nat×Nat×Nat×Nat×List Int at x
  obtain ⟨i',d1,e1,V1⟩:=w
  obtain ⟨j,k,d',e',V⟩:=x
  have hx:(1≤d'∧d'≤8*n∧1≤e'∧e'≤8*n2)∧V.length=d'+e' - 1∧j<d'∧k≤e':=hx
  have x1:(d:Int) - 1=(d1:Int) - 1:=x1
  have x2:(e:Int) - 1=(e1:Int) - 1:=x2
  have y2:(d1:Int) - 1=(d':Int) - 1:=y2
  have y3:(e1:Int) - 1=(e':Int) - 1:=y3
  have y4:(k:Int)≤(e':Int) - 1:=ng y4
  first
  | exact inR64 (n:=(j:Int)+(k:Int)) (by omega) (by omega)
  | exact inR64 (n:=(k:Int)+1) (by omega) (by omega)
  | (show (j:Int)+(k:Int)<(((d:Int) - 1+((e:Int) - 1)+1).toNat:Int);omega)
  | (show ((j:Int)+(k:Int)).toNat+0<V.length;omega)
  | exact ⟨⟨h2,by show n2<1000000000;omega,ho2⟩,⟨by show 0≤(k:Int);omega,by show (k:Int)<10000000000;omega⟩,kQ⟩
  | (refine Stands.one ((j,k+1,d',e',V.set (((j:Int)+(k:Int)).toNat+0) (ibit .xor .i64 (V.getD (((j:Int)+(k:Int)).toNat+0) 0) (((bt ((l2.drop i2).take n2) (k:Int).toNat).toNat:Nat):Int))):Nat×Nat×Nat×Nat×List Int) ⟨⟨hx.1,by show (V.set _ _).length=_;rw [zg];exact hx.2.1,hx.2.2.1,by show k+1≤e';omega⟩,by show e' - (k+1)<e' - k;omega,?_⟩
     exact vgo))
 all_goals try (
  rename_i d hd e he z b0 w hw x1 x2 x3 x4 x hx y1 y2 y3 y4
  change Nat×Nat×Nat×List Int at w
  change Nat×Nat×Nat×Nat×List Int at x
  obtain ⟨i',d1,e1,V1⟩:=w
  obtain ⟨j,k,d',e',V⟩:=x
  have hx:(1≤d'∧d'≤8*n∧1≤e'∧e'≤8*n2)∧V.length=d'+e' - 1∧j<d'∧k≤e':=hx
  have y1:(i':Int)=(j:Int):=y1
  have y2:(d1:Int) - 1=(d':Int) - 1:=y2
  have y4:¬ (k:Int)≤(e':Int) - 1:=nf y4
  first
  | exact inR64 (n:=(j:Int)+1) (by omega) (by omega)
  | (refine Stands.one ((j+1,d',e',V):Nat×Nat×Nat×List Int) ⟨⟨hx.1,hx.2.1,by show j+1≤d';omega⟩,by show d' - (j+1)<d1 - i';omega,?_⟩
     exact vgo))
 · rename_i d hd e he z b0 x hx x1 x2 x3
   change Nat at d
   change Nat at e
   change Nat×Nat×Nat×List Int at x
   obtain ⟨j,d',e',V⟩:=x
   have hx:(1≤d'∧d'≤8*n∧1≤e'∧e'≤8*n2)∧V.length=d'+e' - 1∧j≤d':=hx
   have x1:(d:Int) - 1=(d':Int) - 1:=x1
   have x2:(e:Int) - 1=(e':Int) - 1:=x2
   exact ⟨by show 0+((d:Int) - 1+((e:Int) - 1)+1).toNat≤V.length;omega,by show ((d:Int) - 1+((e:Int) - 1)+1).toNat<1000000000;omega,nofun⟩
 · rename_i d hd e he z b0 x hx x1 x2 x3 y hy
   change Nat at d
   change Nat at e
   change Lq at y
   have hd:d≤8*n:=hd
   have he:e≤8*n2:=he
   simp only [xd,decide_eq_false_iff_not,SB.val] at z
   have hy:Oqw y.1 y.2∧Byt8 y.1∧8*y.1.length≤((d:Int) - 1+((e:Int) - 1)+1).toNat+7:=hy
   refine Ends.one (y:Lq) ⟨hy.1,hy.2.1,by have:=hy.2.2;omega⟩ ?_
   exact vgo
def fcRbmul:Fc Tryz.prog C0 where
 tg:=.fn 81
 X:=Sl3×Sl3
 args:=fun ((o,b,q,l,i,n,c),(o2,b2,q2,l2,i2,n2,c2))=>[.sl 0 i n c,.sl 1 i2 n2 c2]
 mem:=fun ((o,b,q,l,i,n,c),(o2,b2,q2,l2,i2,n2,c2))=>[⟨b,q,1,false,some o,.rows 5 l⟩,⟨b2,q2,1,false,some o2,.rows 5 l2⟩]
 pre:=fun ((o,b,q,l,i,n,c),(o2,b2,q2,l2,i2,n2,c2))=>(Sl3.pre (o,b,q,l,i,n,c)∧n<10000000∧Byt8 ((l.drop i).take n))∧Sl3.pre (o2,b2,q2,l2,i2,n2,c2)∧n2<10000000∧Byt8 ((l2.drop i2).take n2)
 alts:=fun ((o,b,q,l,i,n,c),(o2,b2,q2,l2,i2,n2,c2))=>[⟨Lq,fun y=>Oqw y.1 y.2∧Byt8 y.1∧y.1.length≤n+n2,fun y=>.sl 2 0 y.1.length y.2.2.2.2.2,fun y=>[⟨b,q,1,false,some o,.rows 5 l⟩,⟨b2,q2,1,false,some o2,.rows 5 l2⟩,obC true y.2]⟩]
 mat vs m:=match vs with
  | [.sl s i n c,.sl s2 i2 n2 c2]=>match nth m s,nth m s2 with
    | ⟨b,q,_,_,g,.rows 5 l⟩,⟨b2,q2,_,_,g2,.rows 5 l2⟩=>some (((onOf g,b,q,l,i,n,c),(onOf g2,b2,q2,l2,i2,n2,c2)),[s,s2])
    | _,_=>none
  | _=>none
 ok:=fun ((o,b,q,l,i,n,c),(o2,b2,q2,l2,i2,n2,c2)) h=>rbmul_ok o b q l i n c h.1.1.1 h.1.2.1 h.1.1.2.2 h.1.2.2 o2 b2 q2 l2 i2 n2 c2 h.2.1.1 h.2.2.1 h.2.1.2.2 h.2.2.2
section
variable (F:Gf)
def Mi4:Inv' C0:=⟨4,Nat×Lq,fun x=>[(7,.int .i64 (x.1:Int)),(6,.sl 1 0 x.2.1.length x.2.2.2.2.2.2)],fun x m=>match m with
 | p :: _=>[p,oqC true x.2.2]
 | m=>m,fun x=>x.1≤16384∧Oqw x.2.1 x.2.2∧x.2.1.length=x.1,fun x=>16384 - x.1⟩
def Mi10:Inv' C0:=⟨10,Nat×Lq,fun x=>[(10,.int .i64 (x.1:Int)),(9,.sl 3 0 x.2.1.length x.2.2.2.2.2.2)],fun x m=>match m with
 | a :: b :: p :: _=>[a,b,p,oqC true x.2.2]
 | m=>m,fun x=>x.1≤39999∧Oqw x.2.1 x.2.2∧x.2.1.length≤x.1∧Rng x.2.1 40000,fun x=>39999 - x.1⟩
set_option maxHeartbeats 4000000 in
theorem rminimal_ok (i:Int) (h1 : -1000000000<i) (h2:i<1000000000):
 Does (C:=C0) Tryz.prog (.fn 82) [] [.int .i64 (F.m:Int),.int .i64 i]
  [⟨Lq,fun y=>Oqw y.1 y.2∧Byt8 y.1∧y.1.length≤5001,fun y=>.sl 0 0 y.1.length y.2.2.2.2.2,fun y=>[obC true y.2]⟩]:=by
 have hby:Tryz.prog.types[3].bytes=8:=by kernel_rfl
 obtain ⟨hs,h7,hh⟩:=nF_sz F
 refine loc_fn (P:=Tryz.prog) (E:=⟨[fcRcoset F,fcRfroots F,fcRof 40000],[pcRexp F],49,[],[],[],none⟩) (L:=[Mi4,Mi10]) mix Tryz.func82 rfl (by kernel_rfl) (by kernel_rfl) rfl rfl ?_
 ((conv=>arg 1;reduce);with_reducible repeat' first | exact ty | refine ta ?_ ?_ | refine ti fun _ => ?_ | refine tf fun _ => ?_ | refine tl ?_)
 all_goals try exact vlf
 · exact ⟨h1,h2⟩
 · refine Stands.one ((0,[],(false,0,0,[],0)):Nat×Lq) ⟨⟨ze _,Oqw.none,rfl⟩,?_⟩
   exact vgo
 all_goals try (
  rename_i y hy x hx d
  change Lq at y
  change Nat×Lq at x
  obtain ⟨A,y⟩:=y
  obtain ⟨j,L,z⟩:=x
  obtain ⟨a1,a2,a3⟩:Oqw A y∧A.length≤nF F∧Rng A (nF F):=hy
  have d:(j:Int)<(A.length:Int):=ng d
  have c1:=a1.cap
  have c2:=a1.len
  first
  | exact on_of a1.nil (by omega)
  | exact d
  | (show (j:Int).toNat+0<y.2.2.2.1.length;omega)
  | (have r:=a3 _ (getD_mem (d:=0) (show j<A.length by omega))
     have e:y.2.2.2.1.getD ((j:Int).toNat+0) 0=A.getD j 0:=by rw [show (j:Int).toNat+0=j by omega];exact a1.at (by omega)
     exact ⟨by show -1000000000<y.2.2.2.1.getD ((j:Int).toNat+0) 0;omega,by show y.2.2.2.1.getD ((j:Int).toNat+0) 0<1000000000;omega⟩))
 all_goals try (
  rename_i y hy x hx d b1
  change Lq at y
  change Nat×Lq at x
  obtain ⟨j,L,z⟩:=x
  obtain ⟨k1,k2,k3⟩:j≤16384∧Oqw L z∧L.length=j:=hx
  have c1:=k2.cap
  have c2:=k2.len
  first
  | (rw [hby];exact ⟨c1,by show 0+z.2.2.2.2≤z.2.2.2.1.length;omega,zx _,by show (L.length+1)*8≤_;omega⟩)
  | exact k2.nil)
 all_goals try (
  rename_i y hy x hx d g1 g2 g3 sp k h3 h4
  change Lq at y
  change Nat×Lq at x
  change List Int at sp
  obtain ⟨A,y⟩:=y
  obtain ⟨j,L,z⟩:=x
  obtain ⟨a1,a2,a3⟩:Oqw A y∧A.length≤nF F∧Rng A (nF F):=hy
  obtain ⟨k1,k2,k3⟩:j≤16384∧Oqw L z∧L.length=j:=hx
  have d:(j:Int)<(A.length:Int):=ng d
  have h3:L.length+1≤k:=h3
  have h4:k≤L.length+1+sp.length:=h4
  first
  | exact inR64 (n:=(j:Int)+1) (by omega) (by omega)
  | (refine Stands.one ((j+1,L ++ [vi (exF F (y.2.2.2.1.getD ((j:Int).toNat+0) 0))],(true,g2,g3,z.2.2.2.1.take L.length ++ [vi (exF F (y.2.2.2.1.getD ((j:Int).toNat+0) 0))] ++ sp,k)):Nat×Lq) ⟨⟨by show j+1≤16384;omega,k2.snoc _ _ _ _ _ sp _ rfl h3 h4 rfl,by show (L ++ [_]).length=j+1;rw [zu];show L.length+1=j+1;omega⟩,by show 16384 - (j+1)<16384 - j;omega,?_⟩
     ((conv=>arg 1;reduce);with_reducible repeat' first | exact ty | refine ta ?_ ?_ | refine ti fun _ => ?_ | refine tf fun _ => ?_ | refine tl ?_)
     all_goals first | exact vlf | (show L.length+1=(L ++ [_]).length;rw [zu];rfl) | (show (L ++ [_]).length=L.length+1;rw [zu];rfl)))
 · rename_i y hy x hx d
   change Lq at y
   change Nat×Lq at x
   obtain ⟨j,L,z⟩:=x
   obtain ⟨k1,k2,k3⟩:j≤16384∧Oqw L z∧L.length=j:=hx
   have c1:=k2.cap
   have c2:=k2.len
   exact ⟨⟨by show 0+L.length≤z.2.2.2.1.length;omega,by show L.length<1000000000;omega,k2.nil⟩,by show L.length<10000000;omega⟩
 · refine Stands.one ((0,[],(false,0,0,[],0)):Nat×Lq) ⟨⟨ze _,Oqw.none,zx _,(fun x hx=>nomatch hx)⟩,?_⟩
   exact vgo
 all_goals try (
  rename_i y hy w hw dw y2 hy2 x hx d
  change Lq at y2
  change Nat×Lq at x
  obtain ⟨A,y2⟩:=y2
  obtain ⟨j,L,z⟩:=x
  have a1:Oqw A y2:=hy2.1
  have d:(j:Int)<(A.length:Int):=ng d
  have c1:=a1.cap
  have c2:=a1.len
  first
  | exact on_of a1.nil (by omega)
  | exact d
  | (show (j:Int).toNat+0<y2.2.2.2.1.length;omega))
 all_goals try (
  rename_i y hy w hw dw y2 hy2 x hx d dz b1
  change Nat×Lq at x
  obtain ⟨j,L,z⟩:=x
  obtain ⟨k1,k2,k3,k4⟩:j≤39999∧Oqw L z∧L.length≤j∧Rng L 40000:=hx
  have c1:=k2.cap
  have c2:=k2.len
  first
  | (rw [hby];exact ⟨c1,by show 0+z.2.2.2.2≤z.2.2.2.1.length;omega,zx _,by show (L.length+1)*8≤_;omega⟩)
  | exact k2.nil)
 all_goals try (
  rename_i y hy w hw dw y2 hy2 x hx d dz g1 g2 g3 sp k h3 h4
  change Nat×Lq at w
  change Lq at y2
  change Nat×Lq at x
  change List Int at sp
  obtain ⟨A,y2⟩:=y2
  obtain ⟨j,L,z⟩:=x
  have hy2:Oqw A y2∧A.length≤1+2*w.2.1.length:=hy2
  have hw:w.1≤16384∧Oqw w.2.1 w.2.2∧w.2.1.length=w.1:=hw
  obtain ⟨k1,k2,k3,k4⟩:j≤39999∧Oqw L z∧L.length≤j∧Rng L 40000:=hx
  have d:(j:Int)<(A.length:Int):=ng d
  have h3:L.length+1≤k:=h3
  have h4:k≤L.length+1+sp.length:=h4
  first
  | exact inR64 (n:=(j:Int)+1) (by omega) (by omega)
  | (refine Stands.one ((j+1,L ++ [(j:Int)],(true,g2,g3,z.2.2.2.1.take L.length ++ [(j:Int)] ++ sp,k)):Nat×Lq) ⟨⟨by show j+1≤39999;omega,k2.snoc _ _ _ _ _ sp _ rfl h3 h4 rfl,by show (L ++ [_]).length≤j+1;rw [zu];show L.length+1≤j+1;omega,fun v hv => ?_⟩,by show 39999 - (j+1)<39999 - j;omega,?_⟩
     · rcases List.mem_append.1 hv with hv | hv
       · exact k4 v hv
       · rw [List.mem_singleton.1 hv];omega
     ((conv=>arg 1;reduce);with_reducible repeat' first | exact ty | refine ta ?_ ?_ | refine ti fun _ => ?_ | refine tf fun _ => ?_ | refine tl ?_)
     all_goals first | exact vlf | (show L.length+1=(L ++ [_]).length;rw [zu];rfl) | (show (L ++ [_]).length=L.length+1;rw [zu];rfl)))
 all_goals try (
  rename_i y hy w hw dw y2 hy2 x hx d dz
  change Nat×Lq at w
  change Lq at y2
  change Nat×Lq at x
  obtain ⟨A,y2⟩:=y2
  obtain ⟨j,L,z⟩:=x
  have hy2:Oqw A y2∧A.length≤1+2*w.2.1.length:=hy2
  have hw:w.1≤16384∧Oqw w.2.1 w.2.2∧w.2.1.length=w.1:=hw
  obtain ⟨k1,k2,k3,k4⟩:j≤39999∧Oqw L z∧L.length≤j∧Rng L 40000:=hx
  have d:(j:Int)<(A.length:Int):=ng d
  first
  | exact inR64 (n:=(j:Int)+1) (by omega) (by omega)
  | (refine Stands.one ((j+1,L,z):Nat×Lq) ⟨⟨by show j+1≤39999;omega,k2,by show L.length≤j+1;omega,k4⟩,by show 39999 - (j+1)<39999 - j;omega,?_⟩
     exact vgo))
 · rename_i y hy w hw dw y2 hy2 x hx d
   change Nat×Lq at x
   obtain ⟨j,L,z⟩:=x
   obtain ⟨k1,k2,k3,k4⟩:j≤39999∧Oqw L z∧L.length≤j∧Rng L 40000:=hx
   have c1:=k2.cap
   have c2:=k2.len
   refine ⟨⟨by decide,by decide⟩,⟨by show 0+L.length≤z.2.2.2.1.length;omega,by show L.length<1000000000;omega,k2.nil⟩,?_⟩
   show Rng ((z.2.2.2.1.drop 0).take L.length) 40000
   rw [zq,k2.eq];exact k4
 · rename_i y hy w hw dw y2 hy2 x hx d v hv
   change Lq at v
   have hv:Oqw v.1 v.2∧Byt8 v.1∧8*v.1.length≤40000+7:=hv
   refine Ends.one (v:Lq) ⟨hv.1,hv.2.1,by have:=hv.2.2;omega⟩ ?_
   exact vgo
def fcRminimal:Fc Tryz.prog C0 where
 tg:=.fn 82
 X:=Int
 args i:=[.int .i64 (F.m:Int),.int .i64 i]
 mem _:=[]
 pre i := -1000000000<i∧i<1000000000
 alts i:=[⟨Lq,fun y=>Oqw y.1 y.2∧Byt8 y.1∧y.1.length≤5001,fun y=>.sl 0 0 y.1.length y.2.2.2.2.2,fun y=>[obC true y.2]⟩]
 mat vs m:=match vs with
  | [_,.int _ i]=>some (i,[])
  | _=>none
 ok i h:=rminimal_ok F i h.1 h.2
def Ge6 (n:Nat):Inv' C0:=⟨6,Nat×Lq,fun x=>[(10,.int .i64 (x.1:Int)),(9,.sl 1 0 x.2.1.length x.2.2.2.2.2.2),(21,.junk)],fun x m=>match m with
 | p :: _=>[p,obC true x.2.2]
 | m=>m,fun x=>x.1≤n∧Oqw x.2.1 x.2.2∧Byt8 x.2.1∧x.2.1.length≤1+5001*x.1,fun x=>n - x.1⟩
set_option maxHeartbeats 4000000 in
theorem rgen_ok (t:Nat) (t1:1≤t) (t40:t≤40) (hD:(lsO (nF F) t).2.2<nF F):
 Does (C:=C0) Tryz.prog (.fn 56) [] [.int .i64 (F.m:Int),.int .i64 (t:Int)]
  [⟨Lq,fun y=>Oqw y.1 y.2,fun y=>.tup [.sl 0 0 y.1.length y.2.2.2.2.2,.int .i64 0],fun y=>[obC true y.2]⟩]:=by
 obtain ⟨f1,f2,f3,f4⟩:=lsO_facts (nF F) t
 refine loc_fn (P:=Tryz.prog) (E:=⟨[fcRleast F,fcRminimal F,fcRbmul],[],38,[],[],[],none⟩) (L:=[Ge6 (lsO (nF F) t).2.1.length]) mix Tryz.func56 rfl (by kernel_rfl) (by kernel_rfl) rfl rfl ?_
 ((conv=>arg 1;reduce);with_reducible repeat' first | exact ty | refine ta ?_ ?_ | refine ti fun _ => ?_ | refine tf fun _ => ?_ | refine tl ?_)
 all_goals try exact vlf
 · exact ⟨t1,t40,hD⟩
 · rename_i d;exact absurd (ng d) (fun h=>h rfl)
 · rename_i y hy d b0
   refine Stands.one ((0,[1],(true,b0,0,[1],1)):Nat×Lq) ⟨⟨ze _,⟨rfl,zx _,zx _,nofun⟩,(fun x hx=>by rw [List.mem_singleton.1 hx];decide),zx _⟩,?_⟩
   exact vgo
 all_goals try (
  rename_i y hy d0 b0 x hx d
  change Oq at y
  change Nat×Lq at x
  obtain ⟨j,L,z⟩:=x
  have a1:Oqw (lsO (nF F) t).2.1 y:=hy
  have d:(j:Int)<((lsO (nF F) t).2.1.length:Int):=ng d
  have c1:=a1.cap
  have c2:=a1.len
  first
  | exact on_of a1.nil (by omega)
  | exact d
  | (show (j:Int).toNat+0<y.2.2.2.1.length;omega)
  | (have r:=f4 _ (getD_mem (d:=0) (show j<(lsO (nF F) t).2.1.length by omega))
     have e:y.2.2.2.1.getD ((j:Int).toNat+0) 0=(lsO (nF F) t).2.1.getD j 0:=by rw [show (j:Int).toNat+0=j by omega];exact a1.at (by omega)
     exact ⟨by show -1000000000<y.2.2.2.1.getD ((j:Int).toNat+0) 0;omega,by show y.2.2.2.1.getD ((j:Int).toNat+0) 0<1000000000;omega⟩))
 · rename_i y hy d0 b0 x hx d v hv
   change Nat×Lq at x
   change Lq at v
   obtain ⟨j,L,z⟩:=x
   obtain ⟨k1,k2,k3,k4⟩:j≤(lsO (nF F) t).2.1.length∧Oqw L z∧Byt8 L∧L.length≤1+5001*j:=hx
   obtain ⟨v1,v2,v3⟩:Oqw v.1 v.2∧Byt8 v.1∧v.1.length≤5001:=hv
   have c1:=k2.cap
   have c2:=k2.len
   have c3:=v1.cap
   have c4:=v1.len
   refine ⟨⟨⟨by show 0+L.length≤z.2.2.2.1.length;omega,by show L.length<1000000000;omega,k2.nil⟩,by show L.length<10000000;omega,?_⟩,⟨by show 0+v.1.length≤v.2.2.2.2.1.length;omega,by show v.1.length<1000000000;omega,v1.nil⟩,by show v.1.length<10000000;omega,?_⟩
   · show Byt8 ((z.2.2.2.1.drop 0).take L.length);rw [zq,k2.eq];exact k3
   · show Byt8 ((v.2.2.2.2.1.drop 0).take v.1.length);rw [zq,v1.eq];exact v2
 all_goals try (
  rename_i y hy d0 b0 x hx d v hv u hu
  change Nat×Lq at x
  change Lq at v
  change Lq at u
  obtain ⟨j,L,z⟩:=x
  obtain ⟨k1,k2,k3,k4⟩:j≤(lsO (nF F) t).2.1.length∧Oqw L z∧Byt8 L∧L.length≤1+5001*j:=hx
  obtain ⟨v1,v2,v3⟩:Oqw v.1 v.2∧Byt8 v.1∧v.1.length≤5001:=hv
  obtain ⟨u1,u2,u3⟩:Oqw u.1 u.2∧Byt8 u.1∧u.1.length≤L.length+v.1.length:=hu
  have d:(j:Int)<((lsO (nF F) t).2.1.length:Int):=ng d
  first
  | exact inR64 (n:=(j:Int)+1) (by omega) (by omega)
  | (refine Stands.one ((j+1,u.1,u.2):Nat×Lq) ⟨⟨by show j+1≤_;omega,u1,u2,by show u.1.length≤1+5001*(j+1);omega⟩,by show _ - (j+1)<_ - j;omega,?_⟩
     exact vgo))
 · rename_i y hy d0 b0 x hx d
   change Nat×Lq at x
   obtain ⟨j,L,z⟩:=x
   refine Ends.one ((L,z):Lq) hx.2.1 ?_
   exact vgo
def fcRgen:Fc Tryz.prog C0 where
 tg:=.fn 56
 X:=Nat
 args t:=[.int .i64 (F.m:Int),.int .i64 (t:Int)]
 mem _:=[]
 pre t:=1≤t∧t≤40∧(lsO (nF F) t).2.2<nF F
 alts t:=[⟨Lq,fun y=>Oqw y.1 y.2,fun y=>.tup [.sl 0 0 y.1.length y.2.2.2.2.2,.int .i64 0],fun y=>[obC true y.2]⟩]
 mat vs m:=match vs with
  | [_,.int _ (t:Nat)]=>some (t,[])
  | _=>none
 ok t h:=rgen_ok F t h.1 h.2.1 h.2.2
end
end
end Go.Vx
namespace Go.Vx
open Go.Vx.Fd
noncomputable section
theorem nodup_le:∀ (n:Nat) (l:List Int),l.Nodup→(∀ x∈l,0≤x∧x<(n:Int))→l.length≤n
 | 0,[],_,_=>zx 0
 | 0,x :: l,_,h=>by have:=h x (List.mem_cons_self ..);omega
 | n+1,l,hn,h=>by
   by_cases hm:(n:Int)∈l
   · have h1:=nodup_le n (l.erase (n:Int)) (hn.erase _) fun x hx=>by
      obtain ⟨h2,h3⟩:=(List.Nodup.mem_erase_iff hn).1 hx
      have:=h x h3
      omega
     rw [List.length_erase_of_mem hm] at h1
     omega
   · have h1:=nodup_le n l hn fun x hx=>by
      have h2:=h x hx
      have:x≠(n:Int):=fun e=>hm (e ▸ hx)
      omega
     omega
def ins (x:Int):List Int→List Int
 | []=>[x]
 | y :: l=>if x≤y then x :: y :: l else y :: ins x l
def isr:List Int→List Int
 | []=>[]
 | x :: l=>ins x (isr l)
theorem ins_perm (x:Int):∀ l:List Int,(ins x l).Perm (x :: l)
 | []=>List.Perm.refl _
 | y :: l=>by
   unfold ins
   split
   · exact List.Perm.refl _
   · exact ((ins_perm x l).cons y).trans (List.Perm.swap ..)
theorem isr_perm:∀ l:List Int,(isr l).Perm l
 | []=>List.Perm.refl _
 | x :: l=>(ins_perm x _).trans ((isr_perm l).cons x)
theorem ins_le (x:Int):∀ l:List Int,l.Pairwise (· ≤ ·)→(ins x l).Pairwise (· ≤ ·)
 | [],_=>ri ..
 | y :: l,h=>by
   unfold ins
   obtain ⟨h1,h2⟩:=List.pairwise_cons.1 h
   split
   · rename_i hx
     refine List.pairwise_cons.2 ⟨fun z hz => ?_,h⟩
     rcases List.mem_cons.1 hz with rfl | hz
     · exact hx
     · have:=h1 z hz;omega
   · rename_i hx
     refine List.pairwise_cons.2 ⟨fun z hz => ?_,ins_le x l h2⟩
     rcases List.mem_cons.1 ((ins_perm x l).mem_iff.1 hz) with rfl | hz
     · omega
     · exact h1 z hz
theorem isr_le:∀ l:List Int,(isr l).Pairwise (· ≤ ·)
 | []=>List.Pairwise.nil
 | x :: l=>ins_le x _ (isr_le l)
theorem isr_eq {l r:List Int} (hp:r.Perm l) (hs:r.Pairwise (· ≤ ·)):r=isr l:=
 List.Perm.eq_of_pairwise (le:=(· ≤ ·)) (fun a b _ _ h1 h2=>by omega) hs (isr_le l) (hp.trans (isr_perm l).symm)
def cosR (n:Nat):Nat→Nat→List Int→List Int
 | 0,_,l=>l
 | f+1,i,l=>if l.contains (i:Int) then l else cosR n f (2*i % n) (l ++ [(i:Int)])
@[irreducible] def cosV (m i:Nat):List Int:=isr (cosR (2 ^ m - 1) (2 ^ m) (i % (2 ^ m - 1)) [])
theorem cosR_facts {n:Nat} (hn:0<n):∀ (f i:Nat) (l:List Int),i<n→l.Nodup→(∀ x∈l,0≤x∧x<(n:Int))→(cosR n f i l).Nodup∧∀ x∈cosR n f i l,0≤x∧x<(n:Int)
 | 0,_,l,_,h1,h2=>⟨h1,h2⟩
 | f+1,i,l,hi,h1,h2=>by
   unfold cosR
   split
   · exact ⟨h1,h2⟩
   · rename_i hc
     have hc:¬ (i:Int)∈l:=fun h=>hc (List.contains_iff_mem.2 h)
     refine cosR_facts hn f _ _ (zc _ hn) (List.nodup_append.2 ⟨h1,ri ..,fun a ha b hb => ?_⟩) fun x hx => ?_
     · rw [wj] at hb
       intro e
       exact hc (hb ▸ e ▸ ha)
     · rcases List.mem_append.1 hx with hx | hx
       · exact h2 x hx
       · rw [wj] at hx;omega
theorem cosV_lt {m i:Nat} (hm:1≤m):∀ x∈cosV m i,0≤x∧x<((2 ^ m - 1:Nat):Int):=by
 have h2:0<2 ^ m - 1:=by have:=ui (show m≠0 by omega);omega
 unfold cosV
 exact fun x hx=>(cosR_facts h2 _ _ _ (zc _ h2) uu fun x hx=>by cases hx).2 x ((isr_perm _).mem_iff.1 hx)
theorem cosV_len {m i:Nat} (hm:1≤m):(cosV m i).length≤2 ^ m - 1:=by
 have h2:0<2 ^ m - 1:=by have:=ui (show m≠0 by omega);omega
 have hc:=cosR_facts h2 (2 ^ m) (i % (2 ^ m - 1)) [] (zc _ h2) uu (fun x hx=>by cases hx)
 have e:(cosV m i).length=(cosR (2 ^ m - 1) (2 ^ m) (i % (2 ^ m - 1)) []).length:=by unfold cosV;exact (isr_perm _).length_eq
 rw [e]
 exact nodup_le _ _ hc.1 hc.2
def ldR (m:Nat):Nat→List Int×Nat
 | 0=>([],0)
 | j+1=>if (ldR m j).1.contains ((cosV m (2*j+1)).getD 0 0) then ldR m j else ((ldR m j).1 ++ [(cosV m (2*j+1)).getD 0 0],(ldR m j).2+(cosV m (2*j+1)).length)
section
variable {F:Gf}
def mlR (a:El F) (Q:List (El F)) (i:Nat):Nat→List (El F)→List (El F)
 | 0,o=>o
 | k+1,o=>(mlR a Q i k o).set (i+k) (cf (mlR a Q i k o) (i+k)+a*cf Q k)
def mlC (P Q:List (El F)):Nat→List (El F)
 | 0=>zw (P.length+Q.length - 1) zr
 | i+1=>mlR (cf P i) Q i Q.length (mlC P Q i)
theorem mlR_len (a:El F) (Q:List (El F)) (i:Nat) (o:List (El F)):∀ k,(mlR a Q i k o).length=o.length
 | 0=>rfl
 | k+1=>by show ((mlR a Q i k o).set _ _).length=_;rw [zg,mlR_len a Q i o k]
theorem mlC_len (P Q:List (El F)):∀ i,(mlC P Q i).length=P.length+Q.length - 1
 | 0=>by show (zw _ _).length=_;rw [ye]
 | i+1=>by show (mlR _ _ _ _ _).length=_;rw [mlR_len,mlC_len P Q i]
theorem cf_set {l:List (El F)} {i j:Nat} {x:El F} (hi:i<l.length):cf (l.set i x) j=if j=i then x else cf l j:=by
 unfold cf
 simp only [zy]
 by_cases h:j=i
 · rw [if_pos h,h,List.getElem?_set_self hi];rfl
 · rw [if_neg h,List.getElem?_set_ne (Ne.symm h)]
def fdE (F:Gf) (l:List Int):List (El F):=l.foldl (fun P k=>mlC P [ex F k.toNat,un] P.length) [un]
theorem fdE_snoc (l:List Int) (k:Int):fdE F (l ++ [k])=mlC (fdE F l) [ex F k.toNat,un] (fdE F l).length:=by unfold fdE;rw [uo];rfl
theorem mlC_two (P:List (El F)) (c:El F) (i:Nat):∃ x,mlC P [c,un] (i+1)=((mlC P [c,un] i).set i x).set (i+1) (cf ((mlC P [c,un] i).set i x) (i+1)+cf P i*un):=⟨cf (mlC P [c,un] i) i+cf P i*c,rfl⟩
theorem mlC_low {P:List (El F)} {c:El F}:∀ {i s:Nat},i<s→cf (mlC P [c,un] i) s=zr
 | 0,s,_=>by
   show cf (zw _ _) s=_
   unfold cf
   rw [zy,List.getElem?_replicate]
   split <;> rfl
 | i+1,s,h=>by
   obtain ⟨x,e⟩:=mlC_two P c i
   by_cases h1:i+1<(mlC P [c,un] i).length
   · rw [e,cf_set (by rw [zg];exact h1),if_neg (by omega),cf_set (by omega),if_neg (by omega),mlC_low (by omega)]
   · exact cf_of (by rw [e,zg,zg];omega)
theorem mlC_top {P:List (El F)} {c:El F} {n:Nat} (hp:P.length=n+1) (hl:cf P n=un):cf (mlC P [c,un] (n+1)) (n+1)=un:=by
 obtain ⟨x,e⟩:=mlC_two P c n
 have hL:(mlC P [c,un] n).length=n+2:=by rw [mlC_len,hp];rfl
 rw [e,cf_set (by rw [zg,hL];omega),if_pos rfl,hl,cf_set (by rw [hL];omega),if_neg (by omega),mlC_low (by omega),zadd,umul]
theorem fdE_facts (l:List Int):(fdE F l).length=l.length+1∧cf (fdE F l) l.length=un:=by
 refine snoc_ind (P:=fun l=>(fdE F l).length=l.length+1∧cf (fdE F l) l.length=un) ⟨rfl,rfl⟩ (fun l k ih => ?_) l
 rw [fdE_snoc]
 constructor
 · rw [mlC_len,ih.1,zu];rfl
 · rw [ih.1,zu]
   exact mlC_top ih.1 ih.2
theorem trim_id {l:List (El F)} {n:Nat} (hl:l.length=n+1) (h:cf l n≠zr):trim l=l:=by
 unfold trim
 refine za ?_
 rw [hl]
 refine ve fun hlt=>h (top_zero l (by omega))
theorem fdE_trim (l:List Int):trim (fdE F l)=fdE F l:=trim_id (fdE_facts l).1 (by rw [(fdE_facts l).2];exact ne)
@[irreducible] def mpN (F:Gf) (l:List Int):Nat:=bn (l.length+1) fun k=>decide (cf (fdE F l) k=un)
theorem mpN_bit (l:List Int) (k:Nat):(mpN F l).testBit k=decide (cf (fdE F l) k=un):=by
 unfold mpN
 rw [bn_bit]
 by_cases h:k<l.length+1
 · rw [decide_eq_true h,Bool.true_and]
 · rw [decide_eq_false h,Bool.false_and,cf_of (by rw [(fdE_facts l).1];omega)]
   exact (decide_eq_false (fun e=>ne e.symm)).symm
theorem mpN_bl (l:List Int):bl (mpN F l)=l.length+1:=by
 refine bl_of (by rw [mpN_bit,(fdE_facts l).2];exact decide_eq_true rfl) ?_
 unfold mpN
 exact bn_lt _ _
def mlRN (m p a:Nat) (Q:List Nat) (i:Nat):Nat→List Nat→List Nat
 | 0,o=>o
 | k+1,o=>(mlRN m p a Q i k o).set (i+k) ((mlRN m p a Q i k o).getD (i+k) 0 ^^^ mg m p m a (Q.getD k 0))
def mlCN (m p:Nat) (P Q:List Nat):Nat→List Nat
 | 0=>zw (P.length+Q.length - 1) 0
 | i+1=>mlRN m p (P.getD i 0) Q i Q.length (mlCN m p P Q i)
def pwB (m p:Nat):Nat→Nat→Nat
 | 0,_=>1
 | f+1,k=>if k % 2=1 then mulx m p (mg m p m (pwB m p f (k / 2)) (pwB m p f (k / 2))) else mg m p m (pwB m p f (k / 2)) (pwB m p f (k / 2))
def fdN (m p:Nat) (l:List Int):List Nat:=l.foldl (fun P k=>mlCN m p P [pwB m p m k.toNat,1] P.length) [1]
theorem cf_v (l:List (El F)) (i:Nat):(cf l i).v=(l.map El.v).getD i 0:=by
 unfold cf
 simp only [zy,List.getElem?_map]
 cases l[i]? <;> rfl
theorem pwB_ok:∀ f k,k<2 ^ f→pwB F.m F.p f k=(ex F k).v
 | 0,k,h=>by
   obtain rfl:k=0:=by rw [Nat.pow_zero] at h;omega
   rfl
 | f+1,k,h=>by
   have ih:=pwB_ok f (k / 2) (by rw [Nat.pow_succ] at h;omega)
   have e:mg F.m F.p F.m (pwB F.m F.p f (k / 2)) (pwB F.m F.p f (k / 2))=(ex F (k / 2+k / 2)).v:=by
    rw [ih,ex_add];rfl
   show (if k % 2=1 then mulx F.m F.p (mg F.m F.p F.m (pwB F.m F.p f (k / 2)) (pwB F.m F.p f (k / 2))) else mg F.m F.p F.m (pwB F.m F.p f (k / 2)) (pwB F.m F.p f (k / 2)))=_
   rw [e]
   split
   · rw [show (ex F k).v=(ex F (k / 2+k / 2+1)).v by congr 2;omega]
     rfl
   · congr 2;omega
theorem mlR_N (a:El F) (Q:List (El F)) (i:Nat) (o:List (El F)):∀ k,(mlR a Q i k o).map El.v=mlRN F.m F.p a.v (Q.map El.v) i k (o.map El.v)
 | 0=>rfl
 | k+1=>by
   show ((mlR a Q i k o).set _ _).map El.v=(mlRN _ _ _ _ _ k _).set _ _
   rw [List.map_set,mlR_N a Q i o k,add_v,mul_v,cf_v,cf_v,mlR_N a Q i o k]
theorem mlC_N (P Q:List (El F)):∀ i,(mlC P Q i).map El.v=mlCN F.m F.p (P.map El.v) (Q.map El.v) i
 | 0=>by
   show (zw _ _).map El.v=zw _ _
   rw [List.map_replicate,zm,zm]
   rfl
 | i+1=>by
   show (mlR _ _ _ _ _).map El.v=mlRN _ _ _ _ _ _ _
   rw [mlR_N,mlC_N P Q i,cf_v,zm]
theorem fdE_N {l:List Int}:(∀ x∈l,x.toNat<2 ^ F.m)→(fdE F l).map El.v=fdN F.m F.p l:=by
 refine snoc_ind (P:=fun l=>(∀ x∈l,x.toNat<2 ^ F.m)→(fdE F l).map El.v=fdN F.m F.p l) (fun _=>rfl) (fun l k ih h => ?_) l
 have e:fdN F.m F.p (l ++ [k])=mlCN F.m F.p (fdN F.m F.p l) [pwB F.m F.p F.m k.toNat,1] (fdN F.m F.p l).length:=by unfold fdN;rw [uo];rfl
 rw [fdE_snoc,mlC_N,e,← ih fun x hx=>h x (List.mem_append_left _ hx),zm]
 congr 1
 show [(ex F k.toNat).v,1]=_
 rw [pwB_ok F.m k.toNat (h k (by simp))]
def hoN (m p x:Nat):Nat→Nat→Nat
 | 0,_=>0
 | f+1,N=>(if N.testBit 0 then 1 else 0) ^^^ mg m p m x (hoN m p x f (N / 2))
theorem hoN_ok (x:El F):∀ f N,hoN F.m F.p x.v f N=(vl N.testBit f x).v
 | 0,_=>rfl
 | f+1,N=>by
   show (if N.testBit 0 then 1 else 0) ^^^ mg F.m F.p F.m x.v (hoN F.m F.p x.v f (N / 2))=_
   rw [hoN_ok x f (N / 2)]
   have e:vl N.testBit (f+1) x=bk (N.testBit 0)+x*vl (N / 2).testBit f x:=by
    unfold vl
    rw [sm_head,← sm_mul]
    rw [show pw x 0=(un:El F) from rfl,mul1]
    congr 1
    refine sm_congr fun k _ => ?_
    rw [Nat.testBit_succ]
    show _*(pw x k*x)=_
    rw [mulC (pw x k) x,mulL]
   rw [e,add_v,mul_v]
   cases N.testBit 0 <;> rfl
theorem hoN_vn {x:El F} {f N:Nat} (hf:bl N≤f) (h:hoN F.m F.p x.v f N=0):vn N x=zr:=by
 rw [← vl_more hf]
 exact El.ext (by rw [← hoN_ok];exact h)
end
end
end Go.Vx
namespace Go.Vx
open Go.Vx.Fd
noncomputable section
def mpNn (m p:Nat) (l:List Int):Nat:=bn (l.length+1) fun k=>zj ((fdN m p l).getD k 0) 1
def genN (m p:Nat) (ld:List Int):Nat:=ld.foldl (fun g i=>clm g (mpNn m p (cosV m i.toNat))) 1
def dupB:List Nat→Bool
 | []=>false
 | x :: l=>l.any (zj x) || dupB l
theorem dupB_ok:∀ {l:List Nat},dupB l=false→l.Nodup
 | [],_=>uu
 | x :: l,h=>by
   simp only [dupB,xd,nr] at h
   refine List.nodup_cons.2 ⟨fun hm => ?_,dupB_ok h.2⟩
   exact h.1 x hm (Nat.beq_refl x)
def minOK (m p t:Nat) (i:Int):Bool:=
 (fdN m p (cosV m i.toNat)).all (fun x=>vz x 1) && vz (cosV m i.toNat).length 14 && zj (hoN m p (pwB m p m i.toNat) 15 (mpNn m p (cosV m i.toNat))) 0
   && (cosV m i.toNat).all (fun u=>(xj m).any fun j=>zj (i.toNat*2 ^ j % (2 ^ m - 1)) u.toNat) && decide (1≤i) && vz i.toNat (2*t) && Nat.blt i.toNat (2 ^ m)
def kdU (m:Nat) (ld:List Int):List Nat:=ld.flatMap fun i=>(cosV m i.toNat).map Int.toNat
def kdOK (m p t:Nat):Bool:=
 vz 1 t && vz t 40 && Nat.blt (ldR m t).2 (2 ^ m - 1) && vz 1 (ldR m t).2 && (ldR m t).1.all (minOK m p t) && zj (bl (genN m p (ldR m t).1)) ((ldR m t).2+1)
  && !(dupB (kdU m (ldR m t).1)) && zj (kdU m (ldR m t).1).length (ldR m t).2 && (xj (2*t)).all fun i=>(kdU m (ldR m t).1).any (zj ((i+1) % (2 ^ m - 1)))
structure Kd (F:Gf) where
 t:Nat
 ld:List Int
 D:Nat
 G:Nat
 t1:1≤t
 t40:t≤40
 hl:ldR F.m t=(ld,D)
 hD:D<2 ^ F.m - 1
 D1:1≤D
 ln:∀ i∈ld,(cosV F.m i.toNat).length≤14∧1≤i∧i.toNat<2 ^ F.m
 bin:∀ i∈ld,∀ x∈fdE F (cosV F.m i.toNat),x=zr∨x=un
 gen:ld.foldl (fun g i=>clm g (mpN F (cosV F.m i.toNat))) 1=G
 tp:bl G=D+1
 Q:Cdx F
 Qt:Q.t=t
 QD:Q.D=D
 Qg:∀ k,k<D→Q.g k=G.testBit k
section
variable {F:Gf}
theorem mpN_Nn {l:List Int} (h:∀ x∈l,x.toNat<2 ^ F.m):mpN F l=mpNn F.m F.p l:=by
 unfold mpN mpNn
 refine bn_congr fun k _ => ?_
 rw [← fdE_N h,← cf_v]
 by_cases e:cf (fdE F l) k=un
 · rw [decide_eq_true e,e];rfl
 · rw [decide_eq_false e]
   refine (Bool.eq_false_iff.2 fun h=>e (El.ext ?_)).symm
   exact zp h
theorem minOK_facts {t:Nat} {i:Int} (h:minOK F.m F.p t i=true):(∀ x∈fdE F (cosV F.m i.toNat),x=zr∨x=un)∧(cosV F.m i.toNat).length≤14∧
 vn (mpN F (cosV F.m i.toNat)) (ex F i.toNat)=zr∧(∀ u∈cosV F.m i.toNat,∃ j,i.toNat*2 ^ j % F.N=u.toNat)∧1≤i∧i.toNat≤2*t∧i.toNat<2 ^ F.m:=by
 simp only [minOK,zn,uw,ph,decide_eq_true_eq,uk] at h
 obtain ⟨⟨⟨⟨⟨⟨h1,h2⟩,h3⟩,h4⟩,h5⟩,h6⟩,h7⟩:=h
 have h2:=xf h2
 have hm:=F.m3
 have hc:∀ x∈cosV F.m i.toNat,x.toNat<2 ^ F.m:=fun x hx=>by
  have:=cosV_lt (m:=F.m) (i:=i.toNat) (by omega) x hx
  have:=yd F.m
  omega
 refine ⟨fun x hx => ?_,h2,?_,fun u hu => ?_,h5,xf h6,h7⟩
 · have h9:x.v≤1:=by
    refine xf (h1 x.v ?_)
    rw [← fdE_N hc]
    exact List.mem_map_of_mem hx
   by_cases h0:x.v=0
   · exact .inl (El.ext h0)
   · exact .inr (El.ext (show x.v=1 by omega))
 · refine hoN_vn (f:=15) (by rw [mpN_bl];omega) ?_
   rw [← pwB_ok F.m i.toNat h7,mpN_Nn hc]
   exact zp h3
 · obtain ⟨j,_,h9⟩:=h4 u hu
   exact ⟨j,zp h9⟩
theorem vn_pow {N i:Nat} (h:vn N (ex F i)=zr):∀ j,vn N (ex F (i*2 ^ j))=zr:=pow_zero' h
theorem vn_gen {x:El F} (ld:List Int) {f:Int→Nat} {i:Int} (hi:i∈ld) (h:vn (f i) x=zr):vn (ld.foldl (fun g i=>clm g (f i)) 1) x=zr:=by
 revert hi
 refine snoc_ind (P:=fun ld=>i∈ld→vn (ld.foldl (fun g i=>clm g (f i)) 1) x=zr) (fun h=>by cases h) (fun l k ih hi => ?_) ld
 rw [uo]
 show vn (clm _ _) x=zr
 rw [vn_clm]
 rcases List.mem_append.1 hi with hi | hi
 · rw [ih hi,zmul]
 · rw [wj] at hi
   rw [← hi,h,mul0]
theorem kdU_mem {m u:Nat} {ld:List Int} (h:u∈kdU m ld):∃ i∈ld,∃ c∈cosV m i.toNat,c.toNat=u:=by
 obtain ⟨i,hi,h⟩:=List.mem_flatMap.1 h
 exact ⟨i,hi,List.mem_map.1 h⟩
def Kd.of (F:Gf) (t:Nat) (h:kdOK F.m F.p t=true):Kd F:=
 have H:(1≤t∧t≤40∧(ldR F.m t).2<2 ^ F.m - 1∧1≤(ldR F.m t).2)∧(∀ i∈(ldR F.m t).1,minOK F.m F.p t i=true)∧bl (genN F.m F.p (ldR F.m t).1)=(ldR F.m t).2+1∧
  (kdU F.m (ldR F.m t).1).Nodup∧(kdU F.m (ldR F.m t).1).length=(ldR F.m t).2∧∀ i,i<2*t→(i+1) % F.N∈kdU F.m (ldR F.m t).1:=by
  simp only [kdOK,zn,uw,ph,uk,yp] at h
  obtain ⟨⟨⟨⟨⟨⟨⟨⟨h1,h2⟩,h3⟩,h4⟩,h5⟩,h6⟩,h7⟩,h8⟩,h9⟩:=h
  refine ⟨⟨xf h1,xf h2,h3,xf h4⟩,h5,zp h6,dupB_ok h7,zp h8,fun i hi => ?_⟩
  obtain ⟨u,hu,he⟩:=h9 i (List.mem_range.2 hi)
  have he:(i+1) % F.N=u:=zp he
  rw [he];exact hu
 have hg:(ldR F.m t).1.foldl (fun g i=>clm g (mpN F (cosV F.m i.toNat))) 1=genN F.m F.p (ldR F.m t).1:=by
  unfold genN
  have key:∀ (l:List Int) (a:Nat),l.foldl (fun g i=>clm g (mpN F (cosV F.m i.toNat))) a=l.foldl (fun g i=>clm g (mpNn F.m F.p (cosV F.m i.toNat))) a:=by
   intro l
   induction l with
   | nil=>exact fun _=>rfl
   | cons i l ih=>
     intro a
     show List.foldl _ (clm a _) l=List.foldl _ (clm a _) l
     rw [ih,mpN_Nn]
     intro x hx
     have:=F.m3
     have:=cosV_lt (m:=F.m) (i:=i.toNat) (by omega) x hx
     have:=yd F.m
     omega
  exact key _ _
 have hz:∀ u∈kdU F.m (ldR F.m t).1,vn (genN F.m F.p (ldR F.m t).1) (ex F u)=zr:=fun u hu=>by
  obtain ⟨i,hi,c,hc,rfl⟩:=kdU_mem hu
  obtain ⟨_,_,h3,h4,_⟩:=minOK_facts (H.2.1 i hi)
  obtain ⟨j,hj⟩:=h4 c hc
  rw [← hg]
  refine vn_gen (f:=fun i=>mpN F (cosV F.m i.toNat)) _ hi ?_
  rw [← hj,ex_mod]
  exact vn_pow h3 j
 { t:=t,ld:=(ldR F.m t).1,D:=(ldR F.m t).2,G:=genN F.m F.p (ldR F.m t).1
   t1:=H.1.1,t40:=H.1.2.1,hl:=rfl,hD:=H.1.2.2.1,D1:=H.1.2.2.2
   ln:=fun i hi=>have:=minOK_facts (H.2.1 i hi);⟨this.2.1,this.2.2.2.2.1,this.2.2.2.2.2.2⟩
   bin:=fun i hi=>(minOK_facts (H.2.1 i hi)).1
   gen:=hg
   tp:=H.2.2.1
   Q:={
         t:=t,D:=(ldR F.m t).2,g:=(genN F.m F.p (ldR F.m t).1).testBit,U:=kdU F.m (ldR F.m t).1,D1:=H.1.2.2.2,nod:=H.2.2.2.1,len:=H.2.2.2.2.1
         lt:=fun u hu=>by
          obtain ⟨i,hi,c,hc,rfl⟩:=kdU_mem hu
          have:=F.m3
          have:=cosV_lt (m:=F.m) (i:=i.toNat) (by omega) c hc
          show _<2 ^ F.m - 1
          omega
         from':=fun u hu=>by
          obtain ⟨i,hi,c,hc,rfl⟩:=kdU_mem hu
          obtain ⟨_,_,_,h4,h5,h6,_⟩:=minOK_facts (H.2.1 i hi)
          obtain ⟨j,hj⟩:=h4 c hc
          exact ⟨i.toNat,j,by omega,h6,by rw [← hj,ex_mod]⟩
         zero:=fun u hu=>by
          have h0:=hz u hu
          have hb:=H.2.2.1
          have ht:(genN F.m F.p (ldR F.m t).1).testBit (ldR F.m t).2=true:=by
           have:=bl_top (N:=genN F.m F.p (ldR F.m t).1) fun e=>by rw [e,bl_zero] at hb;omega
           rwa [hb,Nat.add_sub_cancel] at this
          unfold vn at h0
          rw [hb] at h0
          have h1:vl (genN F.m F.p (ldR F.m t).1).testBit (ldR F.m t).2 (ex F u)+bk ((genN F.m F.p (ldR F.m t).1).testBit (ldR F.m t).2)*pw (ex F u) (ldR F.m t).2=zr:=h0
          rw [ht] at h1
          have h2:=eq_of_add h1
          rw [h2]
          exact umul _
         has:=fun i h1 h2=>⟨i % F.N,by
          have:=H.2.2.2.2.2 (i - 1) (by omega)
          rwa [show i - 1+1=i by omega] at this,ex_mod i⟩ }
   Qt:=rfl,QD:=rfl,Qg:=fun _ _=>rfl }
end
end
end Go.Vx
namespace Go.Vx
noncomputable section
def gf5:Gf:=Gf.of 5 37 (by omega) (by omega) (by kernel_rfl) (by kernel_rfl) (by decide) (by kernel_rfl)
theorem kd5_1:kdOK 5 37 1=true:=by kernel_rfl
theorem kd5_2:kdOK 5 37 2=true:=by kernel_rfl
theorem kd5_3:kdOK 5 37 3=true:=by kernel_rfl
theorem kd5_4:kdOK 5 37 4=true:=by kernel_rfl
theorem kd5_5:kdOK 5 37 5=true:=by kernel_rfl
def gf6:Gf:=Gf.of 6 67 (by omega) (by omega) (by kernel_rfl) (by kernel_rfl) (by decide) (by kernel_rfl)
theorem kd6_1:kdOK 6 67 1=true:=by kernel_rfl
theorem kd6_2:kdOK 6 67 2=true:=by kernel_rfl
theorem kd6_3:kdOK 6 67 3=true:=by kernel_rfl
theorem kd6_4:kdOK 6 67 4=true:=by kernel_rfl
theorem kd6_5:kdOK 6 67 5=true:=by kernel_rfl
def gf7:Gf:=Gf.of 7 137 (by omega) (by omega) (by kernel_rfl) (by kernel_rfl) (by decide) (by kernel_rfl)
theorem kd7_1:kdOK 7 137 1=true:=by kernel_rfl
theorem kd7_2:kdOK 7 137 2=true:=by kernel_rfl
theorem kd7_3:kdOK 7 137 3=true:=by kernel_rfl
theorem kd7_4:kdOK 7 137 4=true:=by kernel_rfl
theorem kd7_5:kdOK 7 137 5=true:=by kernel_rfl
def gf8:Gf:=Gf.of 8 285 (by omega) (by omega) (by kernel_rfl) (by kernel_rfl) (by decide) (by kernel_rfl)
theorem kd8_1:kdOK 8 285 1=true:=by kernel_rfl
theorem kd8_2:kdOK 8 285 2=true:=by kernel_rfl
theorem kd8_3:kdOK 8 285 3=true:=by kernel_rfl
theorem kd8_4:kdOK 8 285 4=true:=by kernel_rfl
theorem kd8_5:kdOK 8 285 5=true:=by kernel_rfl
end
end Go.Vx
namespace Go.Vx
open Go Go.Proofs
noncomputable section
variable [Gl]
theorem srt_isr (l:List Int):srt l=isr l:=isr_eq (srt_perm l) (srt_le l)
theorem any_has {L:List Int} {x:Int}:anyF (eqI x) L=L.contains x:=by
 by_cases h:x∈L
 · rw [List.contains_iff_mem.2 h,anyF_iff]
   exact ⟨x,h,decide_eq_true rfl⟩
 · rw [Bool.eq_false_iff.2 fun e=>h (List.contains_iff_mem.1 e),Bool.eq_false_iff]
   intro e
   obtain ⟨y,hy,e⟩:=anyF_iff.1 e
   rw [ng e] at h
   exact h hy
section
variable (F:Gf)
def Co6 (C:List Int):Inv' C0:=⟨6,Nat×List Int×Oq,fun x=>[(1,.int .i64 (x.1:Int)),(7,.sl 0 0 x.2.1.length x.2.2.2.2.2.2)],fun x _=>[oqC true x.2.2],
 fun x=>x.1<nF F∧x.2.1.Nodup∧(∀ a∈x.2.1,0≤a∧a<(nF F:Int))∧Oqw x.2.1 x.2.2∧cosR (nF F) (szF F - x.2.1.length) x.1 x.2.1=C,fun x=>szF F - x.2.1.length⟩
set_option maxHeartbeats 4000000 in
theorem coset_ok (i:Nat) (hi:i<1000000000):
 Does (C:=C0) Tryz.prog (.fn 98) [] [.int .i64 (F.m:Int),.int .i64 (i:Int)]
  [⟨Oq,fun y=>Oqw (cosV F.m i) y,fun y=>.tup [.sl 0 0 (cosV F.m i).length y.2.2.2.2,.nili],fun y=>[oqC true y]⟩]:=by
 obtain ⟨hs,h7,hh⟩:=nF_sz F
 have es:=shl_sz F
 have e1:(szF F:Int) - 1=(nF F:Int):=by omega
 have hby:Tryz.prog.types[3].bytes=8:=by kernel_rfl
 have hN:2 ^ F.m - 1=nF F:=by rw [nF_eq]
 have hC:cosV F.m i=isr (cosR (nF F) (szF F) (i % nF F) []):=by unfold cosV;rw [hN,szF_eq]
 have em:(i:Int).tmod (nF F)=((i % nF F:Nat):Int):=(zb i _).symm
 have em2:((i:Int).tmod (nF F)+(nF F:Int)).tmod (nF F)=((i % nF F:Nat):Int):=by
  rw [em,← qo,← zb,Nat.add_mod_right,Nat.mod_mod]
 have hlt:i % nF F<nF F:=zc _ (by omega)
 have hp0:(F.p:Int)≠0:=fun h=>by
  have:F.p=0:=by omega
  have h2:=F.top
  rw [this,xa] at h2
  cases h2
 refine loc_fn (P:=Tryz.prog) (E:=⟨[fcSort],[pcPolyF F,pcContains],37,[],[],[],none⟩) (L:=[Co6 F (cosR (nF F) (szF F) (i % nF F) [])]) mix Tryz.func98 rfl (by kernel_rfl) (by kernel_rfl) rfl rfl ?_
 ((conv=>arg 1;reduce);with_reducible repeat' first | exact ty | refine ta ?_ ?_ | refine ti fun _ => ?_ | refine tf fun _ => ?_ | refine tl ?_)
 all_goals try exact absurd (ng ‹_›) hp0
 all_goals try exact vlf
 · rw [es,e1,em];exact inR64 (n:=((i % nF F:Nat):Int)+(nF F:Int)) (by omega) (by omega)
 · refine Stands.one ((i % nF F,[],(false,0,0,[],0)):Nat×List Int×Oq) ⟨⟨hlt,uu,(fun x hx=>by cases hx),Oqw.none,by show cosR (nF F) (szF F - 0) _ _=_;rw [Nat.sub_zero]⟩,?_⟩
   ((conv=>arg 1;reduce);with_reducible repeat' first | exact ty | refine ta ?_ ?_ | refine ti fun _ => ?_ | refine tf fun _ => ?_ | refine tl ?_)
   all_goals first | exact vlf | (rw [es,e1];exact em2)
 · rename_i d0 x hx
   change Nat×List Int×Oq at x
   obtain ⟨a,L,y⟩:=x
   obtain ⟨k1,k2,k3,k4,k5⟩:a<nF F∧L.Nodup∧(∀ a∈L,0≤a∧a<(nF F:Int))∧Oqw L y∧cosR (nF F) (szF F - L.length) a L=cosR (nF F) (szF F) (i % nF F) []:=hx
   have lL:=nodup_le (nF F) L k2 k3
   have eL:y.2.2.2.1.take L.length=L:=k4.eq
   have c1:L.length≤y.2.2.2.2:=k4.cap
   have c2:y.2.2.2.2≤y.2.2.2.1.length:=k4.len
   exact ⟨by show L.length≤y.2.2.2.1.length;omega,by show L.length<4611686018427387904;omega,k4.nil⟩
 · rename_i d0 x hx d g1
   change Nat×List Int×Oq at x
   obtain ⟨a,L,y⟩:=x
   obtain ⟨k1,k2,k3,k4,k5⟩:a<nF F∧L.Nodup∧(∀ a∈L,0≤a∧a<(nF F:Int))∧Oqw L y∧cosR (nF F) (szF F - L.length) a L=cosR (nF F) (szF F) (i % nF F) []:=hx
   have lL:=nodup_le (nF F) L k2 k3
   have eL:y.2.2.2.1.take L.length=L:=k4.eq
   have c1:L.length≤y.2.2.2.2:=k4.cap
   have c2:y.2.2.2.2≤y.2.2.2.1.length:=k4.len
   rw [hby]
   exact ⟨c1,by show 0+y.2.2.2.2≤y.2.2.2.1.length;omega,zx _,by show (L.length+1)*8≤_;omega⟩
 · rename_i d0 x hx d g1
   change Nat×List Int×Oq at x
   obtain ⟨a,L,y⟩:=x
   obtain ⟨k1,k2,k3,k4,k5⟩:a<nF F∧L.Nodup∧(∀ a∈L,0≤a∧a<(nF F:Int))∧Oqw L y∧cosR (nF F) (szF F - L.length) a L=cosR (nF F) (szF F) (i % nF F) []:=hx
   have lL:=nodup_le (nF F) L k2 k3
   have eL:y.2.2.2.1.take L.length=L:=k4.eq
   have c1:L.length≤y.2.2.2.2:=k4.cap
   have c2:y.2.2.2.2≤y.2.2.2.1.length:=k4.len
   exact k4.nil
 · rename_i d0 x hx d g1 g2 g3 sp k h1 h2
   change Nat×List Int×Oq at x
   obtain ⟨a,L,y⟩:=x
   obtain ⟨k1,k2,k3,k4,k5⟩:a<nF F∧L.Nodup∧(∀ a∈L,0≤a∧a<(nF F:Int))∧Oqw L y∧cosR (nF F) (szF F - L.length) a L=cosR (nF F) (szF F) (i % nF F) []:=hx
   have lL:=nodup_le (nF F) L k2 k3
   have eL:y.2.2.2.1.take L.length=L:=k4.eq
   have c1:L.length≤y.2.2.2.2:=k4.cap
   have c2:y.2.2.2.2≤y.2.2.2.1.length:=k4.len
   exact inR64 (n:=2*(a:Int)) (by omega) (by omega)
 · rename_i d0 x hx d g1 g2 g3 sp k h1 h2
   change Nat×List Int×Oq at x
   obtain ⟨a,L,y⟩:=x
   obtain ⟨k1,k2,k3,k4,k5⟩:a<nF F∧L.Nodup∧(∀ a∈L,0≤a∧a<(nF F:Int))∧Oqw L y∧cosR (nF F) (szF F - L.length) a L=cosR (nF F) (szF F) (i % nF F) []:=hx
   have lL:=nodup_le (nF F) L k2 k3
   have eL:y.2.2.2.1.take L.length=L:=k4.eq
   have c1:L.length≤y.2.2.2.2:=k4.cap
   have c2:y.2.2.2.2≤y.2.2.2.1.length:=k4.len
   change List Int at sp
   have d:(!anyF (eqI (a:Int)) (y.2.2.2.1.take L.length))=true:=d
   rw [eL,any_has,yp] at d
   have hm:¬ (a:Int)∈L:=fun h=>by rw [List.contains_iff_mem.2 h] at d;cases d
   have h1:L.length+1≤k:=h1
   have h2:k≤L.length+1+sp.length:=h2
   refine Stands.one ((2*a % nF F,L ++ [(a:Int)],(true,g2,g3,y.2.2.2.1.take L.length ++ [(a:Int)] ++ sp,k)):Nat×List Int×Oq) ⟨⟨zc _ (by omega),?_,?_,k4.snoc _ _ _ _ _ sp _ rfl h1 h2 rfl,?_⟩,?_,?_⟩
   · refine List.nodup_append.2 ⟨k2,ri ..,fun u hu v hv => ?_⟩
     rw [wj] at hv
     intro e
     exact hm (hv ▸ e ▸ hu)
   · intro u hu
     rcases List.mem_append.1 hu with hu | hu
     · exact k3 u hu
     · rw [wj] at hu;omega
   · show cosR (nF F) (szF F - (L ++ [(a:Int)]).length) (2*a % nF F) (L ++ [(a:Int)])=_
     rw [← k5,zu,show szF F - L.length=(szF F - (L.length+1))+1 by omega]
     show _=if L.contains (a:Int) then L else _
     rw [d]
     rfl
   · show szF F - (L ++ [(a:Int)]).length<szF F - L.length
     rw [zu]
     show szF F - (L.length+1)<_
     omega
   ((conv=>arg 1;reduce);with_reducible repeat' first | exact ty | refine ta ?_ ?_ | refine ti fun _ => ?_ | refine tf fun _ => ?_ | refine tl ?_)
   all_goals first
    | exact vlf
    | (show (L ++ [(a:Int)]).length=L.length+1;rw [zu];rfl)
    | (show L.length+1=(L ++ [(a:Int)]).length;rw [zu];rfl)
    | (rw [es,e1];exact (zb (2*a) (nF F)).symm)
    | (rw [es,e1];show (2*(a:Int)).tmod (nF F)=_;rw [show (2*(a:Int))=((2*a:Nat):Int) by omega];exact (zb (2*a) (nF F)).symm)
 · rename_i d0 x hx d
   change Nat×List Int×Oq at x
   obtain ⟨a,L,y⟩:=x
   obtain ⟨k1,k2,k3,k4,k5⟩:a<nF F∧L.Nodup∧(∀ a∈L,0≤a∧a<(nF F:Int))∧Oqw L y∧cosR (nF F) (szF F - L.length) a L=cosR (nF F) (szF F) (i % nF F) []:=hx
   have lL:=nodup_le (nF F) L k2 k3
   have eL:y.2.2.2.1.take L.length=L:=k4.eq
   have c1:L.length≤y.2.2.2.2:=k4.cap
   have c2:y.2.2.2.2≤y.2.2.2.1.length:=k4.len
   exact ⟨by show L.length≤y.2.2.2.1.length;omega,by show L.length<4611686018427387904;omega,k4.nil⟩
 · rename_i d0 x hx d u hu
   change Nat×List Int×Oq at x
   obtain ⟨a,L,y⟩:=x
   obtain ⟨k1,k2,k3,k4,k5⟩:a<nF F∧L.Nodup∧(∀ a∈L,0≤a∧a<(nF F:Int))∧Oqw L y∧cosR (nF F) (szF F - L.length) a L=cosR (nF F) (szF F) (i % nF F) []:=hx
   have lL:=nodup_le (nF F) L k2 k3
   have eL:y.2.2.2.1.take L.length=L:=k4.eq
   have c1:L.length≤y.2.2.2.2:=k4.cap
   have c2:y.2.2.2.2≤y.2.2.2.1.length:=k4.len
   have d:(!anyF (eqI (a:Int)) (y.2.2.2.1.take L.length))=false:=d
   rw [eL,any_has,ru] at d
   have eC:L=cosR (nF F) (szF F) (i % nF F) []:=by
    rw [← k5,show szF F - L.length=(szF F - L.length - 1)+1 by omega]
    show L=if L.contains (a:Int) then L else _
    rw [d]
    rfl
   have eV:srt L=cosV F.m i:=by rw [hC,← eC,srt_isr]
   have lV:(cosV F.m i).length=L.length:=by rw [← eV,srt_len]
   refine Ends.one ((y.1,y.2.1,y.2.2.1,srt L ++ y.2.2.2.1.drop L.length,y.2.2.2.2):Oq) ⟨?_,?_,?_,?_⟩ ?_
   · show (srt L ++ _).take (cosV F.m i).length=_
     rw [← eV,List.take_left' rfl]
   · show (cosV F.m i).length≤y.2.2.2.2;omega
   · show y.2.2.2.2≤(srt L ++ y.2.2.2.1.drop L.length).length
     rw [zu,srt_len,vr];omega
   · intro h0
     have:=k4.nil h0
     rw [lV]
     exact this
   ((conv=>arg 1;reduce);with_reducible repeat' first | exact ty | refine ta ?_ ?_ | refine ti fun _ => ?_ | refine tf fun _ => ?_ | refine tl ?_)
   all_goals first
    | exact vlf
    | exact lV
    | exact lV.symm
    | (show srt (y.2.2.2.1.take L.length) ++ _=_;rw [eL])
    | (show _=srt (y.2.2.2.1.take L.length) ++ _;rw [eL])
    | (show _=castL _ _;show srt L ++ _=srt (y.2.2.2.1.take L.length) ++ _;rw [eL])
def fcCoset:Fc Tryz.prog C0 where
 tg:=.fn 98
 X:=Int
 args i:=[.int .i64 (F.m:Int),.int .i64 i]
 mem _:=[]
 pre i:=0≤i∧i<1000000000
 alts i:=[⟨Oq,fun y=>Oqw (cosV F.m i.toNat) y,fun y=>.tup [.sl 0 0 (cosV F.m i.toNat).length y.2.2.2.2,.nili],fun y=>[oqC true y]⟩]
 mat vs m:=match vs with
  | [.int _ _,.int _ i]=>some (i,[])
  | _=>none
 ok:=fun i h=>by
  obtain ⟨i,rfl⟩:=yh h.1
  exact coset_ok F i (Int.ofNat_lt.1 h.2)
end
end
end Go.Vx
namespace Go.Vx
open Go Go.Proofs
noncomputable section
theorem cosR_le (n:Nat):∀ (f i:Nat) (l:List Int),l.length≤(cosR n f i l).length
 | 0,_,_=>zx _
 | f+1,i,l=>by
   unfold cosR
   split
   · exact zx _
   · have:=cosR_le n f (2*i % n) (l ++ [(i:Int)])
     rw [zu] at this
     omega
theorem cosV_pos {m i:Nat}:1≤(cosV m i).length:=by
 obtain ⟨f,hf⟩:∃ f,2 ^ m=f+1:=⟨2 ^ m - 1,by have:=yd m;omega⟩
 have e:(cosV m i).length=(cosR (2 ^ m - 1) (2 ^ m) (i % (2 ^ m - 1)) []).length:=by unfold cosV;exact (isr_perm _).length_eq
 rw [e,hf]
 exact cosR_le _ f _ ([] ++ [_])
theorem ldR_bd {m:Nat} (h1:1≤m) (h2:m≤14):∀ j,(ldR m j).1.length≤j∧(ldR m j).2≤j*16384
 | 0=>⟨zx 0,ze _⟩
 | j+1=>by
   have ih:=ldR_bd h1 h2 j
   have hc:=cosV_len (m:=m) (i:=2*j+1) h1
   have hp:2 ^ m≤2 ^ 14:=Nat.pow_le_pow_right (by omega) h2
   unfold ldR
   split
   · omega
   · simp only [zu,xq,List.length_nil]
     omega
variable [Gl]
section
variable {F:Gf} (K:Kd F)
def Ld8:Inv' C0:=⟨8,Nat×Oq,fun x=>[(9,.int .i64 (2*(x.1:Int)+1)),(8,.int .i64 ((ldR F.m x.1).2:Int)),(7,.sl 0 0 (ldR F.m x.1).1.length x.2.2.2.2.2)],fun x _=>[oqC true x.2],
 fun x=>x.1≤K.t∧Oqw (ldR F.m x.1).1 x.2,fun x=>K.t - x.1⟩
set_option maxHeartbeats 4000000 in
theorem leaders_ok:
 Does (C:=C0) Tryz.prog (.fn 75) [] [.int .i64 (F.m:Int),.int .i64 (K.t:Int)]
  [⟨Oq,fun y=>Oqw K.ld y,fun y=>.tup [.sl 0 0 K.ld.length y.2.2.2.2,.int .i64 (K.D:Int),.nili],fun y=>[oqC true y]⟩]:=by
 obtain ⟨hs,h7,hh⟩:=nF_sz F
 have es:=shl_sz F
 have e1:(szF F:Int) - 1=(nF F:Int):=by omega
 have hN:2 ^ F.m - 1=nF F:=by rw [nF_eq]
 have hby:Tryz.prog.types[3].bytes=8:=by kernel_rfl
 have t1:=K.t1
 have t40:=K.t40
 have hl:=K.hl
 have hD:=K.hD
 rw [hN] at hD
 have bd:=fun j=>ldR_bd (m:=F.m) (by have:=F.m3;omega) F.m14 j
 have cl:=fun i=>cosV_len (m:=F.m) (i:=i) (by have:=F.m3;omega)
 rw [hN] at cl
 have hp0:(F.p:Int)≠0:=fun h=>by
  have:F.p=0:=by omega
  have h2:=F.top
  rw [this,xa] at h2
  cases h2
 refine loc_fn (P:=Tryz.prog) (E:=⟨[fcCoset F],[pcPolyF F,pcContains],64,[],[],[],none⟩) (L:=[Ld8 K]) mix Tryz.func75 rfl (by kernel_rfl) (by kernel_rfl) rfl rfl ?_
 ((conv=>arg 1;reduce);with_reducible repeat' first | exact ty | refine ta ?_ ?_ | refine ti fun _ => ?_ | refine tf fun _ => ?_ | refine tl ?_)
 all_goals try exact absurd (ng ‹_›) hp0
 all_goals try exact vlf
 · exfalso
   rename_i d0 d1
   simp only [xw,decide_eq_true_eq,SB.val] at d1
   omega
 · refine Stands.one ((0,(false,0,0,[],0)):Nat×Oq) ⟨⟨ze _,Oqw.none⟩,?_⟩
   exact vgo
 · rename_i d0 d1 x hx d2
   change Nat×Oq at x
   obtain ⟨j,y⟩:=x
   obtain ⟨k1,k2⟩:j≤K.t∧Oqw (ldR F.m j).1 y:=hx
   have eL:y.2.2.2.1.take (ldR F.m j).1.length=(ldR F.m j).1:=k2.eq
   have c1:(ldR F.m j).1.length≤y.2.2.2.2:=k2.cap
   have c2:y.2.2.2.2≤y.2.2.2.1.length:=k2.len
   have b1:=bd j
   have e2:(2*(j:Int)+1).toNat=2*j+1:=by omega
   have d2:2*(j:Int)+1<2*(K.t:Int):=ng d2
   exact ⟨by omega,by omega⟩
 iterate 5 (focus
  rename_i d0 d1 x hx d2 c hc
  change Nat×Oq at x
  obtain ⟨j,y⟩:=x
  obtain ⟨k1,k2⟩:j≤K.t∧Oqw (ldR F.m j).1 y:=hx
  have eL:y.2.2.2.1.take (ldR F.m j).1.length=(ldR F.m j).1:=k2.eq
  have c1:(ldR F.m j).1.length≤y.2.2.2.2:=k2.cap
  have c2:y.2.2.2.2≤y.2.2.2.1.length:=k2.len
  have b1:=bd j
  have e2:(2*(j:Int)+1).toNat=2*j+1:=by omega
  have d2:2*(j:Int)+1<2*(K.t:Int):=ng d2
  have hc:Oqw (cosV F.m (2*(j:Int)+1).toNat) c:=hc
  rw [e2] at hc
  have v1:=hc.cap
  have v2:=hc.len
  have v3:=cl (2*j+1)
  have v4:=cosV_pos (m:=F.m) (i:=2*j+1)
  have eC:c.2.2.2.1.getD ((0:Int).toNat+0) 0=(cosV F.m (2*j+1)).getD 0 0:=hc.at (by omega)
  first
  | exact on_of hc.nil (by omega)
  | (show 0<((cosV F.m (2*(j:Int)+1).toNat).length:Int);rw [e2];omega)
  | (show (0:Int).toNat+0<c.2.2.2.1.length;show 0<_;omega)
  | exact ⟨by show (ldR F.m j).1.length≤y.2.2.2.1.length;omega,by show (ldR F.m j).1.length<4611686018427387904;omega,k2.nil⟩)
 iterate 4 (focus
  rename_i d0 d1 x hx d2 c hc d3
  change Nat×Oq at x
  obtain ⟨j,y⟩:=x
  obtain ⟨k1,k2⟩:j≤K.t∧Oqw (ldR F.m j).1 y:=hx
  have eL:y.2.2.2.1.take (ldR F.m j).1.length=(ldR F.m j).1:=k2.eq
  have c1:(ldR F.m j).1.length≤y.2.2.2.2:=k2.cap
  have c2:y.2.2.2.2≤y.2.2.2.1.length:=k2.len
  have b1:=bd j
  have e2:(2*(j:Int)+1).toNat=2*j+1:=by omega
  have d2:2*(j:Int)+1<2*(K.t:Int):=ng d2
  have hc:Oqw (cosV F.m (2*(j:Int)+1).toNat) c:=hc
  rw [e2] at hc
  have v1:=hc.cap
  have v2:=hc.len
  have v3:=cl (2*j+1)
  have v4:=cosV_pos (m:=F.m) (i:=2*j+1)
  have eC:c.2.2.2.1.getD ((0:Int).toNat+0) 0=(cosV F.m (2*j+1)).getD 0 0:=hc.at (by omega)
  first
  | exact on_of hc.nil (by omega)
  | (show 0<((cosV F.m (2*(j:Int)+1).toNat).length:Int);rw [e2];omega)
  | (show (0:Int).toNat+0<c.2.2.2.1.length;show 0<_;omega))
 iterate 2 (focus
  rename_i d0 d1 x hx d2 c hc d3 g1
  change Nat×Oq at x
  obtain ⟨j,y⟩:=x
  obtain ⟨k1,k2⟩:j≤K.t∧Oqw (ldR F.m j).1 y:=hx
  have eL:y.2.2.2.1.take (ldR F.m j).1.length=(ldR F.m j).1:=k2.eq
  have c1:(ldR F.m j).1.length≤y.2.2.2.2:=k2.cap
  have c2:y.2.2.2.2≤y.2.2.2.1.length:=k2.len
  have b1:=bd j
  have e2:(2*(j:Int)+1).toNat=2*j+1:=by omega
  have d2:2*(j:Int)+1<2*(K.t:Int):=ng d2
  have hc:Oqw (cosV F.m (2*(j:Int)+1).toNat) c:=hc
  rw [e2] at hc
  have v1:=hc.cap
  have v2:=hc.len
  have v3:=cl (2*j+1)
  have v4:=cosV_pos (m:=F.m) (i:=2*j+1)
  have eC:c.2.2.2.1.getD ((0:Int).toNat+0) 0=(cosV F.m (2*j+1)).getD 0 0:=hc.at (by omega)
  first
  | exact k2.nil
  | (rw [hby];exact ⟨c1,by show 0+y.2.2.2.2≤y.2.2.2.1.length;omega,zx _,by show ((ldR F.m j).1.length+1)*8≤_;omega⟩))
 iterate 3 (focus
  rename_i d0 d1 x hx d2 c hc d3 g1 g2 g3 sp k h1 h2
  change Nat×Oq at x
  obtain ⟨j,y⟩:=x
  obtain ⟨k1,k2⟩:j≤K.t∧Oqw (ldR F.m j).1 y:=hx
  have eL:y.2.2.2.1.take (ldR F.m j).1.length=(ldR F.m j).1:=k2.eq
  have c1:(ldR F.m j).1.length≤y.2.2.2.2:=k2.cap
  have c2:y.2.2.2.2≤y.2.2.2.1.length:=k2.len
  have b1:=bd j
  have e2:(2*(j:Int)+1).toNat=2*j+1:=by omega
  have d2:2*(j:Int)+1<2*(K.t:Int):=ng d2
  have hc:Oqw (cosV F.m (2*(j:Int)+1).toNat) c:=hc
  rw [e2] at hc
  have v1:=hc.cap
  have v2:=hc.len
  have v3:=cl (2*j+1)
  have v4:=cosV_pos (m:=F.m) (i:=2*j+1)
  have eC:c.2.2.2.1.getD ((0:Int).toNat+0) 0=(cosV F.m (2*j+1)).getD 0 0:=hc.at (by omega)
  have d3:(!anyF (eqI (c.2.2.2.1.getD ((0:Int).toNat+0) 0)) (y.2.2.2.1.take (ldR F.m j).1.length))=true:=d3
  rw [eC,eL,any_has,yp] at d3
  have eR:ldR F.m (j+1)=((ldR F.m j).1 ++ [(cosV F.m (2*j+1)).getD 0 0],(ldR F.m j).2+(cosV F.m (2*j+1)).length):=by
   show (if (ldR F.m j).1.contains _ then _ else _)=_
   rw [d3];rfl
  have h1:(ldR F.m j).1.length+1≤k:=h1
  change List Int at sp
  have h2:k≤(ldR F.m j).1.length+1+sp.length:=h2
  first
  | (refine Stands.one ((j+1,(true,g2,g3,y.2.2.2.1.take (ldR F.m j).1.length ++ [c.2.2.2.1.getD ((0:Int).toNat+0) 0] ++ sp,k)):Nat×Oq) ⟨⟨by show j+1≤K.t;omega,?_⟩,by show K.t - (j+1)<K.t - j;omega,?_⟩
     · show Oqw (ldR F.m (j+1)).1 _
       rw [eR]
       refine k2.snoc _ _ _ _ _ sp _ ?_ h1 h2 rfl
       rw [eC]
     ((conv=>arg 1;reduce);with_reducible repeat' first | exact ty | refine ta ?_ ?_ | refine ti fun _ => ?_ | refine tf fun _ => ?_ | refine tl ?_)
     all_goals first
      | exact vlf
      | (show (ldR F.m (j+1)).1.length=(ldR F.m j).1.length+1;rw [eR,zu];rfl)
      | (show (ldR F.m j).1.length+1=(ldR F.m (j+1)).1.length;rw [eR,zu];rfl)
      | (show ((ldR F.m j).2:Int)+((cosV F.m (2*(j:Int)+1).toNat).length:Int)=((ldR F.m (j+1)).2:Int);rw [eR,e2];exact (qo _ _).symm)
      | (show 2*(j:Int)+1+2=2*((j+1:Nat):Int)+1;omega))
  | (show inR .i64 (((ldR F.m j).2:Int)+((cosV F.m (2*(j:Int)+1).toNat).length:Int));rw [e2];exact inR64 (by omega) (by omega))
  | exact inR64 (n:=2*(j:Int)+1+2) (by omega) (by omega))
 iterate 2 (focus
  rename_i d0 d1 x hx d2 c hc d3
  change Nat×Oq at x
  obtain ⟨j,y⟩:=x
  obtain ⟨k1,k2⟩:j≤K.t∧Oqw (ldR F.m j).1 y:=hx
  have eL:y.2.2.2.1.take (ldR F.m j).1.length=(ldR F.m j).1:=k2.eq
  have c1:(ldR F.m j).1.length≤y.2.2.2.2:=k2.cap
  have c2:y.2.2.2.2≤y.2.2.2.1.length:=k2.len
  have b1:=bd j
  have e2:(2*(j:Int)+1).toNat=2*j+1:=by omega
  have d2:2*(j:Int)+1<2*(K.t:Int):=ng d2
  have hc:Oqw (cosV F.m (2*(j:Int)+1).toNat) c:=hc
  rw [e2] at hc
  have v1:=hc.cap
  have v2:=hc.len
  have v3:=cl (2*j+1)
  have v4:=cosV_pos (m:=F.m) (i:=2*j+1)
  have eC:c.2.2.2.1.getD ((0:Int).toNat+0) 0=(cosV F.m (2*j+1)).getD 0 0:=hc.at (by omega)
  have d3:(!anyF (eqI (c.2.2.2.1.getD ((0:Int).toNat+0) 0)) (y.2.2.2.1.take (ldR F.m j).1.length))=false:=d3
  rw [eC,eL,any_has,ru] at d3
  have eR:ldR F.m (j+1)=ldR F.m j:=by
   show (if (ldR F.m j).1.contains _ then _ else _)=_
   rw [d3];rfl
  first
  | (refine Stands.one ((j+1,y):Nat×Oq) ⟨⟨by show j+1≤K.t;omega,by show Oqw (ldR F.m (j+1)).1 _;rw [eR];exact k2⟩,by show K.t - (j+1)<K.t - j;omega,?_⟩
     ((conv=>arg 1;reduce);with_reducible repeat' first | exact ty | refine ta ?_ ?_ | refine ti fun _ => ?_ | refine tf fun _ => ?_ | refine tl ?_)
     all_goals first
      | exact vlf
      | (show (ldR F.m (j+1)).1.length=(ldR F.m j).1.length;rw [eR])
      | (show (ldR F.m j).1.length=(ldR F.m (j+1)).1.length;rw [eR])
      | (show ((ldR F.m j).2:Int)=((ldR F.m (j+1)).2:Int);rw [eR])
      | (show 2*(j:Int)+1+2=2*((j+1:Nat):Int)+1;omega))
  | exact inR64 (n:=2*(j:Int)+1+2) (by omega) (by omega))
 · exfalso
   rename_i d0 d1 x hx d2 d3
   change Nat×Oq at x
   obtain ⟨j,y⟩:=x
   obtain ⟨k1,k2⟩:j≤K.t∧Oqw (ldR F.m j).1 y:=hx
   have d2:¬ 2*(j:Int)+1<2*(K.t:Int):=nf d2
   obtain rfl:j=K.t:=by omega
   simp only [hl] at k2
   have d3:ishl .i64 1 (F.m:Int) - 1≤((ldR F.m K.t).2:Int):=ng d3
   rw [es,e1,hl] at d3
   have d3:(nF F:Int)≤(K.D:Int):=d3
   omega
 · rename_i d0 d1 x hx d2 d3
   change Nat×Oq at x
   obtain ⟨j,y⟩:=x
   obtain ⟨k1,k2⟩:j≤K.t∧Oqw (ldR F.m j).1 y:=hx
   have d2:¬ 2*(j:Int)+1<2*(K.t:Int):=nf d2
   obtain rfl:j=K.t:=by omega
   simp only [hl] at k2
   refine Ends.one y k2 ?_
   ((conv=>arg 1;reduce);with_reducible repeat' first | exact ty | refine ta ?_ ?_ | refine ti fun _ => ?_ | refine tf fun _ => ?_ | refine tl ?_)
   all_goals first
    | exact vlf
    | (show (ldR F.m K.t).1.length=K.ld.length;rw [hl])
    | (show K.ld.length=(ldR F.m K.t).1.length;rw [hl])
    | (show ((ldR F.m K.t).2:Int)=(K.D:Int);rw [hl])
    | (show (K.D:Int)=((ldR F.m K.t).2:Int);rw [hl])
def fcLeaders:Fc Tryz.prog C0 where
 tg:=.fn 75
 X:=Unit
 args _:=[.int .i64 (F.m:Int),.int .i64 (K.t:Int)]
 mem _:=[]
 pre _:=True
 alts _:=[⟨Oq,fun y=>Oqw K.ld y,fun y=>.tup [.sl 0 0 K.ld.length y.2.2.2.2,.int .i64 (K.D:Int),.nili],fun y=>[oqC true y]⟩]
 mat vs m:=match vs with
  | [.int _ _,.int _ _]=>some ((),[])
  | _=>none
 ok:=fun _ _=>leaders_ok K
theorem least_ok:
 Does (C:=C0) Tryz.prog (.fn 50) [] [.int .i64 (F.m:Int),.int .i64 (K.t:Int)]
  [⟨Unit,fun _=>True,fun _=>.tup [.int .i64 (K.D:Int),.nili],fun _=>[]⟩]:=by
 refine loc_fn (P:=Tryz.prog) (E:=⟨[fcLeaders K],[],18,[],[],[],none⟩) (L:=[]) mix Tryz.func50 rfl (by kernel_rfl) (by kernel_rfl) rfl rfl ?_
 ((conv=>arg 1;reduce);with_reducible repeat' first | exact ty | refine ta ?_ ?_ | refine ti fun _ => ?_ | refine tf fun _ => ?_ | refine tl ?_)
 all_goals try exact vlf
 refine Ends.one () trivial ?_
 exact vgo
def fcLeast:Fc Tryz.prog C0 where
 tg:=.fn 50
 X:=Unit
 args _:=[.int .i64 (F.m:Int),.int .i64 (K.t:Int)]
 mem _:=[]
 pre _:=True
 alts _:=[⟨Unit,fun _=>True,fun _=>.tup [.int .i64 (K.D:Int),.nili],fun _=>[]⟩]
 mat vs m:=match vs with
  | [.int _ _,.int _ _]=>some ((),[])
  | _=>none
 ok:=fun _ _=>least_ok K
end
end
end Go.Vx
