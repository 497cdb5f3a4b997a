/-
  Round 10: the errors that are laid; the inputs.
  Conditions: none.
-/
import Derived.Test.YtfjogcklhibboaaGreatDoorM4
import Derived.Test.YtfjogcklhibboaaGreatDoorRows
import Derived.LaidMore
import Derived.ChangeOld
import Derived.Below
import Derived.Stop.Joined
import Derived.Lib.SmallJoins
set_option linter.unusedVariables false
set_option linter.unusedSimpArgs false
set_option linter.unusedSectionVars false
set_option maxRecDepth 100000
namespace Go.Vx
open Go Go.Proofs Go.ChangeShapes Go.WideShapes Go.Deep Go.RowKit Go.Proofs.YtfjogcklhibboaaGreatDoor
theorem c9:Tryz.prog.cellsOf 9=1:=by kernel_rfl
theorem c210:Tryz.prog.cellsOf 210=1:=by kernel_rfl
theorem star : "*" ++ "errors.errorString" = "*errors.errorString" := by decide
theorem rowE (u : TypeId) (h : Tryz.prog.typeName? 3 u = some "*errors.errorString") : u = 193 :=
 typeName_ptr_named (nm := "errors.errorString") (by rw [star]; kernel_rfl) (by kernel_rfl) (by decide) u (by rw [star]; exact h)
theorem gl_of {W : World} {L : List (String × DataW Unit)} {G0 : List Nat} {N : Nat} (pos : Nat → Nat) (hp : ∀ g, g < N → pos g < G0.length ∧ G0.getD (pos g) 0 = g) (hL : SentL Tryz.prog "*errors.errorString" 35 L G0) (h : laidMet Tryz.prog L W) :
 ∃ G:Gl,@Gl.lv G=N∧(∀ i j,i<N→j<N → @Gl.A G i = @Gl.A G j→i=j)∧∀ g,g<N→
 W.cell? ⟨g,0,none⟩=some (.iface 193 (.pointer (some (@Gl.A G g))))∧W.heap[(@Gl.A G g).block]? = some (.cells (@Gl.c G g) (@Gl.t G g) (0,0)):=by
 obtain ⟨ps,hv,hnd,hrows⟩:=h
 obtain ⟨az,hs,_⟩:=laid_all Tryz.underlying35 rowE Tryz.underlying193 Tryz.underlying210 rfl rfl Tryz.underlying9 c210 c9 _ _ _ hL hv hnd hrows
 have hex:∀ g,∃ p:Array Value×TypeId,g<N→W.heap[(az.getD (pos g) default).block]? = some (.cells p.1 p.2 (0,0)):=by
  intro g
  by_cases hg:g<N
  · obtain ⟨_,c,t,h2⟩:=hs.get (pos g) (hp g hg).1
    exact ⟨(c,t),fun _=>h2⟩
  · exact ⟨(#[],0),fun h=>absurd h hg⟩
 refine ⟨⟨fun g=>az.getD (pos g) default,fun g=>(Classical.choose (hex g)).1,fun g=>(Classical.choose (hex g)).2,N⟩,rfl,?_,?_⟩
 · intro i j hi hj he
   have:=hs.one (hp i hi).1 (hp j hj).1 he
   rw [← (hp i hi).2,← (hp j hj).2,this]
 · intro g hg
   obtain ⟨h1,_⟩:=hs.get (pos g) (hp g hg).1
   rw [(hp g hg).2] at h1
   exact ⟨h1,Classical.choose_spec (hex g) hg⟩
theorem gv_is [Gl] (g:Nat):(C0 g).gv=glV g:=by unfold C0;split <;> rfl
theorem gp_is [Gl] (g:Nat):(C0 g).gpins=glP g:=by unfold C0;split <;> rfl
theorem glB_lt [Gl] {g:Nat} {n:Nat} (h3:6≤n) (hn:Gl.lv≤n) (h:glB g=true):g<n:=by
 unfold glB at h
 split at h
 · rename_i hb;have:g<6:=by simpa using hb
   omega
 · have:g<Gl.lv:=by simpa using h
   omega
theorem more_of [Gl] {W:World} {n:Nat} (h3:6≤n) (hn:Gl.lv≤n) (h:∀ g,g<n→W.cell? ⟨g,0,none⟩=some (.iface 193 (.pointer (some (Gl.A g))))∧W.heap[(Gl.A g).block]? = some (.cells (Gl.c g) (Gl.t g) (0,0)))
 {mem:List (Ck C0)} (hnw:noWr mem=true) (hd:∀ c∈mem,∀ t x,c.cells.Has t x→(C0 t).good W x∧∀ b∈(C0 t).blks x,b<W.heap.size):More (wrS mem) W W mem where
 gv g v hv:=by
  rw [gv_is] at hv
  unfold glV at hv
  split at hv
  · rename_i hb
    have hg:=glB_lt h3 hn hb
    simp only [Option.some.injEq] at hv
    subst hv
    obtain ⟨h1,_⟩:=h g hg
    refine ⟨h1,?_,?_⟩
    · rcases Nat.lt_or_ge g W.heap.size with h' | h'
      · exact h'
      · simp [World.cell?,Array.getElem?_eq_none h'] at h1
    · rintro ⟨c,hc,hw,_⟩
      rw [noWr_ok hnw c hc] at hw;cases hw
  · cases hv
 gp g p hp:=by
  rw [gp_is] at hp
  unfold glP at hp
  split at hp
  · rename_i hb
    have hg:=glB_lt h3 hn hb
    rw [List.mem_singleton] at hp
    subst hp
    obtain ⟨_,h2⟩:=h g hg
    refine ⟨h2,heap_size_of h2,?_⟩
    rintro ⟨c,hc,hw,_⟩
    rw [noWr_ok hnw c hc] at hw;cases hw
  · cases hp
 pin p hp:=by cases hp
 nod:=List.nodup_nil
 deep:=deep_ro hnw hd
theorem bytes_open {H:Type} {enc:TypeId×Value→H} {W:World} {base b0:Nat} {r:Reach} {v:Value} {d:DataW H} {p:List MemPlace} (hv:Value.okWide Tryz.prog W r b0 22 v)
 (h:DataW.Trod enc Tryz.prog W base (fun _=>true) true 22 v d p):∃ (a:Option Addr) (n c:Nat) (l:List Int),v=.slice a n c∧IsRows (cInt .u8) W a n c l∧Byt8 l:=by
 obtain ⟨a,n,c,rfl⟩:=okWide_slice Tryz.underlying22 hv
 obtain ⟨fuel,hf⟩:=h
 have hf:DataW.trod enc Tryz.prog W base (fun _=>true) true fuel 22 [.slice a n c]=some (d,p):=by simpa [Value.cells] using hf
 rcases open_ints Tryz.underlying22 Tryz.underlying5 (by kernel_rfl) hf with ⟨hcs,_⟩ | ⟨x,len',cap',zs,hcs,_,hl,_,hz,_,hcell,hw⟩
 · simp at hcs
   obtain ⟨rfl,rfl,rfl⟩:=hcs
   exact ⟨none,0,0,[],rfl,.inl ⟨rfl,rfl,rfl,rfl⟩,fun x hx=>by cases hx⟩
 · simp at hcs
   obtain ⟨rfl,rfl,rfl⟩:=hcs
   simp only [if_true] at hz
   obtain ⟨hs,hb⟩:=okWide_at Tryz.underlying22 hv
   refine ⟨some x,n,c,zs,rfl,.inr ⟨x,rfl,hs,hb,hl,hz,fun i hi f hf => ?_⟩,fun n hn => ?_⟩
   · obtain rfl:f=0:=by
      have:f<1:=hf
      omega
     rw [show i*1+0=i by omega,hcell i (by omega)]
     rfl
   · have:=hw n hn
     simp [Lit.wf,IntKind.min,IntKind.max,IntKind.signed,IntKind.bits] at this
     omega
abbrev Int64 (n:Nat) (l:List Int):Prop:=(∀ x∈l,inR .i64 x)∧n≤9223372036854775807
theorem ints_open {H:Type} {enc:TypeId×Value→H} {W:World} {base b0:Nat} {r:Reach} {v:Value} {d:DataW H} {p:List MemPlace} (hv:Value.okWide Tryz.prog W r b0 33 v)
 (h:DataW.Trod enc Tryz.prog W base (fun _=>true) true 33 v d p):∃ (a:Option Addr) (n c:Nat) (l:List Int),v=.slice a n c∧IsRows (cInt .i64) W a n c l∧Int64 n l:=by
 obtain ⟨a,n,c,rfl⟩:=okWide_slice Tryz.underlying33 hv
 obtain ⟨fuel,hf⟩:=h
 have hf:DataW.trod enc Tryz.prog W base (fun _=>true) true fuel 33 [.slice a n c]=some (d,p):=by simpa [Value.cells] using hf
 rcases open_ints Tryz.underlying33 Tryz.underlying3 (by kernel_rfl) hf with ⟨hcs,_⟩ | ⟨x,len',cap',zs,hcs,_,hl,_,hz,_,hcell,hw⟩
 · simp at hcs
   obtain ⟨rfl,rfl,rfl⟩:=hcs
   exact ⟨none,0,0,[],rfl,.inl ⟨rfl,rfl,rfl,rfl⟩,(fun x hx=>by cases hx),Nat.zero_le _⟩
 · simp at hcs
   obtain ⟨rfl,rfl,rfl⟩:=hcs
   simp only [if_true] at hz
   obtain ⟨hs,hb⟩:=okWide_at Tryz.underlying33 hv
   have hc:(c:Int)≤IntKind.i64.max:=by
    simp only [Value.okWide,Tryz.underlying33,Cell.okWide,Cell.ok] at hv
    exact hv.2.1
   have hm:IntKind.i64.max=9223372036854775807:=by decide
   refine ⟨some x,n,c,zs,rfl,.inr ⟨x,rfl,hs,hb,hl,hz,fun i hi f hf => ?_⟩,fun n hn => ?_,by omega⟩
   · obtain rfl:f=0:=by
      have:f<1:=hf
      omega
     rw [show i*1+0=i by omega,hcell i (by omega)]
     rfl
   · have:=hw n hn
     simp [Lit.wf,IntKind.min,IntKind.max,IntKind.signed,IntKind.bits] at this
     exact inR64 (by omega) (by omega)
end Go.Vx
