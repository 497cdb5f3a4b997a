/-
  Fields of characteristic 2: sums, values of polynomials, roots, Vandermonde: plain facts.
  The shortest recurrence of a list of sums of powers: plain facts.
  The field of 2^m elements, az numbers: doubling, products, the powers of 2: plain facts.
  The field of 2^m elements: the powers of 2 are all of it but 0: plain facts.
  Words az polynomials of bits: values, flips, the register of a division; when a word is mended, and that what is mended is right: plain facts.
  Polynomials az lists over the field, what the code makes of them; the way of Berlekamp and Massey, step by step: plain facts.
  Bits of bytes; the operations on bits, az numbers: plain facts.
  Round 10: element types; errors; slices of slices.
  Round 10: the field's tables, sums, products, powers, quotients.
  Round 10: the powers that products are reduced by; a field is made.
  Round 10: polynomials over the field: rings, noughts at the end.
  Round 10: sums of polynomials over the field.
  Round 10: sums of products in the walk of Berlekamp and Massey: locate.at, locate.sum.
  Round 10: the document's products and powers, step by step: plain facts.
  Round 10: the document's arithmetic: Low, Poly, Mul, Power, Exp, Inv.
  Round 10: one step of the walk of Berlekamp and Massey: locate.Locate$1.
  Conditions: none.
-/
import Derived.Test.YtfjogcklhibboaaGreatDoorM1
import Derived.Test.YtfjogcklhibboaaGreatDoorM4
import Derived.KernelRfl
import Derived.Test.YtfjogcklhibboaaGreatDoorProg
open Bool renaming and_eq_true → zn, false_ne_true → vf, or_eq_false_iff → xd, or_eq_true → xw, toNat_le → ub, true_and → yw
open Int renaming add_emod_right → oa, emod_emod_of_dvd → tz, emod_eq_of_lt → rf, emod_lt_of_pos → sr, emod_nonneg → ug, eq_ofNat_of_zero_le → yh, natCast_emod → qu, natCast_nonneg → vy, tmod_eq_emod_of_nonneg → pp, tmod_lt_of_pos → uv, toNat_natCast → zo
open List renaming drop_zero → zq, ext_getElem → wn, getD_eq_getElem?_getD → zy, getElem?_append_left → zf, getElem?_eq_getElem → zt, getElem?_eq_none → yr, getElem?_map → zh, getElem?_range → wq, getElem?_set_ne → uq, getElem?_set_self → ux, getElem?_take_of_lt → yf, getElem_map → th, getElem_range → sj, length → wh, length_append → zu, length_map → zm, length_range → sf, length_replicate → ye, length_set → zg, map_congr_left → xh, map_map → se, mem_cons_of_mem → yv, mem_cons_self → xe, mem_of_find?_eq_some → pk, pairwise_map → np, range → xj, replicate → zw, take_append_of_le_length → um, take_length → xc, take_of_length_le → za
open Nat renaming add_comm → uj, and_le_left → ud, blt → xz, blt_eq → uk, div_eq_iff → ol, eq_of_beq_eq_true → zp, eq_of_testBit_eq → vx, le_of_not_lt → ve, le_refl → zx, le_trans → xk, lt_irrefl → ua, lt_of_le_of_lt → vw, lt_of_lt_of_le → zk, lt_pow_two_of_testBit → tu, lt_succ_of_lt → qz, lt_succ_self → wl, min_eq_left → ww, mod_lt → zc, mul_comm → xn, mul_div_cancel_left → rh, not_lt_zero → wy, one_lt_two_pow → ui, one_mul → ov, pos_of_ne_zero → sh, pow_le_pow_right → zi, pow_succ → wc, pow_zero → sd, shiftLeft_eq → ul, testBit_eq_decide_div_mod_eq → xb, testBit_lt_two_pow → xp, testBit_succ → wv, testBit_two_pow → vq, testBit_xor → wi, two_pow_pos → yd, xor_assoc → rx, xor_comm → ro, xor_lt_two_pow → vc, xor_self → qi, xor_zero → tb, zero_add → wo, zero_le → ze, zero_lt_one → ox, zero_testBit → xa
open Option renaming getD_some → xy, map_some → yk
set_option linter.unusedVariables false
set_option linter.unusedSimpArgs false
set_option linter.unusedSectionVars false
namespace Go.Vx
class Fd (K:Type) extends Add K,Mul K where
 zr:K
 un:K
 iv:K→K
 addA:∀ a b c:K,a+b+c=a+(b+c)
 addC:∀ a b:K,a+b=b+a
 add0:∀ a:K,a+zr=a
 add2:∀ a:K,a+a=zr
 mulA:∀ a b c:K,a*b*c=a*(b*c)
 mulC:∀ a b:K,a*b=b*a
 mul1:∀ a:K,a*un=a
 dist:∀ a b c:K,a*(b+c)=a*b+a*c
 ne:un≠zr
 inv:∀ a:K,a≠zr→a*iv a=un
namespace Fd
variable {K:Type} [Fd K]
theorem zadd (a:K):zr+a=a:=by rw [addC,add0]
theorem addL (a b c:K):a+(b+c)=b+(a+c):=by rw [← addA,addC a b,addA]
theorem mulL (a b c:K):a*(b*c)=b*(a*c):=by rw [← mulA,mulC a b,mulA]
theorem kill (a b:K):a+(a+b)=b:=by rw [← addA,add2,zadd]
theorem eq_of_add {a b:K} (h:a+b=zr):a=b:=by
 have:a+b+b=zr+b:=by rw [h]
 rw [addA,add2,add0,zadd] at this
 exact this
theorem add_ne {a b:K} (h:a≠b):a+b≠zr:=fun e=>h (eq_of_add e)
theorem mul0 (a:K):a*zr=zr:=by
 have:a*zr+a*zr=a*zr:=by rw [← dist,add0]
 rw [add2] at this
 exact this.symm
theorem zmul (a:K):zr*a=zr:=by rw [mulC,mul0]
theorem umul (a:K):un*a=a:=by rw [mulC,mul1]
theorem distr (a b c:K):(a+b)*c=a*c+b*c:=by rw [mulC,dist,mulC c a,mulC c b]
theorem eq_zero {a b:K} (h:a*b=zr) (ha:a≠zr):b=zr:=by
 have:iv a*(a*b)=zr:=by rw [h,mul0]
 rw [← mulA,mulC (iv a),inv a ha,umul] at this
 exact this
theorem mul_ne {a b:K} (ha:a≠zr) (hb:b≠zr):a*b≠zr:=fun h=>hb (eq_zero h ha)
theorem iv_ne {a:K} (ha:a≠zr):iv a≠zr:=by
 intro h
 have:=inv a ha
 rw [h,mul0] at this
 exact ne this.symm
theorem mul_cancel {a b c:K} (ha:a≠zr) (h:a*b=a*c):b=c:=by
 have h1:a*(b+c)=zr:=by rw [dist,h,add2]
 exact eq_of_add (eq_zero h1 ha)
theorem iv_uniq {a b:K} (h:a*b=un):b=iv a:=by
 have ha:a≠zr:=fun e=>ne (by rw [← h,e,zmul])
 exact mul_cancel ha (h.trans (inv a ha).symm)
theorem sqD (a b:K):(a+b)*(a+b)=a*a+b*b:=by
 rw [dist,distr,distr,mulC b a,addA,addL (a*b),← addA (a*b),add2,zadd] <;> rfl
def pw (x:K):Nat→K
 | 0=>un
 | n+1=>pw x n*x
theorem pw_add (x:K) (a:Nat):∀ b,pw x (a+b)=pw x a*pw x b
 | 0=>(mul1 _).symm
 | b+1=>by show pw x (a+b)*x=_*(pw x b*x);rw [pw_add x a b,mulA]
theorem pw_one (x:K):pw x 1=x:=umul x
theorem pw_mulx (x y:K):∀ n,pw (x*y) n=pw x n*pw y n
 | 0=>(mul1 _).symm
 | n+1=>by show pw (x*y) n*(x*y)=pw x n*x*(pw y n*y);rw [pw_mulx x y n,mulA,mulA,mulL (pw y n)]
theorem pw_ne {x:K} (h:x≠zr):∀ n,pw x n≠zr
 | 0=>ne
 | n+1=>mul_ne (pw_ne h n) h
theorem pw_sq (x:K) (n:Nat):pw (x*x) n=pw x n*pw x n:=pw_mulx x x n
def su {α:Type}:List α→(α→K)→K
 | [],_=>zr
 | a :: l,f=>f a+su l f
section
variable {α:Type} {l:List α} {f g:α→K}
theorem su_congr (h:∀ x∈l,f x=g x):su l f=su l g:=by
 induction l with
 | nil=>rfl
 | cons a l ih=>show f a+_=g a+_;rw [h a (xe ..),ih fun x hx=>h x (yv _ hx)]
theorem su_zero (h:∀ x∈l,f x=zr):su l f=zr:=by
 induction l with
 | nil=>rfl
 | cons a l ih=>show f a+_=zr;rw [h a (xe ..),ih fun x hx=>h x (yv _ hx),add0]
theorem su_add:su l (fun x=>f x+g x)=su l f+su l g:=by
 induction l with
 | nil=>exact (add0 _).symm
 | cons a l ih=>show f a+g a+_=f a+_+(g a+_);rw [ih,addA,addA,addL (g a)]
theorem su_mul (c:K):su l (fun x=>c*f x)=c*su l f:=by
 induction l with
 | nil=>exact (mul0 _).symm
 | cons a l ih=>show c*f a+_=c*(f a+_);rw [ih,dist]
theorem su_app (l':List α):su (l ++ l') f=su l f+su l' f:=by
 induction l with
 | nil=>exact (zadd _).symm
 | cons a l ih=>show f a+su (l ++ l') f=f a+su l f+su l' f;rw [ih,addA]
theorem su_map {β:Type} {l:List β} (h:β→α):su (l.map h) f=su l fun x=>f (h x):=by
 induction l with
 | nil=>rfl
 | cons a l ih=>show f (h a)+_=f (h a)+_;rw [ih]
end
def sm:Nat→(Nat→K)→K
 | 0,_=>zr
 | n+1,f=>sm n f+f n
section
variable {n:Nat} {f g:Nat→K}
theorem sm_congr (h:∀ i,i<n→f i=g i):sm n f=sm n g:=by
 induction n with
 | zero=>rfl
 | succ n ih=>show sm n f+f n=sm n g+g n;rw [ih fun i hi=>h i (qz hi),h n (wl n)]
theorem sm_zero (h:∀ i,i<n→f i=zr):sm n f=zr:=by
 induction n with
 | zero=>rfl
 | succ n ih=>show sm n f+f n=zr;rw [ih fun i hi=>h i (qz hi),h n (wl n),add0]
theorem sm_add:sm n (fun x=>f x+g x)=sm n f+sm n g:=by
 induction n with
 | zero=>exact (add0 _).symm
 | succ n ih=>show _+(f n+g n)=_+f n+(_+g n);rw [ih,addA,addA,addL (f n)]
theorem sm_mul (c:K):sm n (fun x=>c*f x)=c*sm n f:=by
 induction n with
 | zero=>exact (mul0 _).symm
 | succ n ih=>show _+c*f n=c*(_+f n);rw [ih,dist]
theorem sm_split (a:Nat):∀ b,sm (a+b) f=sm a f+sm b fun i=>f (a+i)
 | 0=>(add0 _).symm
 | b+1=>by show sm (a+b) f+f (a+b)=sm a f+(_+f (a+b));rw [sm_split a b,addA]
theorem sm_head:sm (n+1) f=f 0+sm n fun i=>f (i+1):=by
 rw [uj n 1,sm_split 1 n]
 show zr+f 0+_=_
 rw [zadd]
 congr 1
 exact sm_congr fun i _=>by rw [uj]
theorem sm_sum {α:Type} {l:List α} {F:Nat→α→K}:sm n (fun i=>su l (F i))=su l fun x=>sm n fun i=>F i x:=by
 induction n with
 | zero=>exact (su_zero fun _ _=>rfl).symm
 | succ n ih=>show sm n _+su l (F n)=su l fun x=>sm n _+F n x;rw [ih,← su_add]
theorem sm_more {m:Nat} (h:n≤m) (hz:∀ i,n≤i→i<m→f i=zr):sm m f=sm n f:=by
 obtain ⟨b,rfl⟩:∃ b,m=n+b:=⟨m - n,by omega⟩
 rw [sm_split,sm_zero (n:=b) (fun i hi=>hz _ (by omega) (by omega)),add0]
theorem sm_sq:sm n f*sm n f=sm n fun x=>f x*f x:=by
 induction n with
 | zero=>exact mul0 _
 | succ n ih=>show (sm n f+f n)*(sm n f+f n)=_+f n*f n;rw [sqD,ih]
end
theorem vand {l:List K} (hn:l.Nodup):∀ {Y:K→K},(∀ k,k<l.length→su l (fun x=>Y x*pw x k)=zr)→∀ x∈l,Y x=zr:=by
 induction l with
 | nil=>intro Y _ x hx;cases hx
 | cons a r ih=>
   intro Y h
   obtain ⟨ha,hr⟩:=List.nodup_cons.1 hn
   have h1:∀ x∈r,Y x*(x+a)=zr:=by
    refine ih hr (Y:=fun x=>Y x*(x+a)) fun k hk => ?_
    have e1:=h (k+1) (Nat.succ_lt_succ hk)
    have e2:=h k (qz hk)
    have e3:su (a :: r) (fun x=>Y x*pw x (k+1)+a*(Y x*pw x k))=zr:=by rw [su_add,su_mul,e1,e2,mul0,add0]
    have e4:su (a :: r) (fun x=>Y x*pw x (k+1)+a*(Y x*pw x k))=su (a :: r) fun x=>Y x*(x+a)*pw x k:=by
     refine su_congr fun x _ => ?_
     show Y x*(pw x k*x)+a*(Y x*pw x k)=_
     rw [dist,distr,mulC (pw x k),mulA,mulA,mulL a]
    rw [e4] at e3
    change Y a*(a+a)*pw a k+_=zr at e3
    rw [add2,mul0,zmul,zadd] at e3
    exact e3
   have h2:∀ x∈r,Y x=zr:=fun x hx=>by
    have:=h1 x hx
    rw [mulC] at this
    exact eq_zero this (add_ne fun e=>ha (e ▸ hx))
   intro x hx
   rcases List.mem_cons.1 hx with rfl | hx
   · have:=h 0 (Nat.succ_pos _)
     change Y x*un+_=zr at this
     rwa [su_zero fun y hy=>by rw [h2 y hy,zmul],add0,mul1] at this
   · exact h2 x hx
def ev:List K→K→K
 | [],_=>zr
 | c :: l,x=>c+x*ev l x
theorem ev_sm:∀ (l:List K) (x:K),ev l x=sm l.length fun i=>l.getD i zr*pw x i
 | [],x=>rfl
 | c :: l,x=>by
   show c+x*ev l x=sm (l.length+1) _
   rw [sm_head,ev_sm l x,← sm_mul]
   congr 1
   · exact (mul1 c).symm
   · exact sm_congr fun i _=>by
      show x*(l.getD i zr*pw x i)=l.getD i zr*(pw x i*x)
      rw [mulL,mulC x]
def syn (a:K):List K→List K
 | []=>[]
 | c :: l=>match l with
   | []=>[]
   | d :: r=>ev (d :: r) a :: syn a (d :: r)
theorem syn_len (a:K):∀ l:List K,(syn a l).length=l.length - 1
 | []=>rfl
 | [c]=>rfl
 | c :: d :: r=>by show (syn a (d :: r)).length+1=_;rw [syn_len a (d :: r)];rfl
theorem syn_ev (a x:K):∀ l:List K,ev l x+ev l a=(x+a)*ev (syn a l) x
 | []=>by show zr+zr=_*zr;rw [add0,mul0]
 | [c]=>by show (c+x*zr)+(c+a*zr)=_*zr;rw [mul0,mul0,mul0,add2]
 | c :: d :: r=>by
   have ih:=syn_ev a x (d :: r)
   show c+x*ev (d :: r) x+(c+a*ev (d :: r) a)=(x+a)*(ev (d :: r) a+x*ev (syn a (d :: r)) x)
   rw [dist,mulL (x+a) x,← ih,addA,addL (x*_) c,kill,dist,distr]
   generalize ev (d :: r) x=p,ev (d :: r) a=q
   rw [addA,addL (a*q),addL (x*q),addC (a*q) (x*q),kill]
theorem roots {R:List K} (hn:R.Nodup):∀ {l:List K},l.length≤R.length→(∀ x∈R,ev l x=zr)→∀ c∈l,c=zr:=by
 induction R with
 | nil=>intro l hl _ c hc;cases l with | nil=>cases hc | cons _ _=>exact absurd hl (Nat.not_succ_le_zero _)
 | cons a R ih=>
   intro l hl h
   obtain ⟨ha,hr⟩:=List.nodup_cons.1 hn
   have h1:∀ c∈syn a l,c=zr:=by
    refine ih hr (by rw [syn_len];have:l.length≤R.length+1:=hl;omega) fun x hx => ?_
    have:=syn_ev a x l
    rw [h x (yv _ hx),h a (xe ..),add0] at this
    exact eq_zero this.symm (add_ne fun e=>ha (e ▸ hx))
   have h0:=h a (xe ..)
   clear ih hl h
   induction l with
   | nil=>intro c hc;cases hc
   | cons c l ih=>
     cases l with
     | nil=>
       change c+a*zr=zr at h0
       rw [mul0,add0] at h0
       intro d hd
       rw [List.mem_singleton.1 hd,h0]
     | cons d r=>
       have e1:ev (d :: r) a=zr:=h1 _ (xe ..)
       have e2:=ih (fun x hx=>h1 x (yv _ hx)) e1
       change c+a*ev (d :: r) a=zr at h0
       rw [e1,mul0,add0] at h0
       intro x hx
       rcases List.mem_cons.1 hx with rfl | hx
       · exact h0
       · exact e2 x hx
end Fd
end Go.Vx
namespace Go.Vx.Fd
variable {K:Type} [Fd K]
def phi (C:Nat→K) (L:Nat) (s:Nat→K) (j:Nat):K:=sm (L+1) fun i=>C i*s (j - i)
def rv (C:Nat→K) (L:Nat) (x:K):K:=sm (L+1) fun i=>C i*pw x (L - i)
def Rep (s:Nat→K) (n:Nat) (l:List K) (Y:K→K):Prop:=∀ k,k<n→s k=su l fun x=>Y x*pw x k
variable {s:Nat→K} {n:Nat} {C B:Nat→K} {L:Nat} {l:List K} {Y:K→K}
theorem phi_rep (h:Rep s n l Y) {j:Nat} (hL:L≤j) (hj:j<n):phi C L s j=su l fun x=>Y x*rv C L x*pw x (j - L):=by
 unfold phi rv
 rw [sm_congr (g:=fun i=>su l fun x=>C i*(Y x*pw x (j - i))) fun i hi=>by rw [h _ (by omega),su_mul]]
 rw [sm_sum]
 refine su_congr fun x _ => ?_
 rw [mulA,mulC (sm _ _),← sm_mul,← sm_mul]
 refine sm_congr fun i hi => ?_
 rw [mulL,mulL (pw x (j - L)),← pw_add]
 congr 3
 omega
theorem low_of (h:Rep s (n+1) l Y) (hl:l.Nodup) (hz:∀ j,L≤j→j<n→phi C L s j=zr) (hd:phi C L s n≠zr) (hL:L≤n):n+1 - L≤l.length:=by
 refine ve fun hlt=>hd ?_
 have h0:∀ x∈l,Y x*rv C L x=zr:=by
  refine vand hl (Y:=fun x=>Y x*rv C L x) fun k hk => ?_
  have:=hz (L+k) (by omega) (by omega)
  rw [phi_rep h (by omega) (by omega),show L+k - L=k by omega] at this
  exact this
 rw [phi_rep h hL (by omega)]
 exact su_zero fun x hx=>by rw [h0 x hx,zmul]
structure BM (s:Nat→K) (n:Nat) (C B:Nat→K) (L k b:Nat) (e:K):Prop where
 c0:C 0=un
 cd:∀ i,L<i→C i=zr
 bd:∀ i,b<i→B i=zr
 k1:1≤k
 e0:e≠zr
 rel:k+b+L=n+1
 cz:∀ j,L≤j→j<n→phi C L s j=zr
 bz:L=0∨(k≤n∧b≤n - k∧phi B b s (n - k)=e∧∀ j,b≤j→j<n - k→phi B b s j=zr)
 low:∀ l Y,l.Nodup→Rep s n l Y→L≤l.length
def upd (C B:Nat→K) (k:Nat) (q:K) (i:Nat):K:=C i+(if i<k then zr else B (i - k))*q
theorem phi_upd {L' b k:Nat} {q:K} (hc:∀ i,L<i→C i=zr) (hb:∀ i,b<i→B i=zr) (h1:L≤L') (h2:k+b≤L') {j:Nat} (hj:L'≤j):
 phi (upd C B k q) L' s j=phi C L s j+q*phi B b s (j - k):=by
 have e1:phi (upd C B k q) L' s j=sm (L'+1) (fun i=>C i*s (j - i))+q*sm (L'+1) fun i=>(if i<k then zr else B (i - k))*s (j - i):=by
  unfold phi
  rw [← sm_mul,← sm_add]
  refine sm_congr fun i _ => ?_
  unfold upd
  rw [distr,mulC _ q,mulA]
 rw [e1,sm_more (n:=L+1) (by omega) fun i hi _=>by rw [hc i (by omega),zmul]]
 congr 2
 obtain ⟨r,hr⟩:∃ r,L'+1=k+r:=⟨L'+1 - k,by omega⟩
 rw [hr,sm_split,sm_zero (n:=k) fun i hi=>by rw [if_pos hi,zmul],zadd]
 rw [sm_more (n:=b+1) (by omega) fun i hi _=>by rw [if_neg (by omega),show k+i - k=i by omega,hb i (by omega),zmul]]
 refine sm_congr fun i hi => ?_
 rw [if_neg (by omega),show k+i - k=i by omega,show j - (k+i)=j - k - i by omega]
theorem Rep.less (h:Rep s (n+1) l Y):Rep s n l Y:=fun k hk=>h k (qz hk)
variable {k b:Nat} {e:K}
theorem bm_start (hs:C 0=un) (hc:∀ i,0<i→C i=zr) (hb:∀ i,0<i→B i=zr):BM s 0 C B 0 1 0 un:=
 ⟨hs,hc,hb,zx 1,ne,rfl,fun j _ h=>absurd h (wy j),.inl rfl,fun _ _ _ _=>ze _⟩
theorem bm_fit (h:BM s n C B L k b e) (hd:phi C L s n=zr):BM s (n+1) C B L (k+1) b e:=by
 refine ⟨h.c0,h.cd,h.bd,by omega,h.e0,by have:=h.rel;omega,fun j h1 h2 => ?_,?_,fun l Y h1 h2=>h.low l Y h1 h2.less⟩
 · by_cases hj:j=n
   · rw [hj];exact hd
   · exact h.cz j h1 (by omega)
 · refine h.bz.imp id fun ⟨h1,h2,h3,h4⟩ => ?_
   rw [show n+1 - (k+1)=n - k by omega]
   exact ⟨by omega,h2,h3,h4⟩
theorem bm_turn (h:BM s n C B L k b e) (hd:phi C L s n≠zr) {L':Nat} (h1:L≤L') (h2:k+b≤L') (h3:L'≤n+1) {q:K} (hq:q=phi C L s n*iv e):
 upd C B k q 0=un∧(∀ i,L'<i→upd C B k q i=zr)∧∀ j,L'≤j→j<n+1→phi (upd C B k q) L' s j=zr:=by
 have hk:=h.k1
 refine ⟨?_,fun i hi => ?_,fun j h4 h5 => ?_⟩
 · unfold upd
   rw [if_pos (by omega),zmul,add0,h.c0]
 · unfold upd
   rw [h.cd i (by omega),if_neg (by omega),h.bd _ (by omega),zmul,add0]
 · have hr:=h.rel
   rw [phi_upd h.cd h.bd h1 h2 h4]
   rcases h.bz with h0 | ⟨g1,g2,g3,g4⟩
   · omega
   · by_cases hj:j=n
     · rw [hj,g3,hq,mulA,mulC (iv e),inv _ h.e0,mul1,add2]
     · rw [h.cz j (by omega) (by omega),g4 _ (by omega) (by omega),mul0,add0]
theorem bm_stay (h:BM s n C B L k b e) (hd:phi C L s n≠zr) (h2:n<2*L) {q:K} (hq:q=phi C L s n*iv e):BM s (n+1) (upd C B k q) B L (k+1) b e:=by
 have hr:=h.rel
 obtain ⟨a1,a2,a3⟩:=bm_turn h hd (zx L) (by omega) (by omega) hq
 refine ⟨a1,a2,h.bd,by omega,h.e0,by omega,a3,?_,fun l Y h1 h2=>h.low l Y h1 h2.less⟩
 refine h.bz.imp id fun ⟨h1,h2,h3,h4⟩ => ?_
 rw [show n+1 - (k+1)=n - k by omega]
 exact ⟨by omega,h2,h3,h4⟩
theorem bm_grow (h:BM s n C B L k b e) (hd:phi C L s n≠zr) (h2:2*L≤n) {q:K} (hq:q=phi C L s n*iv e):BM s (n+1) (upd C B k q) C (n+1 - L) 1 L (phi C L s n):=by
 have hr:=h.rel
 obtain ⟨a1,a2,a3⟩:=bm_turn h hd (L':=n+1 - L) (by omega) (by omega) (by omega) hq
 refine ⟨a1,a2,h.cd,zx 1,hd,by omega,a3,.inr ⟨by omega,by omega,rfl,fun j h3 h4=>h.cz j h3 h4⟩,fun l Y h3 h4=>low_of h4 h3 h.cz hd (by omega)⟩
theorem rv_roots (h:BM s n C B L k b e) (hr:Rep s n l Y) (hl:l.Nodup) (hY:∀ x∈l,Y x≠zr) (hn:2*l.length≤n):L≤l.length∧∀ x∈l,rv C L x=zr:=by
 have hL:=h.low l Y hl hr
 refine ⟨hL,fun x hx => ?_⟩
 have h0:∀ x∈l,Y x*rv C L x=zr:=by
  refine vand hl (Y:=fun x=>Y x*rv C L x) fun k hk => ?_
  have:=h.cz (L+k) (by omega) (by omega)
  rw [phi_rep hr (by omega) (by omega),show L+k - L=k by omega] at this
  exact this
 exact eq_zero (h0 x hx) (hY x hx)
theorem pw_iv {x:K} (h:x≠zr):∀ n,pw x n*pw (iv x) n=un
 | 0=>mul1 _
 | n+1=>by
   show pw x n*x*(pw (iv x) n*iv x)=un
   rw [mulA,mulL x,inv x h,mul1,pw_iv h n]
theorem rv_ev {x:K} (hx:x≠zr):rv C L x=pw x L*sm (L+1) fun i=>C i*pw (iv x) i:=by
 unfold rv
 rw [← sm_mul]
 refine sm_congr fun i hi => ?_
 rw [mulL (pw x L)]
 congr 1
 have e:pw x L=pw x (L - i)*pw x i:=by rw [← pw_add];congr 1;omega
 rw [e,mulA,pw_iv hx,mul1]
end Go.Vx.Fd
namespace Go.Vx
def mulx (m p a:Nat):Nat:=if a.testBit (m - 1) then (2*a) ^^^ p else 2*a
def mx (m p:Nat):Nat→Nat→Nat
 | 0,a=>a
 | i+1,a=>mulx m p (mx m p i a)
def mg (m p:Nat):Nat→Nat→Nat→Nat
 | 0,_,_=>0
 | f+1,a,b=>(if b.testBit 0 then a else 0) ^^^ mg m p f (mulx m p a) (b / 2)
theorem two_xor (a b:Nat):2*(a ^^^ b)=(2*a) ^^^ (2*b):=by
 refine vx fun i => ?_
 rw [wi]
 cases i with
 | zero=>simp
 | succ i=>rw [wv,wv,wv];simp
theorem half_xor (a b:Nat):(a ^^^ b) / 2=(a / 2) ^^^ (b / 2):=by
 refine vx fun i => ?_
 rw [wi,← wv,← wv,← wv,wi]
theorem xor_swap (a b c d:Nat):(a ^^^ b) ^^^ (c ^^^ d)=(a ^^^ c) ^^^ (b ^^^ d):=by
 rw [rx,rx,← rx b,ro b c,rx c]
theorem ite_xor (b c:Bool) (a:Nat):(if (b ^^ c)=true then a else 0)=(if b=true then a else 0) ^^^ (if c=true then a else 0):=by
 cases b <;> cases c <;> simp
variable {m p:Nat}
theorem mulx_eq (a:Nat):mulx m p a=(2*a) ^^^ (if a.testBit (m - 1) then p else 0):=by
 unfold mulx
 split
 · rfl
 · rw [tb]
theorem mulx_xor (a b:Nat):mulx m p (a ^^^ b)=mulx m p a ^^^ mulx m p b:=by
 rw [mulx_eq,mulx_eq,mulx_eq,two_xor,wi,ite_xor,xor_swap]
theorem mulx_zero:mulx m p 0=0:=by simp [mulx]
theorem mx_xor (a b:Nat):∀ i,mx m p i (a ^^^ b)=mx m p i a ^^^ mx m p i b
 | 0=>rfl
 | i+1=>by show mulx m p _=_;rw [mx_xor a b i,mulx_xor];rfl
theorem mx_zero:∀ i,mx m p i 0=0
 | 0=>rfl
 | i+1=>by show mulx m p _=_;rw [mx_zero i,mulx_zero]
theorem mx_add (i a:Nat):∀ j,mx m p (i+j) a=mx m p j (mx m p i a)
 | 0=>rfl
 | j+1=>congrArg (mulx m p) (mx_add i a j)
theorem mx_comm (a:Nat):∀ i,mx m p i (mulx m p a)=mulx m p (mx m p i a)
 | 0=>rfl
 | i+1=>by show mulx m p _=_;rw [mx_comm a i];rfl
theorem mg_xor (a a':Nat):∀ (f:Nat) (b:Nat),mg m p f (a ^^^ a') b=mg m p f a b ^^^ mg m p f a' b:=by
 intro f
 induction f generalizing a a' with
 | zero=>intro b;exact (qi 0).symm
 | succ f ih=>
   intro b
   show _ ^^^ mg m p f _ _=(_ ^^^ _) ^^^ (_ ^^^ _)
   rw [mulx_xor,ih,xor_swap]
   congr 1
   split
   · rfl
   · rfl
theorem mg_xorr:∀ (f a b b':Nat),mg m p f a (b ^^^ b')=mg m p f a b ^^^ mg m p f a b'
 | 0,_,_,_=>(qi 0).symm
 | f+1,a,b,b'=>by
   show _ ^^^ mg m p f _ _=(_ ^^^ _) ^^^ (_ ^^^ _)
   rw [half_xor,mg_xorr f,xor_swap,wi,ite_xor]
theorem mg_mulx:∀ (f a b:Nat),mg m p f (mulx m p a) b=mulx m p (mg m p f a b)
 | 0,a,b=>mulx_zero.symm
 | f+1,a,b=>by
   show _ ^^^ mg m p f _ _=mulx m p (_ ^^^ _)
   rw [mulx_xor,mg_mulx f (mulx m p a)]
   congr 1
   split
   · rfl
   · exact mulx_zero.symm
theorem mg_mx (f a b:Nat):∀ i,mg m p f (mx m p i a) b=mx m p i (mg m p f a b)
 | 0=>rfl
 | i+1=>by show mg m p f (mulx m p _) b=mulx m p _;rw [mg_mulx,mg_mx f a b i]
theorem mg_zero:∀ (f a:Nat),mg m p f a 0=0
 | 0,_=>rfl
 | f+1,a=>by show _ ^^^ mg m p f _ (0 / 2)=0;rw [Nat.zero_div,mg_zero f];simp
theorem mg_zl:∀ (f b:Nat),mg m p f 0 b=0
 | 0,_=>rfl
 | f+1,b=>by show _ ^^^ mg m p f _ (b / 2)=0;rw [mulx_zero,mg_zl f];simp
theorem mg_more:∀ (f g a b:Nat),b<2 ^ f→mg m p (f+g) a b=mg m p f a b
 | 0,g,a,b,h=>by rw [show b=0 by rw [sd] at h;omega,mg_zero];rfl
 | f+1,g,a,b,h=>by
   rw [show f+1+g=f+g+1 by omega]
   show _ ^^^ mg m p (f+g) _ _=_ ^^^ mg m p f _ _
   rw [mg_more f g _ _ (by rw [wc] at h;omega)]
theorem mg_one (h:1≤m) (a:Nat):mg m p m a 1=a:=by
 obtain ⟨k,rfl⟩:∃ k,m=k+1:=⟨m - 1,by omega⟩
 show _ ^^^ mg (k+1) p k _ (1 / 2)=a
 rw [show 1 / 2=0 by rfl,mg_zero,tb]
 rfl
theorem mx_one:∀ i,i<m→mx m p i 1=2 ^ i
 | 0,_=>rfl
 | i+1,h=>by
   show mulx m p _=_
   rw [mx_one i (by omega)]
   unfold mulx
   rw [vq,if_neg (by simp;omega),wc,xn]
theorem low_xor (b:Nat):(if b.testBit 0=true then 1 else 0) ^^^ 2*(b / 2)=b:=by
 refine vx fun i => ?_
 rw [wi]
 cases i with
 | zero=>cases h:b.testBit 0 <;> simp
 | succ i=>
   rw [wv,wv,wv,rh _ (by omega)]
   cases h:b.testBit 0 <;> simp
theorem bit_xor (b j:Nat):(if b.testBit 0=true then 2 ^ j else 0) ^^^ 2 ^ (j+1)*(b / 2)=2 ^ j*b:=by
 have e:∀ x:Nat,2 ^ j*x=x <<< j:=fun x=>by rw [ul,xn]
 have e1:(if b.testBit 0=true then 2 ^ j else 0)=(if b.testBit 0=true then 1 else 0) <<< j:=by split <;> simp [ul]
 have e2:2 ^ (j+1)*(b / 2)=(2*(b / 2)) <<< j:=by rw [← e,wc,Nat.mul_assoc]
 rw [e1,e2,← Nat.shiftLeft_xor_distrib,low_xor,e]
theorem mg_bits:∀ (f j b:Nat),j+f≤m→j<m→b<2 ^ f→mg m p f (2 ^ j) b=2 ^ j*b
 | 0,j,b,_,_,h=>by rw [show b=0 by rw [sd] at h;omega,Nat.mul_zero];rfl
 | f+1,j,b,h1,h2,h=>by
   show _ ^^^ mg m p f (mulx m p (2 ^ j)) (b / 2)=_
   by_cases hf:f=0
   · subst hf
     rw [show b / 2=0 by rw [show 0+1=1 from rfl,Nat.pow_one] at h;omega,mg_zero,tb]
     rcases (by rw [show 0+1=1 from rfl,Nat.pow_one] at h;omega:b=0∨b=1) with rfl | rfl
     · simp
     · simp
   · have e:mulx m p (2 ^ j)=2 ^ (j+1):=by
      unfold mulx
      rw [vq,if_neg (by simp;omega),wc,xn]
     rw [e,mg_bits f (j+1) (b / 2) (by omega) (by omega) (by rw [wc] at h;omega),bit_xor]
theorem mg_id (h:1≤m) {b:Nat} (hb:b<2 ^ m):mg m p m 1 b=b:=by
 have:=mg_bits (m:=m) (p:=p) m 0 b (by omega) (by omega) hb
 rwa [sd,ov] at this
theorem lin_ind {Q:Nat→Prop} (h0:Q 0) (hx:∀ a b,Q a→Q b→Q (a ^^^ b)):∀ {n:Nat},(∀ i,i<n→Q (2 ^ i))→∀ a,a<2 ^ n→Q a
 | 0,_,a,h=>by rw [show a=0 by rw [sd] at h;omega];exact h0
 | n+1,h1,a,h=>by
   by_cases ha:a<2 ^ n
   · exact lin_ind h0 hx (fun i hi=>h1 i (by omega)) a ha
   · have e:a=(a % 2 ^ n) ^^^ 2 ^ n:=by
      refine vx fun i => ?_
      rw [wi,Nat.testBit_mod_two_pow,vq]
      by_cases h2:i<n
      · rw [decide_eq_true h2,decide_eq_false (by omega:¬ n=i),yw,Bool.xor_false]
      · by_cases h3:i=n
        · subst h3
          have:a.testBit i=true:=by
           rw [xb]
           have h5:a / 2 ^ i=1:=by
            rw [ol (yd i)]
            rw [wc] at h
            omega
           rw [h5];rfl
          rw [this];simp
        · have:a.testBit i=false:=xp (zk h (zi (by omega) (by omega)))
          rw [this,decide_eq_false h2,decide_eq_false (by omega:¬ n=i)];rfl
     rw [e]
     exact hx _ _ (lin_ind h0 hx (fun i hi=>h1 i (by omega)) _ (zc _ (yd n))) (h1 n (wl n))
structure Gp where
 m:Nat
 p:Nat
 m1:1≤m
 top:p.testBit m=true
 lt:p<2 ^ (m+1)
variable (F:Gp)
theorem Gp.mulx_lt {a:Nat} (h:a<2 ^ F.m):mulx F.m F.p a<2 ^ F.m:=by
 have h1:=F.m1
 refine tu _ fun i hi => ?_
 unfold mulx
 have h2:∀ i,F.m≤i→(2*a).testBit i=(a.testBit (i - 1)):=fun i hi=>by
  obtain ⟨k,rfl⟩:∃ k,i=k+1:=⟨i - 1,by omega⟩
  rw [wv];simp
 have h3:∀ i,F.m<i→a.testBit (i - 1)=false:=fun i hi=>xp (zk h (zi (by omega) (by omega)))
 by_cases hi':i=F.m
 · subst hi'
   split
   · rename_i ht
     rw [wi,h2 _ (zx _),ht,F.top];rfl
   · rename_i ht
     rw [h2 _ (zx _)];exact Bool.eq_false_iff.2 ht
 · split
   · rw [wi,h2 _ hi,h3 i (by omega),xp (zk F.lt (zi (by omega) (by omega)))];rfl
   · rw [h2 _ hi,h3 i (by omega)]
theorem xor_lt {a b n:Nat} (ha:a<2 ^ n) (hb:b<2 ^ n):a ^^^ b<2 ^ n:=vc ha hb
theorem Gp.mx_lt {a:Nat} (h:a<2 ^ F.m):∀ i,mx F.m F.p i a<2 ^ F.m
 | 0=>h
 | i+1=>F.mulx_lt (mx_lt h i)
theorem Gp.mg_lt (b:Nat):∀ (f a:Nat),a<2 ^ F.m→mg F.m F.p f a b<2 ^ F.m:=by
 intro f
 induction f generalizing b with
 | zero=>exact fun a _=>yd _
 | succ f ih=>
   intro a ha
   refine xor_lt ?_ (ih (b / 2) _ (F.mulx_lt ha))
   split
   · exact ha
   · exact yd _
abbrev Gp.mul (a b:Nat):Nat:=mg F.m F.p F.m a b
theorem Gp.basis {Q:Nat→Prop} (h0:Q 0) (hx:∀ a b,Q a→Q b→Q (a ^^^ b)) (h1:∀ i,Q (mx F.m F.p i 1)) (a:Nat) (h:a<2 ^ F.m):Q a:=
 lin_ind h0 hx (n:=F.m) (fun i hi=>by rw [← mx_one (p:=F.p) i hi];exact h1 i) a h
def Gp.pl:Nat:=F.p ^^^ 2 ^ F.m
theorem Gp.pl_lt:F.pl<2 ^ F.m:=by
 refine tu _ fun i hi => ?_
 unfold Gp.pl
 rw [wi,vq]
 by_cases h:i=F.m
 · subst h;rw [F.top];simp
 · rw [xp (zk F.lt (zi (by omega) (by omega)))]
   simp;omega
theorem Gp.mx_m:mx F.m F.p F.m 1=F.pl:=by
 have h1:=F.m1
 obtain ⟨k,hk⟩:∃ k,F.m=k+1:=⟨F.m - 1,by omega⟩
 have e:mx F.m F.p F.m 1=mulx F.m F.p (2 ^ k):=by
  have:mx F.m F.p (k+1) 1=mulx F.m F.p (2 ^ k):=by show mulx F.m F.p (mx F.m F.p k 1)=_;rw [mx_one k (by omega)]
  rw [← this,← hk]
 rw [e]
 unfold mulx Gp.pl
 rw [show F.m - 1=k by omega,Nat.testBit_two_pow_self,if_pos rfl,ro,hk,wc,xn]
theorem Gp.mul_pl (a:Nat) (h:a<2 ^ F.m):F.mul a F.pl=mx F.m F.p F.m a:=by
 refine F.basis (Q:=fun a=>F.mul a F.pl=mx F.m F.p F.m a) ?_ ?_ ?_ a h
 · rw [mx_zero];exact mg_zl _ _
 · intro a b ha hb
   show mg F.m F.p F.m _ _=_
   rw [mg_xor,mx_xor,← ha,← hb]
 · intro i
   show mg F.m F.p F.m _ _=_
   rw [mg_mx,mg_id F.m1 F.pl_lt,← mx_add,uj,mx_add,F.mx_m]
theorem Gp.mul_mulx (a b:Nat) (ha:a<2 ^ F.m) (hb:b<2 ^ F.m):F.mul a (mulx F.m F.p b)=mulx F.m F.p (F.mul a b):=by
 have h1:=F.m1
 have low:∀ b,b<2 ^ (F.m - 1)→F.mul a (2*b)=mulx F.m F.p (F.mul a b):=by
  intro b hb
  rw [← mg_mulx]
  obtain ⟨k,hk⟩:∃ k,F.m=k+1:=⟨F.m - 1,by omega⟩
  show mg F.m F.p F.m a (2*b)=_
  have e:∀ n,n=k+1→mg F.m F.p n a (2*b)=mg F.m F.p n (mulx F.m F.p a) b:=by
   intro n hn
   subst hn
   rw [mg_more k 1 _ b (by rw [hk] at hb;exact hb)]
   show _ ^^^ mg F.m F.p k _ (2*b / 2)=_
   rw [rh b (by omega)]
   simp
  exact e _ hk
 by_cases ht:b.testBit (F.m - 1)=true
 · have e:mulx F.m F.p b=F.pl ^^^ 2*(b ^^^ 2 ^ (F.m - 1)):=by
    unfold mulx Gp.pl
    rw [if_pos ht,two_xor,show 2*2 ^ (F.m - 1)=2 ^ F.m by rw [xn,← wc];congr 1;omega]
    rw [ro (2*b),xor_swap,ro (2 ^ F.m) (2 ^ F.m),qi,tb]
   have hl:b ^^^ 2 ^ (F.m - 1)<2 ^ (F.m - 1):=by
    refine tu _ fun i hi => ?_
    rw [wi,vq]
    by_cases h:i=F.m - 1
    · subst h;rw [ht];simp
    · rw [xp (zk hb (zi (by omega) (by omega)))];simp;omega
   rw [e]
   show mg F.m F.p F.m a _=_
   rw [mg_xorr,show mg F.m F.p F.m a F.pl=mx F.m F.p F.m a from F.mul_pl a ha]
   have e2:=low _ hl
   show _ ^^^ F.mul a _=_
   rw [e2,show F.mul a (b ^^^ 2 ^ (F.m - 1))=F.mul a b ^^^ F.mul a (2 ^ (F.m - 1)) from mg_xorr _ _ _ _,mulx_xor]
   have e3:F.mul a (2 ^ (F.m - 1))=mx F.m F.p (F.m - 1) a:=by
    have:∀ j f a,j<f→mg F.m F.p f a (2 ^ j)=mx F.m F.p j a:=by
     intro j
     induction j with
     | zero=>
       intro f a hf
       obtain ⟨g,rfl⟩:∃ g,f=g+1:=⟨f - 1,by omega⟩
       show _ ^^^ mg F.m F.p g _ (1 / 2)=a
       rw [show 1 / 2=0 from rfl,mg_zero,tb];rfl
     | succ j ih=>
       intro f a hf
       obtain ⟨g,rfl⟩:∃ g,f=g+1:=⟨f - 1,by omega⟩
       show _ ^^^ mg F.m F.p g _ (2 ^ (j+1) / 2)=_
       rw [wc,Nat.mul_div_cancel _ (by omega),ih g _ (by omega),mx_comm]
       have:(2 ^ j*2).testBit 0=false:=by simp
       rw [this]
       simp [mx]
    exact this _ _ _ (by omega)
   have e4:mulx F.m F.p (mx F.m F.p (F.m - 1) a)=mx F.m F.p F.m a:=by
    have:mx F.m F.p (F.m - 1+1) a=mulx F.m F.p (mx F.m F.p (F.m - 1) a):=rfl
    rw [← this];congr 1;omega
   rw [e3,e4,ro (mulx F.m F.p _),← rx,qi,Nat.zero_xor]
 · have ht:b.testBit (F.m - 1)=false:=Bool.eq_false_iff.2 ht
   have hl:b<2 ^ (F.m - 1):=by
    refine tu _ fun i hi => ?_
    by_cases h:i=F.m - 1
    · subst h;exact ht
    · exact xp (zk hb (zi (by omega) (by omega)))
   have e:mulx F.m F.p b=2*b:=by unfold mulx;rw [ht];rfl
   rw [e,low b hl]
theorem Gp.mul_mx (a b:Nat) (ha:a<2 ^ F.m) (hb:b<2 ^ F.m):∀ i,F.mul a (mx F.m F.p i b)=mx F.m F.p i (F.mul a b)
 | 0=>rfl
 | i+1=>by
   show F.mul a (mulx F.m F.p _)=mulx F.m F.p _
   rw [F.mul_mulx a _ ha (F.mx_lt hb i),mul_mx a b ha hb i]
theorem Gp.one_lt:1<2 ^ F.m:=ui (by have:=F.m1;omega)
theorem Gp.mul_comm (a b:Nat) (ha:a<2 ^ F.m) (hb:b<2 ^ F.m):F.mul a b=F.mul b a:=by
 refine F.basis (Q:=fun a=>F.mul a b=F.mul b a) ?_ ?_ ?_ a ha
 · show mg F.m F.p F.m 0 b=mg F.m F.p F.m b 0
   rw [mg_zero,mg_zl]
 · intro a c h1 h2
   show mg F.m F.p F.m _ _=mg F.m F.p F.m _ _
   rw [mg_xor,mg_xorr]
   exact congr (congrArg _ h1) h2
 · intro i
   rw [F.mul_mx b 1 hb F.one_lt]
   show mg F.m F.p F.m _ _=_
   rw [mg_mx,mg_id F.m1 hb]
   show _=mx F.m F.p i (mg F.m F.p F.m b 1)
   rw [mg_one F.m1]
theorem Gp.mul_assoc (a b c:Nat) (ha:a<2 ^ F.m) (hb:b<2 ^ F.m):F.mul (F.mul a b) c=F.mul a (F.mul b c):=by
 refine F.basis (Q:=fun a=>F.mul (F.mul a b) c=F.mul a (F.mul b c)) ?_ ?_ ?_ a ha
 · show mg F.m F.p F.m (mg F.m F.p F.m 0 b) c=mg F.m F.p F.m 0 _
   rw [mg_zl,mg_zl,mg_zl]
 · intro a d h1 h2
   show mg F.m F.p F.m (mg F.m F.p F.m _ b) c=mg F.m F.p F.m _ _
   rw [mg_xor,mg_xor,mg_xor]
   exact congr (congrArg _ h1) h2
 · intro i
   show mg F.m F.p F.m (mg F.m F.p F.m _ b) c=mg F.m F.p F.m _ _
   rw [mg_mx,mg_mx,mg_mx,mg_id F.m1 hb,mg_id F.m1 (F.mg_lt c F.m b hb)]
end Go.Vx
namespace Go.Vx
def ordG (m p:Nat):Nat→Nat→Nat→Bool
 | 0,x,S=>Nat.beq x 1 && Nat.beq S (2 ^ 2 ^ m - 2)
 | n+1,x,S=>!(S.testBit x) && ordG m p n (mulx m p x) (S ||| 1 <<< x)
theorem ordG_ok {m p:Nat}:∀ (n i S:Nat),ordG m p n (mx m p i 1) S=true→(∀ a,S.testBit a=true↔∃ j,j<i∧mx m p j 1=a)→
 (∀ j k,j<k→k<i→mx m p j 1≠mx m p k 1)→
 mx m p (i+n) 1=1∧(∀ a,(2 ^ 2 ^ m - 2).testBit a=true↔∃ j,j<i+n∧mx m p j 1=a)∧∀ j k,j<k→k<i+n→mx m p j 1≠mx m p k 1
 | 0,i,S,h,hs,hn=>by
   simp only [ordG,zn] at h
   have h2:=zp h.2
   rw [← h2]
   exact ⟨zp h.1,hs,hn⟩
 | n+1,i,S,h,hs,hn=>by
   simp only [ordG,zn,Bool.not_eq_true'] at h
   have:=ordG_ok n (i+1) (S ||| 1 <<< mx m p i 1) h.2 (fun a=>by
    rw [Nat.testBit_or,Nat.one_shiftLeft,vq,xw,hs,decide_eq_true_iff]
    constructor
    · rintro (⟨j,h1,h2⟩ | h1)
      · exact ⟨j,by omega,h2⟩
      · exact ⟨i,by omega,h1⟩
    · rintro ⟨j,h1,h2⟩
      by_cases hj:j=i
      · exact .inr (by rw [← hj];exact h2)
      · exact .inl ⟨j,by omega,h2⟩) (fun j k h1 h2=>by
    by_cases hk:k=i
    · subst hk
      intro e
      have:S.testBit (mx m p k 1)=true:=(hs _).2 ⟨j,h1,e⟩
      rw [this] at h
      cases h.1
    · exact hn j k h1 (by omega))
   rwa [show i+1+n=i+(n+1) by omega] at this
def polyN (m:Nat):Nat:=if m<3 then 0 else [0xB,0x13,0x25,0x43,0x89,0x11D,0x211,0x409,0x805,0x1053,0x201B,0x4443].getD (m - 3) 0
structure Gf extends Gp where
 m3:3≤m
 m14:m≤14
 po:polyN m=p
 ord:mx m p (2 ^ m - 1) 1=1
 inj:∀ j k,j<k→k<2 ^ m - 1→mx m p j 1≠mx m p k 1
 all:∀ a,0<a→a<2 ^ m→∃ j,j<2 ^ m - 1∧mx m p j 1=a
def Gf.of (m p:Nat) (m3:3≤m) (m14:m≤14) (po:polyN m=p) (top:p.testBit m=true) (lt:p<2 ^ (m+1)) (h:ordG m p (2 ^ m - 1) 1 0=true):Gf:=
 have H:=ordG_ok (2 ^ m - 1) 0 0 h (fun a=>by rw [xa];exact ⟨fun e=>(by cases e),fun ⟨j,h,_⟩=>absurd h (wy j)⟩) (fun j k _ h=>absurd h (wy k))
 { m:=m,p:=p,m1:=by omega,top:=top,lt:=lt,m3:=m3,m14:=m14,po:=po
   ord:=by have:=H.1;rwa [wo] at this
   inj:=fun j k h1 h2=>H.2.2 j k h1 (by omega)
   all:=fun a h1 h2=>by
    obtain ⟨j,h3,h4⟩:=(H.2.1 a).1 (by
     rw [show 2 ^ 2 ^ m - 2=2 ^ 2 ^ m - (1+1) from rfl,Nat.testBit_two_pow_sub_succ (ui (by have:=yd m;omega)),decide_eq_true h2]
     have:Nat.testBit 1 a=false:=by
      obtain ⟨k,rfl⟩:∃ k,a=k+1:=⟨a - 1,by omega⟩
      rw [wv];simp
     rw [this];rfl)
    exact ⟨j,by omega,h4⟩ }
variable (F:Gf)
structure El where
 v:Nat
 lt:v<2 ^ F.m
variable {F}
theorem El.ext:∀ {a b:El F},a.v=b.v→a=b
 | ⟨_,_⟩,⟨_,_⟩,rfl=>rfl
abbrev Gf.N (F:Gf):Nat:=2 ^ F.m - 1
theorem Gf.N3:7≤F.N:=by
 have:=zi (n:=2) (by omega) F.m3
 show 7≤2 ^ F.m - 1
 omega
theorem Gf.N14:F.N<16384:=by
 have:=zi (n:=2) (by omega) F.m14
 show 2 ^ F.m - 1<16384
 have:=yd F.m
 omega
def El.zr:El F:=⟨0,yd _⟩
def ex (F:Gf) (i:Nat):El F:=⟨mx F.m F.p i 1,F.mx_lt F.one_lt i⟩
def El.mul (a b:El F):El F:=⟨F.mul a.v b.v,F.mg_lt b.v F.m a.v a.lt⟩
def El.add (a b:El F):El F:=⟨a.v ^^^ b.v,xor_lt a.lt b.lt⟩
theorem ex_addE (i j:Nat):ex F (i+j)=(ex F i).mul (ex F j):=by
 refine El.ext ?_
 show mx F.m F.p (i+j) 1=F.mul (mx F.m F.p i 1) (mx F.m F.p j 1)
 rw [F.mul_mx _ 1 (F.mx_lt F.one_lt i) F.one_lt j,mx_add]
 congr 1
 exact (mg_one F.m1 _).symm
theorem ex_N:ex F F.N=ex F 0:=El.ext F.ord
theorem ex_all (a:El F) (h:a≠El.zr):∃ j,j<F.N∧ex F j=a:=by
 have:0<a.v:=sh fun e=>h (El.ext e)
 obtain ⟨j,h1,h2⟩:=F.all a.v this a.lt
 exact ⟨j,h1,El.ext h2⟩
noncomputable def El.iv (a:El F):El F:=open Classical in if h:∃ j,j<F.N∧ex F j=a then ex F (F.N - Classical.choose h) else El.zr
theorem El.mulC (a b:El F):a.mul b=b.mul a:=El.ext (F.mul_comm a.v b.v a.lt b.lt)
noncomputable instance:Fd (El F) where
 add:=El.add
 mul:=El.mul
 zr:=El.zr
 un:=ex F 0
 iv:=El.iv
 addA a b c:=El.ext (rx _ _ _)
 addC a b:=El.ext (ro _ _)
 add0 a:=El.ext (tb _)
 add2 a:=El.ext (qi _)
 mulA a b c:=El.ext (F.mul_assoc a.v b.v c.v a.lt b.lt)
 mulC:=El.mulC
 mul1 a:=El.ext (mg_one F.m1 _)
 dist a b c:=El.ext (mg_xorr _ _ _ _)
 ne h:=by
  have:(1:Nat)=0:=congrArg El.v h
  omega
 inv a h:=by
  have he:∃ j,j<F.N∧ex F j=a:=ex_all a h
  show a.mul (El.iv a)=ex F 0
  unfold El.iv
  rw [dif_pos he]
  have h2:=Classical.choose_spec he
  have e:a.mul (ex F (F.N - Classical.choose he))=(ex F (Classical.choose he)).mul (ex F (F.N - Classical.choose he)):=congrArg (fun x=>El.mul x _) h2.2.symm
  rw [e,← ex_addE,show Classical.choose he+(F.N - Classical.choose he)=F.N by omega,ex_N]
theorem add_v (a b:El F):(a+b).v=a.v ^^^ b.v:=rfl
theorem mul_v (a b:El F):(a*b).v=F.mul a.v b.v:=rfl
theorem ex_v (i:Nat):(ex F i).v=mx F.m F.p i 1:=rfl
theorem ex_add (i j:Nat):ex F (i+j)=ex F i*ex F j:=ex_addE i j
theorem ex_NN:ex F F.N=Fd.un:=ex_N
theorem ex_mulN (i:Nat):∀ k,ex F (i+F.N*k)=ex F i
 | 0=>rfl
 | k+1=>by rw [Nat.mul_succ,← Nat.add_assoc,ex_add,ex_NN,Fd.mul1,ex_mulN i k]
theorem ex_mod (i:Nat):ex F (i % F.N)=ex F i:=by
 have:=ex_mulN (F:=F) (i % F.N) (i / F.N)
 rw [Nat.mod_add_div] at this
 exact this.symm
theorem ex_ne (i:Nat):ex F i≠Fd.zr:=by
 rw [← ex_mod]
 have h:=zc i (show 0<F.N by have:=Gf.N3 (F:=F);omega)
 intro e
 have h2:ex F (i % F.N)*ex F (F.N - i % F.N)=Fd.un:=by rw [← ex_add,show i % F.N+(F.N - i % F.N)=F.N by omega,ex_NN]
 rw [e,Fd.zmul] at h2
 exact Fd.ne h2.symm
theorem ex_inj {i j:Nat} (hi:i<F.N) (hj:j<F.N) (h:ex F i=ex F j):i=j:=by
 rcases Nat.lt_trichotomy i j with h1 | h1 | h1
 · exact absurd (congrArg El.v h) (F.inj i j h1 hj)
 · exact h1
 · exact absurd (congrArg El.v h).symm (F.inj j i h1 hi)
theorem ex_pw (i:Nat):∀ k,Fd.pw (ex F i) k=ex F (i*k)
 | 0=>rfl
 | k+1=>by show Fd.pw (ex F i) k*ex F i=_;rw [ex_pw i k,← ex_add];rfl
def lg (m p n x:Nat):Nat:=((xj n).find? fun j=>mx m p j 1 == x).getD 0
theorem lg_ex {i:Nat} (hi:i<F.N):∀ {n:Nat},n≤F.N→i<n→lg F.m F.p n (mx F.m F.p i 1)=i:=by
 intro n hn hin
 unfold lg
 cases h:(xj n).find? (fun j=>mx F.m F.p j 1 == mx F.m F.p i 1) with
 | none=>
   have:=List.find?_eq_none.1 h i (List.mem_range.2 hin)
   simp at this
 | some j=>
   have h1:=List.find?_some h
   have h2:=List.mem_range.1 (pk h)
   exact ex_inj (F:=F) (zk h2 hn) hi (El.ext (beq_iff_eq.1 h1))
theorem lg_lt {x:Nat} (h0:0<x) (hx:x<2 ^ F.m):lg F.m F.p F.N x<F.N∧mx F.m F.p (lg F.m F.p F.N x) 1=x:=by
 obtain ⟨j,h1,h2⟩:=F.all x h0 hx
 rw [← h2,lg_ex h1 (zx _) h1]
 exact ⟨h1,rfl⟩
end Go.Vx
namespace Go.Vx
open Go.Vx.Fd
section
variable {K:Type} [Fd K]
def bk (b:Bool):K:=if b then un else zr
theorem bk_sq (b:Bool):(bk b:K)*bk b=bk b:=by cases b;exact mul0 _;exact mul1 _
theorem bk_xor (a b:Bool):(bk (a ^^ b):K)=bk a+bk b:=by
 cases a <;> cases b
 · exact (add0 _).symm
 · exact (zadd _).symm
 · exact (add0 _).symm
 · exact (add2 _).symm
theorem bk_and (a b:Bool):(bk (a && b):K)=bk a*bk b:=by
 cases a
 · exact (zmul _).symm
 · exact (umul _).symm
def vl (b:Nat→Bool) (n:Nat) (x:K):K:=sm n fun k=>bk (b k)*pw x k
variable {b c:Nat→Bool} {n:Nat} {x:K}
theorem vl_congr (h:∀ k,k<n→b k=c k):vl b n x=vl c n x:=sm_congr fun k hk=>by rw [h k hk]
theorem vl_xor:vl (fun k=>b k ^^ c k) n x=vl b n x+vl c n x:=by
 unfold vl
 rw [← sm_add]
 exact sm_congr fun k _=>by rw [bk_xor,distr]
theorem vl_zero (h:∀ k,k<n→b k=false):vl b n x=zr:=sm_zero fun k hk=>by rw [h k hk];exact zmul _
theorem vl_sq:vl b n (x*x)=vl b n x*vl b n x:=by
 unfold vl
 rw [sm_sq]
 refine sm_congr fun k _ => ?_
 rw [pw_sq,mulA (bk (b k)) (pw x k) (bk (b k)*pw x k),mulL (pw x k),← mulA (bk (b k)) (bk (b k)),bk_sq]
theorem vl_app (d:Nat):vl b (d+n) x=vl b d x+pw x d*vl (fun k=>b (d+k)) n x:=by
 unfold vl
 rw [sm_split,← sm_mul]
 congr 1
 exact sm_congr fun k _=>by rw [pw_add,mulL]
theorem vl_one {p:Nat} (hp:p<n):vl (fun k=>decide (k=p)) n x=pw x p:=by
 unfold vl
 obtain ⟨r,rfl⟩:∃ r,n=p+(1+r):=⟨n - p - 1,by omega⟩
 rw [sm_split,sm_zero fun i hi=>by show bk (decide (i=p))*_=_;rw [decide_eq_false (by omega)];exact zmul _,zadd,sm_split,sm_zero (n:=r) fun i hi=>by show bk (decide (p+(1+i)=p))*_=_;rw [decide_eq_false (by omega)];exact zmul _,add0]
 show zr+bk (decide (p+0=p))*pw x (p+0)=_
 rw [zadd,Nat.add_zero,decide_eq_true rfl]
 exact umul _
def flips (P:List Nat) (b:Nat→Bool) (k:Nat):Bool:=b k ^^ decide (k∈P)
theorem vl_flips {P:List Nat} (hn:P.Nodup) (hP:∀ p∈P,p<n):vl (flips P b) n x=vl b n x+su P fun p=>pw x p:=by
 show vl (fun k=>b k ^^ decide (k∈P)) n x=_
 rw [vl_xor]
 congr 1
 induction P with
 | nil=>exact vl_zero fun k _=>by simp
 | cons p P ih=>
   obtain ⟨h1,h2⟩:=List.nodup_cons.1 hn
   show _=pw x p+su P _
   rw [← ih h2 fun q hq=>hP q (yv _ hq),← vl_one (hP p (xe ..)),← vl_xor]
   refine vl_congr fun k _ => ?_
   by_cases h:k=p
   · subst h;simp [h1]
   · simp [h]
def shf (D:Nat) (g r:Nat→Bool) (bit:Bool) (k:Nat):Bool:=(if k=0 then false else r (k - 1)) ^^ ((bit ^^ r (D - 1)) && g k)
theorem vl_shf {D:Nat} {g r:Nat→Bool} {bit:Bool} (hD:1≤D) (hg:vl g D x=pw x D):vl (shf D g r bit) D x=x*vl r D x+bk bit*pw x D:=by
 have e1:vl (shf D g r bit) D x=vl (fun k=>if k=0 then false else r (k - 1)) D x+bk (bit ^^ r (D - 1))*pw x D:=by
  rw [show vl (shf D g r bit) D x=vl (fun k=>(if k=0 then false else r (k - 1)) ^^ ((bit ^^ r (D - 1)) && g k)) D x from rfl,vl_xor]
  congr 1
  rw [← hg]
  unfold vl
  rw [← sm_mul]
  exact sm_congr fun k _=>by rw [bk_and,mulA]
 obtain ⟨d,rfl⟩:∃ d,D=d+1:=⟨D - 1,by omega⟩
 have e2:vl (fun k=>if k=0 then false else r (k - 1)) (d+1) x=x*vl r d x:=by
  unfold vl
  rw [sm_head,← sm_mul]
  rw [show bk (if 0=0 then false else r (0 - 1))*pw x 0=(zr:K) from zmul _,zadd]
  refine sm_congr fun k _ => ?_
  show bk (if k+1=0 then false else r (k+1 - 1))*(pw x k*x)=_
  rw [if_neg (by omega),show k+1 - 1=k by omega,mulL x,mulC x]
 have e3:vl r (d+1) x=vl r d x+bk (r d)*pw x d:=rfl
 rw [e1,e2,e3,show d+1 - 1=d by omega,bk_xor,distr,dist]
 have e4:x*(bk (r d)*pw x d)=bk (r d)*pw x (d+1):=by
  show _=bk (r d)*(pw x d*x)
  rw [mulL,mulC x]
 rw [e4,addA,addC (bk bit*_)]
def reg (D:Nat) (g b:Nat→Bool) (n:Nat):Nat→Nat→Bool
 | 0=>fun _=>false
 | i+1=>shf D g (reg D g b n i) (b (n - 1 - i))
theorem vl_reg {D:Nat} {g b:Nat→Bool} (hD:1≤D) (hg:vl g D x=pw x D):∀ i,i≤n→vl (reg D g b n i) D x=pw x D*vl (fun k=>b (n - i+k)) i x
 | 0,_=>by
   rw [show vl (fun k=>b (n - 0+k)) 0 x=zr from rfl,mul0]
   exact vl_zero fun _ _=>rfl
 | i+1,h=>by
   show vl (shf D g (reg D g b n i) (b (n - 1 - i))) D x=_
   rw [vl_shf hD hg,vl_reg hD hg i (by omega)]
   rw [show i+1=1+i by omega,vl_app 1]
   have e:vl (fun k=>b (n - (1+i)+k)) 1 x=bk (b (n - 1 - i)):=by
    show zr+bk (b (n - (1+i)+0))*un=_
    rw [zadd,mul1,show n - (1+i)+0=n - 1 - i by omega]
   rw [e,dist,addC,mulC (bk _),mulL x,pw_one]
   congr 3
   exact vl_congr fun k _=>by rw [show n - (1+i)+(1+k)=n - i+k by omega]
end
section
variable {F:Gf}
structure Cdx (F:Gf) where
 t:Nat
 D:Nat
 g:Nat→Bool
 U:List Nat
 D1:1≤D
 nod:U.Nodup
 len:U.length=D
 lt:∀ u∈U,u<F.N
 from':∀ u∈U,∃ i j,1≤i∧i≤2*t∧ex F u=ex F (i*2 ^ j)
 zero:∀ u∈U,vl g D (ex F u)=pw (ex F u) D
 has:∀ i,1≤i→i≤2*t→∃ u∈U,ex F u=ex F i
variable {Q:Cdx F} {b:Nat→Bool} {n:Nat}
def Wd (Q:Cdx F) (b:Nat→Bool) (n:Nat):Prop:=∀ i,1≤i→i≤2*Q.t→vl b n (ex F i)=zr
theorem pow_zero' {i:Nat} (h:vl b n (ex F i)=zr):∀ j,vl b n (ex F (i*2 ^ j))=zr
 | 0=>by rw [sd,Nat.mul_one];exact h
 | j+1=>by
   rw [wc,← Nat.mul_assoc,Nat.mul_two,ex_add,vl_sq,pow_zero' h j,mul0]
theorem nodup_ex {P:List Nat} (hn:P.Nodup) (hP:∀ p∈P,p<F.N):(P.map (ex F)).Nodup:=by
 rw [List.Nodup,np]
 exact List.Pairwise.imp_of_mem (fun ha hb hab e=>hab (ex_inj (hP _ ha) (hP _ hb) e)) hn
theorem Wd.made (Q:Cdx F) (d:Nat→Bool) (n:Nat) {r:Nat→Bool} (hr:∀ k,k<Q.D→r k=reg Q.D Q.g d n n k):Wd Q (fun k=>if k<Q.D then r k else d (k - Q.D)) (Q.D+n):=fun i h1 h2=>by
 obtain ⟨u,hu,he⟩:=Q.has i h1 h2
 rw [← he,vl_app,vl_congr (c:=reg Q.D Q.g d n n) fun k hk=>by rw [if_pos hk];exact hr k hk]
 rw [vl_reg Q.D1 (Q.zero u hu) n (zx n)]
 have e:vl (fun k=>if Q.D+k<Q.D then r (Q.D+k) else d (Q.D+k - Q.D)) n (ex F u)=vl (fun k=>d (n - n+k)) n (ex F u):=
  vl_congr fun k _=>by rw [if_neg (by omega),show Q.D+k - Q.D=k by omega,show n - n+k=k by omega]
 rw [e,add2]
variable {C B:Nat→El F} {L k0 b0:Nat} {e0:El F} {P:List Nat}
def isRoot (C:Nat→El F) (L:Nat) (p:Nat):Prop:=sm (L+1) (fun i=>C i*pw (iv (ex F p)) i)=zr
theorem root_iff {p:Nat}:isRoot C L p↔rv C L (ex F p)=zr:=by
 unfold isRoot
 rw [rv_ev (ex_ne p)]
 constructor
 · intro h;rw [h,mul0]
 · intro h;exact eq_zero h (pw_ne (ex_ne p) L)
theorem roots_few (h0:C 0=un) {R:List Nat} (hn:R.Nodup) (hR:∀ p∈R,p<F.N) {M:Nat} (hM:∀ i,M<i→C i=zr) (hr:∀ p∈R,sm (M+1) (fun i=>C i*pw (iv (ex F p)) i)=zr):R.length≤M:=by
 refine ve fun hlt => ?_
 have hnod:(R.map fun p=>iv (ex F p)).Nodup:=by
  rw [List.Nodup,np]
  refine List.Pairwise.imp_of_mem (fun {a b} ha hb hab e=>hab (ex_inj (hR _ ha) (hR _ hb) ?_)) hn
  have e1:=inv (ex F a) (ex_ne a)
  rw [e,mulC] at e1
  exact mul_cancel (iv_ne (ex_ne b)) (e1.trans (by rw [mulC];exact (inv _ (ex_ne b)).symm))
 have h1:=roots hnod (l:=(xj (M+1)).map C) (by simp;omega) (fun x hx=>by
  obtain ⟨p,hp,rfl⟩:=List.mem_map.1 hx
  rw [ev_sm,← hr p hp,zm,sf]
  refine sm_congr fun k hk => ?_
  rw [zy,zh,wq hk]
  rfl) (C 0) (List.mem_map.2 ⟨0,List.mem_range.2 (Nat.succ_pos M),rfl⟩)
 rw [h0] at h1
 exact ne h1
theorem mends {S:Nat→El F} (hB:BM (fun k=>S (k+1)) (2*Q.t) C B L k0 b0 e0) (hn:P.Nodup) (hP:∀ p∈P,p<F.N) (hS:∀ i,1≤i→i≤2*Q.t→S i=su P fun p=>pw (ex F i) p) (ht:P.length≤Q.t):
 L=P.length∧C L≠zr∧∀ p,p<F.N→(isRoot C L p↔p∈P):=by
 have hrep:Rep (fun k=>S (k+1)) (2*Q.t) (P.map (ex F)) (fun x=>x):=fun k hk=>by
  show S (k+1)=_
  rw [hS (k+1) (by omega) (by omega),su_map]
  refine su_congr fun p _ => ?_
  rw [ex_pw,ex_pw,← ex_add,Nat.succ_mul,xn k p,uj]
 have hnod:=nodup_ex hn hP
 obtain ⟨h1,h2⟩:=rv_roots hB hrep hnod (fun x hx=>by obtain ⟨p,_,rfl⟩:=List.mem_map.1 hx;exact ex_ne p) (by rw [zm];omega)
 rw [zm] at h1
 have h3:∀ p∈P,isRoot C L p:=fun p hp=>root_iff.2 (h2 _ (List.mem_map.2 ⟨p,hp,rfl⟩))
 have h4:=roots_few hB.c0 hn hP hB.cd h3
 have hL:L=P.length:=by omega
 refine ⟨hL,fun hz => ?_,fun p hp=>⟨fun h => ?_,h3 p⟩⟩
 · by_cases hL0:L=0
   · rw [hL0,hB.c0] at hz;exact ne hz
   · obtain ⟨M,hM⟩:∃ M,L=M+1:=⟨L - 1,by omega⟩
     have:=roots_few (M:=M) hB.c0 hn hP (fun i hi=>by
      by_cases h:i=L
      · rw [h];exact hz
      · exact hB.cd i (by omega)) fun p hp=>by
        have:=h3 p hp
        unfold isRoot at this
        rw [hM] at this hz
        change sm (M+1) _+C (M+1)*_=zr at this
        rwa [hz,zmul,add0] at this
     omega
 · refine Classical.byContradiction fun hno => ?_
   have:=roots_few hB.c0 (R:=p :: P) (List.nodup_cons.2 ⟨hno,hn⟩) (fun q hq=>by
    rcases List.mem_cons.1 hq with rfl | hq
    · exact hp
    · exact hP q hq) hB.cd fun q hq=>by
      rcases List.mem_cons.1 hq with rfl | hq
      · exact h
      · exact h3 q hq
   have e:(p :: P).length=P.length+1:=rfl
   omega
end
end Go.Vx
namespace Go.Vx
open Go.Vx.Fd
instance {F:Gf}:DecidableEq (El F):=fun a b=>if h:a.v=b.v then .isTrue (El.ext h) else .isFalse fun e=>h (by rw [e])
noncomputable section
variable {F:Gf}
def el (F:Gf) (a:Int):El F:=⟨(a % (2 ^ F.m:Nat)).toNat,by
 have h1:=ug a (show ((2 ^ F.m:Nat):Int)≠0 from by have:=yd F.m;omega)
 have h2:=sr a (show (0:Int)<((2 ^ F.m:Nat):Int) from by have:=yd F.m;omega)
 omega⟩
def vi (x:El F):Int:=(x.v:Int)
theorem el_vi (x:El F):el F (vi x)=x:=by
 refine El.ext ?_
 show ((x.v:Int) % ((2 ^ F.m:Nat):Int)).toNat=x.v
 have:=x.lt
 rw [rf (by omega) (by omega)]
 exact zo _
theorem vi_inj {x y:El F} (h:vi x=vi y):x=y:=El.ext (Int.ofNat.inj h)
theorem vi_zero {x:El F}:vi x=0↔x=zr:=⟨fun h=>vi_inj (y:=zr) h,fun h=>by rw [h];rfl⟩
theorem vi_lt (x:El F):0≤vi x∧vi x<((2 ^ F.m:Nat):Int):=by
 have:=x.lt
 unfold vi
 omega
abbrev els (F:Gf) (l:List Int):List (El F):=l.map (el F)
abbrev vis (l:List (El F)):List Int:=l.map vi
theorem els_vis (l:List (El F)):els F (vis l)=l:=by
 show (l.map vi).map (el F)=l
 rw [se]
 exact (xh fun x _=>el_vi x).trans (List.map_id l)
def cf (l:List (El F)) (i:Nat):El F:=l.getD i zr
theorem cf_of {l:List (El F)} {i:Nat} (h:l.length≤i):cf l i=zr:=by
 unfold cf
 rw [zy,yr h];rfl
theorem vis_getD (l:List (El F)) (i:Nat):(vis l).getD i 0=vi (cf l i):=by
 unfold cf
 simp only [zy,zh]
 cases l[i]? <;> rfl
def top (l:List (El F)):Nat:=(l.reverse.dropWhile fun x=>decide (x=zr)).length
theorem top_snoc (l:List (El F)) (a:El F):top (l ++ [a])=if a=zr then top l else l.length+1:=by
 unfold top
 rw [List.reverse_append]
 show (List.dropWhile _ (a :: l.reverse)).length=_
 rw [List.dropWhile_cons]
 by_cases h:a=zr
 · simp [h]
 · simp [h]
theorem snoc_ind {α:Type} {P:List α→Prop} (h0:P []) (h1:∀ l a,P l→P (l ++ [a])) (l:List α):P l:=by
 rw [← List.reverse_reverse l]
 induction l.reverse with
 | nil=>exact h0
 | cons a r ih=>rw [List.reverse_cons];exact h1 _ _ ih
theorem top_le (l:List (El F)):top l≤l.length:=by
 refine snoc_ind (P:=fun l=>top l≤l.length) (zx 0) (fun l a ih => ?_) l
 rw [top_snoc,zu]
 split
 · exact Nat.le_succ_of_le ih
 · exact zx _
theorem top_zero (l:List (El F)) {i:Nat} (h:top l≤i):cf l i=zr:=by
 revert i
 refine snoc_ind (P:=fun l=>∀ {i:Nat},top l≤i→cf l i=zr) (fun {i} _=>cf_of (ze i)) (fun l a ih => ?_) l
 intro i h
 rw [top_snoc] at h
 by_cases hi:i<l.length
 · have e:cf (l ++ [a]) i=cf l i:=by unfold cf;simp only [zy,zf hi]
   rw [e]
   by_cases ha:a=zr
   · rw [if_pos ha] at h;exact ih h
   · rw [if_neg ha] at h;omega
 · by_cases hj:i=l.length
   · by_cases ha:a=zr
     · unfold cf;subst hj;simp [ha]
     · rw [if_neg ha] at h;omega
   · exact cf_of (by simp;omega)
theorem top_ne (l:List (El F)) (h:0<top l):cf l (top l - 1)≠zr:=by
 revert h
 refine snoc_ind (P:=fun l=>0<top l→cf l (top l - 1)≠zr) (fun h=>absurd h (ua 0)) (fun l a ih => ?_) l
 intro h
 rw [top_snoc] at h ⊢
 by_cases ha:a=zr
 · rw [if_pos ha] at h ⊢
   have h2:=top_le l
   have e:cf (l ++ [a]) (top l - 1)=cf l (top l - 1):=by unfold cf;simp only [zy,zf (show top l - 1<l.length by omega)]
   rw [e];exact ih h
 · rw [if_neg ha]
   unfold cf
   simp [ha]
def trim (l:List (El F)):List (El F):=l.take (top l)
theorem trim_len (l:List (El F)):(trim l).length=top l:=by
 unfold trim
 rw [List.length_take]
 exact ww (top_le l)
theorem trim_cf (l:List (El F)) (i:Nat):cf (trim l) i=cf l i:=by
 by_cases h:i<top l
 · unfold cf trim
   simp only [zy,yf h]
 · rw [cf_of (by rw [trim_len];omega),top_zero l (by omega)]
def mk (n:Nat) (f:Nat→El F):List (El F):=(xj n).map f
theorem mk_len (n:Nat) (f:Nat→El F):(mk n f).length=n:=by simp [mk]
theorem mk_cf {n:Nat} {f:Nat→El F} (i:Nat):cf (mk n f) i=if i<n then f i else zr:=by
 unfold cf mk
 simp only [zy,zh]
 by_cases h:i<n
 · rw [wq h,if_pos h];rfl
 · rw [if_neg h,yr (by simp;omega)];rfl
theorem cf_ext {l l':List (El F)} (hl:l.length=l'.length) (h:∀ i,i<l.length→cf l i=cf l' i):l=l':=by
 refine wn hl fun i h1 h2 => ?_
 have:=h i h1
 unfold cf at this
 simpa only [zy,zt h1,zt h2,xy] using this
theorem top_cf {l l':List (El F)} (h:∀ i,cf l i=cf l' i):top l=top l':=by
 have key:∀ l l':List (El F),(∀ i,cf l i=cf l' i)→top l≤top l':=fun l l' h=>by
  refine ve fun hlt => ?_
  have h1:=top_ne l (by omega)
  rw [h,top_zero l' (by omega)] at h1
  exact h1 rfl
 exact Nat.le_antisymm (key _ _ h) (key _ _ fun i=>(h i).symm)
theorem trim_ext {l l':List (El F)} (h:∀ i,cf l i=cf l' i):trim l=trim l':=
 cf_ext (by rw [trim_len,trim_len,top_cf h]) fun i _=>by rw [trim_cf,trim_cf,h]
def addP (p q:List (El F)):List (El F):=mk (max p.length q.length) fun i=>cf p i+cf q i
theorem addP_cf (p q:List (El F)) (i:Nat):cf (addP p q) i=cf p i+cf q i:=by
 unfold addP
 rw [mk_cf]
 split
 · rfl
 · rw [cf_of (by omega),cf_of (by omega),add0]
def mulS (p:List (El F)) (a:El F):List (El F):=p.map (· * a)
theorem mulS_cf (p:List (El F)) (a:El F) (i:Nat):cf (mulS p a) i=cf p i*a:=by
 unfold mulS cf
 simp only [zy,zh]
 cases p[i]? with
 | none=>exact (zmul a).symm
 | some x=>rfl
def shP (k:Nat) (p:List (El F)):List (El F):=zw k zr ++ p
theorem shP_cf (k:Nat) (p:List (El F)) (i:Nat):cf (shP k p) i=if i<k then zr else cf p (i - k):=by
 unfold shP cf
 simp only [zy]
 by_cases h:i<k
 · rw [zf (by simpa using h),if_pos h,List.getElem?_replicate_of_lt h];rfl
 · rw [List.getElem?_append_right (by simp;omega),if_neg h,ye]
structure Bm (F:Gf) where
 C:List (El F)
 B:List (El F)
 L:Nat
 k:Nat
 e:El F
def bm0:Bm F:=⟨[un],[un],0,1,un⟩
def bmD (s:List (El F)) (n:Nat) (b:Bm F):El F:=phi (cf b.C) b.L (cf s) n
def bmC (b:Bm F) (d:El F):List (El F):=trim (addP b.C (trim (mulS (shP b.k b.B) (d*iv b.e))))
def bmS (s:List (El F)) (n:Nat) (b:Bm F):Bm F:=
 if bmD s n b=zr then { b with k:=b.k+1 }
 else if n<2*b.L then { b with C:=bmC b (bmD s n b),k:=b.k+1 }
 else ⟨bmC b (bmD s n b),b.C,n+1 - b.L,1,bmD s n b⟩
def bmN (s:List (El F)):Nat→Bm F
 | 0=>bm0
 | n+1=>bmS s n (bmN s n)
theorem bmC_cf (b:Bm F) (d:El F):cf (bmC b d)=upd (cf b.C) (cf b.B) b.k (d*iv b.e):=by
 funext i
 unfold bmC upd
 rw [trim_cf,addP_cf,trim_cf,mulS_cf,shP_cf]
theorem one_cf (i:Nat) (h:0<i):cf ([un]:List (El F)) i=zr:=cf_of (by simp;omega)
theorem bmN_ok (s:List (El F)):∀ n,∃ b0,BM (cf s) n (cf (bmN s n).C) (cf (bmN s n).B) (bmN s n).L (bmN s n).k b0 (bmN s n).e
 | 0=>⟨0,bm_start rfl one_cf one_cf⟩
 | n+1=>by
   obtain ⟨b0,h⟩:=bmN_ok s n
   show ∃ b1,BM (cf s) (n+1) (cf (bmS s n (bmN s n)).C) (cf (bmS s n (bmN s n)).B) (bmS s n (bmN s n)).L (bmS s n (bmN s n)).k b1 (bmS s n (bmN s n)).e
   generalize bmN s n=b at h
   unfold bmS
   by_cases hd:bmD s n b=zr
   · rw [if_pos hd]
     exact ⟨b0,bm_fit h hd⟩
   · rw [if_neg hd]
     by_cases hL:n<2*b.L
     · rw [if_pos hL]
       refine ⟨b0,?_⟩
       show BM (cf s) (n+1) (cf (bmC b (bmD s n b))) _ _ _ _ _
       rw [bmC_cf]
       exact bm_stay h hd hL rfl
     · rw [if_neg hL]
       refine ⟨b.L,?_⟩
       show BM (cf s) (n+1) (cf (bmC b (bmD s n b))) _ _ _ _ _
       rw [bmC_cf]
       exact bm_grow h hd (by omega) rfl
theorem bmN_le (s:List (El F)) (n:Nat):(bmN s n).L≤n∧1≤(bmN s n).k∧(bmN s n).k≤n+1:=by
 obtain ⟨b0,h⟩:=bmN_ok s n
 have:=h.rel
 have:=h.k1
 omega
theorem bmN_e (s:List (El F)) (n:Nat):(bmN s n).e≠zr:=(bmN_ok s n).choose_spec.e0
theorem bmN_len (s:List (El F)):∀ n,(bmN s n).C.length≤n+1∧(bmN s n).B.length≤n+1∧(bmN s n).k+(bmN s n).B.length≤n+2
 | 0=>⟨zx _,zx _,zx _⟩
 | n+1=>by
   obtain ⟨h1,h2,h3⟩:=bmN_len s n
   obtain ⟨h4,h5,h6⟩:=bmN_le s n
   show (bmS s n (bmN s n)).C.length≤_∧(bmS s n (bmN s n)).B.length≤_∧(bmS s n (bmN s n)).k+(bmS s n (bmN s n)).B.length≤_
   generalize bmN s n=b at h1 h2 h3 h4 h5 h6
   have hC:(bmC b (bmD s n b)).length≤n+2:=by
    unfold bmC
    rw [trim_len]
    refine xk (top_le _) ?_
    unfold addP
    rw [mk_len,trim_len]
    have:=top_le (mulS (shP b.k b.B) (bmD s n b*iv b.e))
    rw [show (mulS (shP b.k b.B) (bmD s n b*iv b.e)).length=b.k+b.B.length by simp [mulS,shP]] at this
    omega
   unfold bmS
   split
   · exact ⟨by show b.C.length≤_;omega,by show b.B.length≤_;omega,by show b.k+1+b.B.length≤_;omega⟩
   · split
     · exact ⟨by show (bmC b _).length≤_;omega,by show b.B.length≤_;omega,by show b.k+1+b.B.length≤_;omega⟩
     · exact ⟨by show (bmC b _).length≤_;omega,by show b.C.length≤_;omega,by show 1+b.C.length≤_;omega⟩
end
end Go.Vx
namespace Go.Vx
theorem i2 (n:Nat):(2:Int) ^ n=((2 ^ n:Nat):Int):=by simp
theorem wrap_mod (k:IntKind) (n:Int) {j:Nat} (h:j≤k.bits):k.wrap n % ((2 ^ j:Nat):Int)=n % ((2 ^ j:Nat):Int):=by
 have hd:((2 ^ j:Nat):Int) ∣ ((2 ^ k.bits:Nat):Int):=Int.natCast_dvd_natCast.2 (Nat.pow_dvd_pow 2 h)
 unfold IntKind.wrap
 simp only [i2]
 split
 · rw [Int.sub_emod,Int.emod_eq_zero_of_dvd hd,Int.sub_zero,tz _ (Int.dvd_refl _),tz _ hd]
 · exact tz _ hd
theorem wrap_nat {k:IntKind} {n:Nat} (h:n<2 ^ (if k.signed then k.bits - 1 else k.bits)):k.wrap (n:Int)=(n:Int):=by
 have h2:n<2 ^ k.bits:=zk h (zi (by omega) (by split <;> omega))
 unfold IntKind.wrap
 simp only [i2]
 rw [rf (by omega) (by omega)]
 cases hs:k.signed with
 | false=>simp
 | true=>
   rw [hs,if_pos rfl] at h
   rw [if_neg]
   simp only [yw,decide_eq_true_iff]
   omega
def lw (n:Nat) (a:Int):Nat:=(a % ((2 ^ n:Nat):Int)).toNat
theorem lw_lt (n:Nat) (a:Int):lw n a<2 ^ n:=by
 have h0:=yd n
 have h1:=ug a (show ((2 ^ n:Nat):Int)≠0 by omega)
 have h2:=sr a (show (0:Int)<((2 ^ n:Nat):Int) by omega)
 unfold lw
 omega
theorem lw_nat {n a:Nat} (h:a<2 ^ n):lw n (a:Int)=a:=by
 unfold lw
 rw [rf (by omega) (by omega)]
 exact zo a
theorem lw_mod (n:Nat) (a:Nat):lw n (a:Int)=a % 2 ^ n:=by
 unfold lw
 rw [← qu,zo]
theorem lw_lw {n k:Nat} (h:n≤k) (a:Int):lw k a % 2 ^ n=lw n a:=by
 have h0:=yd k
 have h1:=ug a (show ((2 ^ k:Nat):Int)≠0 by omega)
 have hd:((2 ^ n:Nat):Int) ∣ ((2 ^ k:Nat):Int):=Int.natCast_dvd_natCast.2 (Nat.pow_dvd_pow 2 h)
 have e:(((lw k a % 2 ^ n:Nat)):Int)=a % ((2 ^ n:Nat):Int):=by
  rw [qu]
  unfold lw
  rw [Int.toNat_of_nonneg h1,tz _ hd]
 unfold lw at e ⊢
 rw [← e]
 exact (zo _).symm
theorem ofInt_lw (w:Nat) (a:Int):(BitVec.ofInt w a).toNat=lw w a:=by
 rw [BitVec.toNat_ofInt];rfl
theorem ibit_xor (k:IntKind) (a b:Int):ibit .xor k a b=k.wrap ((lw k.bits a ^^^ lw k.bits b:Nat):Int):=by
 unfold ibit
 simp only [BitVec.toNat_xor,ofInt_lw]
theorem ibit_and (k:IntKind) (a b:Int):ibit .and k a b=k.wrap ((lw k.bits a &&& lw k.bits b:Nat):Int):=by
 unfold ibit
 simp only [BitVec.toNat_and,ofInt_lw]
theorem ibit_or (k:IntKind) (a b:Int):ibit .or k a b=k.wrap ((lw k.bits a ||| lw k.bits b:Nat):Int):=by
 unfold ibit
 simp only [BitVec.toNat_or,ofInt_lw]
theorem ibit_an (k:IntKind) (a b:Int):ibit .andNot k a b=k.wrap ((lw k.bits a &&& (2 ^ k.bits - 1 - lw k.bits b):Nat):Int):=by
 unfold ibit
 simp only [BitVec.toNat_and,BitVec.toNat_not,ofInt_lw]
theorem xor64 {a b:Nat} (ha:a<2 ^ 62) (hb:b<2 ^ 62):ibit .xor .i64 a b=((a ^^^ b:Nat):Int):=by
 rw [ibit_xor,lw_nat (zk ha (by decide)),lw_nat (zk hb (by decide))]
 exact wrap_nat (zk (vc ha hb) (by decide))
theorem and64 {a b:Nat} (ha:a<2 ^ 62) (hb:b<2 ^ 62):ibit .and .i64 a b=((a &&& b:Nat):Int):=by
 rw [ibit_and,lw_nat (zk ha (by decide)),lw_nat (zk hb (by decide))]
 exact wrap_nat (vw ud (zk ha (by decide)))
theorem xor8 {a b:Nat} (ha:a<256) (hb:b<256):ibit .xor .u8 a b=((a ^^^ b:Nat):Int):=by
 rw [ibit_xor,lw_nat ha,lw_nat hb]
 exact wrap_nat (vc (n:=8) ha hb)
theorem or8 {a b:Nat} (ha:a<256) (hb:b<256):ibit .or .u8 a b=((a ||| b:Nat):Int):=by
 rw [ibit_or,lw_nat ha,lw_nat hb]
 exact wrap_nat (Nat.or_lt_two_pow (n:=8) ha hb)
theorem and8 {a b:Nat} (ha:a<256) (hb:b<256):ibit .and .u8 a b=((a &&& b:Nat):Int):=by
 rw [ibit_and,lw_nat ha,lw_nat hb]
 exact wrap_nat (vw ud ha)
theorem an8 {a b:Nat} (ha:a<256) (hb:b<256):ibit .andNot .u8 a b=((a &&& (255 - b):Nat):Int):=by
 rw [ibit_an,lw_nat ha,lw_nat hb]
 exact wrap_nat (vw ud ha)
theorem shl8 (a s:Nat) (hs:s≤8):ishl .u8 a s=((a*2 ^ s % 256:Nat):Int):=by
 unfold ishl IntKind.wrap
 rw [zo,ww (show s≤IntKind.u8.bits from hs)]
 simp [IntKind.signed,IntKind.bits]
theorem shr8 (k:IntKind) (a s:Nat) (hs:s≤k.bits):ishr k a s=((a / 2 ^ s:Nat):Int):=by
 unfold ishr
 rw [zo,ww hs,Int.fdiv_eq_ediv_of_nonneg _ (by rw [i2];exact vy _),i2,Int.natCast_ediv]
section
variable {F:Gf}
theorem el_v (a:Int):(el F a).v=lw F.m a:=rfl
theorem el_wrap (h:F.m≤64) (n:Int):el F (IntKind.i64.wrap n)=el F n:=El.ext (by
 show lw F.m _=lw F.m _
 unfold lw
 rw [wrap_mod .i64 n h])
theorem el_xor (h:F.m≤64) (a b:Int):el F (ibit .xor .i64 a b)=el F a+el F b:=by
 rw [ibit_xor,el_wrap h]
 refine El.ext ?_
 show lw F.m ((lw 64 a ^^^ lw 64 b:Nat):Int)=lw F.m a ^^^ lw F.m b
 rw [lw_mod,Nat.xor_mod_two_pow,lw_lw h,lw_lw h]
theorem low_el (h:F.m≤62) (a:Int):ibit .and .i64 a (((2 ^ F.m:Nat):Int) - 1)=vi (el F a):=by
 have h0:=yd F.m
 have h1:2 ^ F.m≤2 ^ 62:=zi (by omega) h
 rw [ibit_and,show ((2 ^ F.m:Nat):Int) - 1=((2 ^ F.m - 1:Nat):Int) by omega,lw_nat (n:=IntKind.i64.bits) (a:=2 ^ F.m - 1) (zk (by omega) (show 2 ^ 62≤2 ^ 64 by decide)),Nat.and_two_pow_sub_one_eq_mod,show IntKind.i64.bits=64 from rfl,lw_lw (show F.m≤64 by omega)]
 show _=((lw F.m a:Nat):Int)
 have:=lw_lt F.m a
 exact wrap_nat (zk this (xk h1 (by decide)))
end
def bt (l:List Int) (k:Nat):Bool:=(l.getD (k / 8) 0).toNat.testBit (k % 8)
def bn:Nat→(Nat→Bool)→Nat
 | 0,_=>0
 | n+1,f=>(f 0).toNat+2*bn n fun j=>f (j+1)
theorem bn_lt:∀ (n:Nat) (f:Nat→Bool),bn n f<2 ^ n
 | 0,_=>Nat.one_pos
 | n+1,f=>by
   have h1:=bn_lt n fun j=>f (j+1)
   have h2:=ub (f 0)
   show (f 0).toNat+2*bn n _<2 ^ (n+1)
   rw [wc]
   omega
theorem bn_bit:∀ (n:Nat) (f:Nat→Bool) (j:Nat),(bn n f).testBit j=(decide (j<n) && f j)
 | 0,_,j=>by show Nat.testBit 0 j=_;rw [xa];rfl
 | n+1,f,0=>by
   show ((f 0).toNat+2*bn n _).testBit 0=_
   rw [Nat.testBit_zero,show decide (0<n+1)=true from decide_eq_true (by omega),yw]
   cases f 0 <;> simp <;> omega
 | n+1,f,j+1=>by
   show ((f 0).toNat+2*bn n _).testBit (j+1)=_
   rw [wv,show ((f 0).toNat+2*bn n fun j=>f (j+1)) / 2=bn n fun j=>f (j+1) by have:=ub (f 0);omega,bn_bit n]
   simp
theorem bn_congr:∀ {n:Nat} {f g:Nat→Bool},(∀ j,j<n→f j=g j)→bn n f=bn n g
 | 0,_,_,_=>rfl
 | n+1,f,g,h=>by
   show (f 0).toNat+2*bn n _=(g 0).toNat+2*bn n _
   rw [h 0 (by omega),bn_congr (n:=n) fun j hj=>h (j+1) (by omega)]
def by' (n:Nat) (b:Nat→Bool):List Int:=(xj n).map fun i=>((bn 8 fun j=>b (8*i+j):Nat):Int)
theorem by_len (n:Nat) (b:Nat→Bool):(by' n b).length=n:=by simp [by']
theorem by_getD {n:Nat} {b:Nat→Bool} {i:Nat} (h:i<n):(by' n b).getD i 0=((bn 8 fun j=>b (8*i+j):Nat):Int):=by
 unfold by'
 simp only [zy,zh,wq h]
 rfl
theorem by_bt {n:Nat} {b:Nat→Bool} {k:Nat} (h:k<8*n):bt (by' n b) k=b k:=by
 unfold bt
 rw [by_getD (by omega),zo,bn_bit,decide_eq_true (show k % 8<8 by omega),yw,show 8*(k / 8)+k % 8=k by omega]
theorem by_bt_out {n:Nat} {b:Nat→Bool} {k:Nat} (h:8*n≤k):bt (by' n b) k=false:=by
 unfold bt
 rw [zy,yr (by rw [by_len];omega)]
 exact xa _
theorem by_congr {n:Nat} {b c:Nat→Bool} (h:∀ k,k<8*n→b k=c k):by' n b=by' n c:=
 xh fun i hi=>by
  have:=List.mem_range.1 hi
  rw [bn_congr fun j hj=>h (8*i+j) (by omega)]
def Byt8 (l:List Int):Prop:=∀ x∈l,0≤x∧x<256
theorem by_byt (n:Nat) (b:Nat→Bool):Byt8 (by' n b):=fun x hx=>by
 obtain ⟨i,_,rfl⟩:=List.mem_map.1 hx
 have:=bn_lt 8 fun j=>b (8*i+j)
 omega
theorem byt_eq {l:List Int} (h:Byt8 l):l=by' l.length (bt l):=by
 refine wn (by rw [by_len]) fun i h1 h2 => ?_
 have hx:=h l[i] (List.getElem_mem h1)
 have e:=by_getD (b:=bt l) h1
 rw [zy,zt h2,xy] at e
 rw [e]
 have:l[i].toNat=bn 8 fun j=>bt l (8*i+j):=by
  refine vx fun j => ?_
  rw [bn_bit]
  by_cases hj:j<8
  · rw [decide_eq_true hj,yw]
    unfold bt
    rw [show (8*i+j) / 8=i by omega,show (8*i+j) % 8=j by omega,zy,zt h1,xy]
  · rw [decide_eq_false hj,Bool.false_and]
    exact xp (zk (show l[i].toNat<2 ^ 8 by omega) (zi (by omega) (by omega)))
 omega
theorem byt_ext {l l':List Int} (h:Byt8 l) (h':Byt8 l') (hl:l.length=l'.length) (hb:∀ k,k<8*l.length→bt l k=bt l' k):l=l':=by
 rw [byt_eq h,byt_eq h',← hl]
 exact by_congr hb
theorem bt_set {l:List Int} {i:Nat} {x:Int} (hi:i<l.length) (k:Nat):bt (l.set i x) k=if k / 8=i then x.toNat.testBit (k % 8) else bt l k:=by
 unfold bt
 simp only [zy]
 by_cases h:k / 8=i
 · rw [if_pos h,h,ux hi];rfl
 · rw [if_neg h,uq (Ne.symm h)]
theorem byt_set {l:List Int} (h:Byt8 l) {i:Nat} {x:Int} (hx:0≤x∧x<256):Byt8 (l.set i x):=fun y hy=>by
 rcases List.mem_or_eq_of_mem_set hy with hy | rfl
 · exact h y hy
 · exact hx
end Go.Vx
set_option maxRecDepth 100000
namespace Go.Vx
open Go Go.Proofs
theorem vlf {P:Prop} (h:P:=by (first | first | (show Region.lexB _ _=true;kernel_rfl) | (show planned _ _=true;kernel_rfl) | exact rfl | exact True.intro | ((try dsimp only [imp,C0,cG,cInt,rwCodec] at *);(try refine inR64 ?_ ?_) <;> (try simp only [List.length_set,List.length_append,List.length_take,List.length_drop]) <;> omega))):P:=h
theorem vau {P:Prop} (h:P:=by ((try dsimp only [imp,C0,cG,cInt,rwCodec] at *);(try simp only [decide_eq_true_eq,decide_eq_false_iff_not,Bool.and_eq_true,Bool.or_eq_true,Bool.or_eq_false_iff,Bool.and_eq_false_iff,Bool.not_eq_true',Bool.not_eq_false',SB.val,List.length_append,List.length_cons,List.length_nil,List.length_take,List.length_drop] at *);(first | omega | exact inR64 (by omega) (by omega) | (refine inR64 ?_ ?_ <;> omega)))):P:=h
theorem ty:Tr.yes.holds:=trivial
theorem tl {p:Prop} (h:p):(Tr.lf p).holds:=h
theorem ta {a b:Tr} (h1:a.holds) (h2:b.holds):(Tr.and a b).holds:=⟨h1,h2⟩
theorem ti {p:Prop} {a:Tr} (h:p→a.holds):(Tr.imp p a).holds:=h
theorem tf {α:Type} {f:α→Tr} (h:∀ x,(f x).holds):(Tr.all f).holds:=h
theorem vgo {T:Tr} (h:T.holds:=by (((conv=>arg 1;reduce);with_reducible repeat' first | exact ty | refine ta ?_ ?_ | refine ti fun _ => ?_ | refine tf fun _ => ?_ | refine tl ?_);all_goals (first | first | (show Region.lexB _ _=true;kernel_rfl) | (show planned _ _=true;kernel_rfl) | exact rfl | exact True.intro | ((try dsimp only [imp,C0,cG,cInt,rwCodec] at *);(try refine inR64 ?_ ?_) <;> (try simp only [List.length_set,List.length_append,List.length_take,List.length_drop]) <;> omega)))):T.holds:=h
abbrev cInt (k:IntKind):Codec where
 α:=Int
 dflt:=0
 sz:=1
 enc n:=[.int k n]
 upd _ f v:=match f,v with
  | 0,.int k' n=>if sameKind k k' then some n else none
  | _,_=>none
 len _:=rfl
 cell _ v h:=by simp at h;subst h;rfl
 flat _ _ _:=rfl
 upd_ok ad x f v y h:=by
  split at h <;> try contradiction
  split at h <;> try contradiction
  rename_i hk
  simp at h;subst h
  simp [SV.va,sameKind_eq hk]
 beq a b:=decide (a=b)
abbrev cBool:Codec where
 α:=Bool
 dflt:=false
 sz:=1
 enc b:=[.bool (.tm b)]
 upd _ f v:=match f,v with
  | 0,.bool s=>some s.val
  | _,_=>none
 len _:=rfl
 cell _ v h:=by simp at h;subst h;rfl
 flat _ _ _:=rfl
 upd_ok ad x f v y h:=by
  split at h <;> try contradiction
  simp at h;subst h
  simp [SV.va,SB.val]
class Gl where
 A:Nat→Addr
 c:Nat→Array Value
 t:Nat→TypeId
 lv:Nat
def errV:Option Addr→Value
 | none=>.nilIface
 | some a=>.iface 193 (.pointer (some a))
abbrev cErr:Codec where
 α:=Option Addr
 dflt:=none
 sz:=1
 enc e:=[.val (errV e)]
 upd _ f v:=match f,v with
  | 0,.nili=>some none
  | 0,.ifc 193 (.val (.pointer (some a)))=>some (some a)
  | _,_=>none
 len _:=rfl
 cell e v h:=by simp at h;subst h;cases e <;> rfl
 flat _ _ _:=rfl
 upd_ok ad x f v y h:=by
  split at h <;> try contradiction
  all_goals
   simp at h;subst h
   simp [SV.va,errV]
abbrev glB [Gl] (g:Nat):Bool:=match xz g 6 with
 | true=>true
 | false=>xz g Gl.lv
abbrev glV [Gl] (g:Nat):Option SV:=match glB g with
 | true=>some (.ifc 193 (.val (.pointer (some (Gl.A g)))))
 | false=>none
abbrev glP [Gl] (g:Nat):List (Nat×Obj):=match glB g with
 | true=>[((Gl.A g).block,.cells (Gl.c g) (Gl.t g) (0,0))]
 | false=>[]
theorem glV_flat [Gl] (g:Nat):∀ v,glV g=some v→∀ ad ad',SV.va ad v=SV.va ad' v:=by
 intro v h ad ad'
 unfold glV at h
 split at h
 · simp only [Option.some.injEq] at h;subst h;rfl
 · cases h
abbrev cG [Gl] (g:Nat) (c:Codec):Codec:={ c with gv:=glV g,gpins:=glP g,gflat:=glV_flat g }
abbrev C0 [Gl]:Nat→Codec:=fun t=>match t with
 | 4=>cG 4 cBool
 | 5=>cG 5 (cInt .u8)
 | 22=>cG 22 (rwCodec (cInt .u8))
 | 33=>cG 33 (rwCodec (cInt .i64))
 | 83=>cG 83 (rwCodec (cInt .u8))
 | 35=>cG 35 cErr
 | t=>cG t (cInt .i64)
theorem mix:Tryz.prog.follows .mixedOrders=true:=by kernel_rfl
theorem inR64 {n:Int} (h1 : -9223372036854775808≤n) (h2:n≤9223372036854775807):inR .i64 n:=by
 unfold inR IntKind.wrap
 simp [IntKind.bits,IntKind.signed]
 omega
section
variable [Gl]
def rdI:Fam C0 where
 te:=33
 off:=0
 t:=3
 get x:=x
 enc x:=Rw.sv_va x noAd
 good w x h:=h
 blk x b hb:=hb
 flat:=rfl
 hoff:=ox
def rdP:Fam C0 where
 te:=83
 off:=0
 t:=5
 get x:=x
 enc x:=Rw.sv_va x noAd
 good w x h:=h
 blk x b hb:=hb
 flat:=rfl
 hoff:=ox
def mkI:FamW C0 where
 te:=33
 t:=3
 put x:=x
 sz:=rfl
 enc x:=Rw.sv_va x noAd
 blks x:=rfl
 good w x h:=h
def mkP:FamW C0 where
 te:=83
 t:=5
 put x:=x
 sz:=rfl
 enc x:=Rw.sv_va x noAd
 blks x:=rfl
 good w x h:=h
def mkB:FamW C0 where
 te:=22
 t:=5
 put x:=x
 sz:=rfl
 enc x:=Rw.sv_va x noAd
 blks x:=rfl
 good w x h:=h
abbrev eV (g:Nat):SV:=.ifc 193 (.val (.pointer (some (Gl.A g))))
end
end Go.Vx
namespace Go.Vx
open Go Go.Proofs
@[irreducible] def szF (F:Gf):Nat:=2 ^ F.m
@[irreducible] def nF (F:Gf):Nat:=F.N
theorem szF_eq (F:Gf):szF F=2 ^ F.m:=by unfold szF;rfl
theorem nF_eq (F:Gf):nF F=F.N:=by unfold nF;rfl
theorem nF_sz (F:Gf):szF F=nF F+1∧7≤nF F∧nF F<16384:=by
 have h1:=Gf.N3 (F:=F)
 have h2:=Gf.N14 (F:=F)
 rw [szF_eq,nF_eq]
 have:=yd F.m
 refine ⟨?_,h1,h2⟩
 show 2 ^ F.m=2 ^ F.m - 1+1
 omega
@[irreducible] def loI (F:Gf) (a:Int):Int:=vi (el F a)
@[irreducible] def exF (F:Gf) (n:Int):El F:=ex F (n % (F.N:Int)).toNat
@[irreducible] noncomputable def muI (F:Gf) (a b:Int):Int:=vi (el F a*el F b)
@[irreducible] def xT (F:Gf):List Int:=(xj (nF F)).map fun i=>vi (ex F i)
@[irreducible] def lT (F:Gf):List Int:=(xj (szF F)).map fun x=>((lg F.m F.p F.N x:Nat):Int)
section
variable {F:Gf}
theorem loI_eq (a:Int):loI F a=vi (el F a):=by unfold loI;rfl
theorem muI_eq (a b:Int):muI F a b=vi (el F a*el F b):=by unfold muI;rfl
theorem loI_lt (a:Int):0≤loI F a∧loI F a<(szF F:Int):=by rw [loI_eq,szF_eq];exact vi_lt _
theorem xT_len:(xT F).length=nF F:=by unfold xT;simp
theorem lT_len:(lT F).length=szF F:=by unfold lT;simp
theorem xT_at {i:Nat} (h:i<nF F):(xT F).getD i 0=vi (ex F i):=by
 unfold xT
 simp only [zy,zh,wq h];rfl
theorem lT_at {i:Nat} (h:i<szF F):(lT F).getD i 0=((lg F.m F.p F.N i:Nat):Int):=by
 unfold lT
 simp only [zy,zh,wq h];rfl
theorem exF_at (n:Int):(0≤n.tmod (nF F)→(xT F).getD (n.tmod (nF F)).toNat 0=vi (exF F n))∧(n.tmod (nF F)<0→(xT F).getD (n.tmod (nF F)+nF F).toNat 0=vi (exF F n)):=by
 obtain ⟨_,h7,_⟩:=nF_sz F
 have hn:(F.N:Int)=(nF F:Int):=by rw [nF_eq]
 have hp:(0:Int)<(nF F:Int):=by omega
 have e:n % (nF F:Int)=n.tmod (nF F)∨(n.tmod (nF F)<0∧n % (nF F:Int)=n.tmod (nF F)+nF F):=by
  rcases Int.lt_or_le n 0 with h | h
  · have h1:=Int.tmod_eq_emod (a:=n) (b:=(nF F:Int))
    split at h1
    · exact .inl (by rw [h1];simp)
    · right
      have h2:=ug n (show (nF F:Int)≠0 by omega)
      have h3:=sr n hp
      have h4:((nF F:Int).natAbs:Int)=nF F:=by omega
      omega
  · exact .inl (pp h).symm
 have hl:=ug n (show (nF F:Int)≠0 by omega)
 have hu:=sr n hp
 constructor
 · intro h
   rcases e with e | ⟨e1,_⟩
   · rw [← e,xT_at (by omega)]
     unfold exF
     rw [hn]
   · omega
 · intro h
   rcases e with e | ⟨_,e⟩
   · omega
   · rw [← e,xT_at (by omega)]
     unfold exF
     rw [hn]
theorem exF_nat (i:Nat):exF F (i:Int)=ex F i:=by
 unfold exF
 rw [← qu,zo,ex_mod]
theorem muI_zero {a b:Int} (h:loI F a=0∨loI F b=0):muI F a b=0:=by
 rw [muI_eq]
 rw [loI_eq,loI_eq] at h
 rcases h with h | h
 · rw [vi_zero.1 h,Fd.zmul];rfl
 · rw [vi_zero.1 h,Fd.mul0];rfl
theorem muI_lg {a b:Int} (ha:loI F a≠0) (hb:loI F b≠0):vi (exF F ((lT F).getD (loI F a).toNat 0+(lT F).getD (loI F b).toNat 0))=muI F a b:=by
 have h1:=loI_lt (F:=F) a
 have h2:=loI_lt (F:=F) b
 rw [lT_at (by omega),lT_at (by omega),← Int.natCast_add,exF_nat,muI_eq]
 rw [loI_eq] at ha hb h1 h2 ⊢
 rw [loI_eq] at *
 have e1:(vi (el F a)).toNat=(el F a).v:=zo _
 have e2:(vi (el F b)).toNat=(el F b).v:=zo _
 have p1:0<(el F a).v:=sh fun e=>ha (by unfold vi;rw [e];rfl)
 have p2:0<(el F b).v:=sh fun e=>hb (by unfold vi;rw [e];rfl)
 have l1:=lg_lt (F:=F) p1 (el F a).lt
 have l2:=lg_lt (F:=F) p2 (el F b).lt
 congr 1
 rw [ex_add,e1,e2]
 refine congr (congrArg _ (El.ext ?_)) (El.ext ?_)
 · exact l1.2
 · exact l2.2
theorem lT_lt {a:Int} (h1:0≤a) (h2:a<(szF F:Int)):0≤(lT F).getD a.toNat 0∧(lT F).getD a.toNat 0<16384:=by
 obtain ⟨hs,h7,hh⟩:=nF_sz F
 rw [lT_at (by omega)]
 by_cases h0:0<a.toNat
 · have:=(lg_lt (F:=F) h0 (by rw [← szF_eq];omega)).1
   rw [← nF_eq] at this ⊢
   omega
 · rw [show a.toNat=0 by omega]
   unfold lg
   cases h:(xj F.N).find? (fun j=>mx F.m F.p j 1 == 0) with
   | none=>exact ⟨by decide,by decide⟩
   | some j=>
     have:=List.mem_range.1 (pk h)
     rw [← nF_eq] at this
     exact ⟨by show (0:Int)≤(j:Int);omega,by show (j:Int)<16384;omega⟩
theorem lo_eq (a:Int):ibit .and .i64 a ((szF F:Int) - 1)=loI F a:=by
 rw [szF_eq,loI_eq]
 exact low_el (by have:=F.m14;omega) a
theorem lo_xor (a b:Int):loI F (ibit .xor .i64 a b)=vi (el F a+el F b):=by
 rw [loI_eq,el_xor (by have:=F.m14;omega)]
end
section
variable [Gl]
abbrev fld (F:Gf) (b q:Nat):Ck C0:=⟨b,q,4,false,none,.one [.int .i64 (F.m:Int),.int .i64 (szF F:Int),.sl 1 0 (nF F) (nF F),.sl 2 0 (szF F) (szF F)]⟩
abbrev xCk (F:Gf) (b q:Nat):Ck C0:=⟨b,q,1,false,none,.rows 3 (xT F)⟩
abbrev lCk (F:Gf) (b q:Nat):Ck C0:=⟨b,q,1,false,none,.rows 3 (lT F)⟩
abbrev newF (F:Gf) (y:Nat×Nat×Nat):List (Ck C0):=[⟨y.1,0,4,true,none,.one [.int .i64 (F.m:Int),.int .i64 (szF F:Int),.sl 1 0 (nF F) (nF F),.sl 2 0 (szF F) (szF F)]⟩,⟨y.2.1,0,1,true,none,.rows 3 (xT F)⟩,⟨y.2.2,0,1,true,none,.rows 3 (lT F)⟩]
variable (F:Gf)
theorem low_ok (b q:Nat) (a:Int):Tells (C:=C0) Tryz.prog (.fn 126) [⟨b,q,4,false,none,.one [.junk,.int .i64 (szF F:Int)]⟩] [.ptr 0 0 0,.int .i64 a] (.int .i64 (loI F a)):=by
 have hs:=nF_sz F
 refine loc_pc (P:=Tryz.prog) (E:=⟨[],[],12,[],[],[],none⟩) (L:=[]) mix Tryz.func126 rfl (by kernel_rfl) (by kernel_rfl) rfl rfl ?_
 ((conv=>arg 1;reduce);with_reducible repeat' first | exact ty | refine ta ?_ ?_ | refine ti fun _ => ?_ | refine tf fun _ => ?_ | refine tl ?_)
 all_goals first | exact vlf | exact lo_eq _ | exact (lo_eq _).symm
def pcLow:Pc Tryz.prog C0 where
 tg:=.fn 126
 X:=Nat×Nat×Int
 args:=fun (b,q,a)=>[.ptr 0 0 0,.int .i64 a]
 mem:=fun (b,q,a)=>[⟨b,q,4,false,none,.one [.junk,.int .i64 (szF F:Int)]⟩]
 pre _:=True
 res:=fun (b,q,a)=>.int .i64 (loI F a)
 mat vs m:=match vs with
  | [.ptr c _ _,.int _ a]=>match nth m c with
    | ⟨b,q,_,_,_,_⟩=>some ((b,q,a),[c])
  | _=>none
 ok:=fun (b,q,a) _=>low_ok F b q a
theorem add_ok (b q:Nat) (x y:Int):Tells (C:=C0) Tryz.prog (.fn 112) [⟨b,q,4,false,none,.one [.junk,.int .i64 (szF F:Int)]⟩] [.ptr 0 0 0,.int .i64 x,.int .i64 y] (.int .i64 (loI F (ibit .xor .i64 x y))):=by
 refine loc_pc (P:=Tryz.prog) (E:=⟨[],[pcLow F],12,[],[],[],none⟩) (L:=[]) mix Tryz.func112 rfl (by kernel_rfl) (by kernel_rfl) rfl rfl ?_
 exact vgo
def pcAdd:Pc Tryz.prog C0 where
 tg:=.fn 112
 X:=Nat×Nat×Int×Int
 args:=fun (b,q,x,y)=>[.ptr 0 0 0,.int .i64 x,.int .i64 y]
 mem:=fun (b,q,x,y)=>[⟨b,q,4,false,none,.one [.junk,.int .i64 (szF F:Int)]⟩]
 pre _:=True
 res:=fun (b,q,x,y)=>.int .i64 (loI F (ibit .xor .i64 x y))
 mat vs m:=match vs with
  | [.ptr c _ _,.int _ x,.int _ y]=>match nth m c with
    | ⟨b,q,_,_,_,_⟩=>some ((b,q,x,y),[c])
  | _=>none
 ok:=fun (b,q,x,y) _=>add_ok F b q x y
theorem exp_ok (b q be qe:Nat) (n:Int) (h1 : -4611686018427387904≤n) (h2:n≤4611686018427387904):Tells (C:=C0) Tryz.prog (.fn 100) [⟨b,q,4,false,none,.one [.junk,.int .i64 (szF F:Int),.sl 1 0 (nF F) (nF F)]⟩,xCk F be qe] [.ptr 0 0 0,.int .i64 n] (.int .i64 (vi (exF F n))):=by
 obtain ⟨hs,h7,hh⟩:=nF_sz F
 have e1:(szF F:Int) - 1=(nF F:Int):=by omega
 have hx:=exF_at (F:=F) n
 have hl:=xT_len (F:=F)
 have ht : -(nF F:Int)<n.tmod (nF F)∧n.tmod (nF F)<(nF F:Int):=by
  have:=uv n (show (0:Int)<(nF F:Int) by omega)
  have:=Int.lt_tmod_of_pos n (show (0:Int)<(nF F:Int) by omega)
  omega
 refine loc_pc (P:=Tryz.prog) (E:=⟨[],[],28,[],[],[],none⟩) (L:=[]) mix Tryz.func100 rfl (by kernel_rfl) (by kernel_rfl) rfl rfl ?_
 ((conv=>arg 1;reduce);with_reducible repeat' first | exact ty | refine ta ?_ ?_ | refine ti fun _ => ?_ | refine tf fun _ => ?_ | refine tl ?_)
 all_goals try exact vlf
 all_goals
  rename_i d
  rw [e1] at d ⊢
  first
  | exact hx.2 (ng d)
  | exact hx.1 (Int.not_lt.1 (nf d))
  | (have d:=ng d;first | exact inR64 (by omega) (by omega) | omega)
  | (have d:=nf d;omega)
def pcExp:Pc Tryz.prog C0 where
 tg:=.fn 100
 X:=Nat×Nat×Nat×Nat×Int
 args:=fun (b,q,be,qe,n)=>[.ptr 0 0 0,.int .i64 n]
 mem:=fun (b,q,be,qe,n)=>[⟨b,q,4,false,none,.one [.junk,.int .i64 (szF F:Int),.sl 1 0 (nF F) (nF F)]⟩,xCk F be qe]
 pre:=fun (b,q,be,qe,n) => -4611686018427387904≤n∧n≤4611686018427387904
 res:=fun (b,q,be,qe,n)=>.int .i64 (vi (exF F n))
 mat vs m:=match vs with
  | [.ptr c _ _,.int _ n]=>match nth m c with
    | ⟨b,q,_,_,_,.one (_ :: _ :: .sl x _ _ _ :: _)⟩=>match nth m x with
      | ⟨be,qe,_,_,_,_⟩=>some ((b,q,be,qe,n),[c,x])
    | _=>none
  | _=>none
 ok:=fun (b,q,be,qe,n) h=>exp_ok F b q be qe n h.1 h.2
theorem mul_ok (b q be qe bl ql:Nat) (x y:Int):Tells (C:=C0) Tryz.prog (.fn 113) [fld F b q,xCk F be qe,lCk F bl ql] [.ptr 0 0 0,.int .i64 x,.int .i64 y] (.int .i64 (muI F x y)):=by
 obtain ⟨hs,h7,hh⟩:=nF_sz F
 have l1:=loI_lt (F:=F) x
 have l2:=loI_lt (F:=F) y
 have hl:=lT_len (F:=F)
 have b1:=lT_lt (F:=F) l1.1 l1.2
 have b2:=lT_lt (F:=F) l2.1 l2.2
 refine loc_pc (P:=Tryz.prog) (E:=⟨[],[pcLow F,pcExp F],36,[],[],[],none⟩) (L:=[]) mix Tryz.func113 rfl (by kernel_rfl) (by kernel_rfl) rfl rfl ?_
 ((conv=>arg 1;reduce);with_reducible repeat' first | exact ty | refine ta ?_ ?_ | refine ti fun _ => ?_ | refine tf fun _ => ?_ | refine tl ?_)
 all_goals try exact vlf
 · rename_i d
   exact (muI_zero (by simpa [SB.val] using d)).symm
 · exact inR64 (n:=(lT F).getD (loI F x).toNat 0+(lT F).getD (loI F y).toNat 0) (by omega) (by omega)
 · show -4611686018427387904≤(lT F).getD (loI F x).toNat 0+(lT F).getD (loI F y).toNat 0∧(lT F).getD (loI F x).toNat 0+(lT F).getD (loI F y).toNat 0≤4611686018427387904
   omega
 · rename_i d
   simp only [xd,decide_eq_false_iff_not,SB.val] at d
   exact muI_lg d.1 d.2
noncomputable def pcMul:Pc Tryz.prog C0 where
 tg:=.fn 113
 X:=Nat×Nat×Nat×Nat×Nat×Nat×Int×Int
 args:=fun (b,q,be,qe,bl,ql,x,y)=>[.ptr 0 0 0,.int .i64 x,.int .i64 y]
 mem:=fun (b,q,be,qe,bl,ql,x,y)=>[fld F b q,xCk F be qe,lCk F bl ql]
 pre _:=True
 res:=fun (b,q,be,qe,bl,ql,x,y)=>.int .i64 (muI F x y)
 mat vs m:=match vs with
  | [.ptr c _ _,.int _ x,.int _ y]=>match nth m c with
    | ⟨b,q,_,_,_,.one (_ :: _ :: .sl e _ _ _ :: .sl l _ _ _ :: _)⟩=>match nth m e,nth m l with
      | ⟨be,qe,_,_,_,_⟩,⟨bl,ql,_,_,_,_⟩=>some ((b,q,be,qe,bl,ql,x,y),[c,e,l])
    | _=>none
  | _=>none
 ok:=fun (b,q,be,qe,bl,ql,x,y) _=>mul_ok F b q be qe bl ql x y
theorem log_ok (b q be qe bl ql:Nat) (x:Int) (h:loI F x≠0):Tells (C:=C0) Tryz.prog (.fn 128) [fld F b q,xCk F be qe,lCk F bl ql] [.ptr 0 0 0,.int .i64 x] (.tup [.int .i64 ((lT F).getD (loI F x).toNat 0),.nili]):=by
 obtain ⟨hs,h7,hh⟩:=nF_sz F
 have l1:=loI_lt (F:=F) x
 have hl:=lT_len (F:=F)
 refine loc_pc (P:=Tryz.prog) (E:=⟨[],[pcLow F],19,[],[],[],none⟩) (L:=[]) mix Tryz.func128 rfl (by kernel_rfl) (by kernel_rfl) rfl rfl ?_
 ((conv=>arg 1;reduce);with_reducible repeat' first | exact ty | refine ta ?_ ?_ | refine ti fun _ => ?_ | refine tf fun _ => ?_ | refine tl ?_)
 all_goals try exact vlf
 all_goals exact absurd (ng ‹_›) h
def pcLog:Pc Tryz.prog C0 where
 tg:=.fn 128
 X:=Nat×Nat×Nat×Nat×Nat×Nat×Int
 args:=fun (b,q,be,qe,bl,ql,x)=>[.ptr 0 0 0,.int .i64 x]
 mem:=fun (b,q,be,qe,bl,ql,x)=>[fld F b q,xCk F be qe,lCk F bl ql]
 pre:=fun (b,q,be,qe,bl,ql,x)=>loI F x≠0
 res:=fun (b,q,be,qe,bl,ql,x)=>.tup [.int .i64 ((lT F).getD (loI F x).toNat 0),.nili]
 mat vs m:=match vs with
  | [.ptr c _ _,.int _ x]=>match nth m c with
    | ⟨b,q,_,_,_,.one (_ :: _ :: .sl e _ _ _ :: .sl l _ _ _ :: _)⟩=>match nth m e,nth m l with
      | ⟨be,qe,_,_,_,_⟩,⟨bl,ql,_,_,_,_⟩=>some ((b,q,be,qe,bl,ql,x),[c,e,l])
    | _=>none
  | _=>none
 ok:=fun (b,q,be,qe,bl,ql,x) h=>log_ok F b q be qe bl ql x h
@[irreducible] noncomputable def ivI (F:Gf) (x:Int):Int:=vi (Fd.iv (el F x))
variable {F}
theorem ivI_eq (x:Int):ivI F x=vi (Fd.iv (el F x)):=by unfold ivI;rfl
theorem ivI_lg {x:Int} (h:loI F x≠0):vi (exF F (0 - (lT F).getD (loI F x).toNat 0))=ivI F x:=by
 have h1:=loI_lt (F:=F) x
 have p:0<(el F x).v:=sh fun e=>h (by rw [loI_eq];unfold vi;rw [e];rfl)
 have l1:=lg_lt (F:=F) p (el F x).lt
 have e1:(vi (el F x)).toNat=(el F x).v:=zo _
 rw [lT_at (by omega),loI_eq,e1,ivI_eq]
 generalize hk:lg F.m F.p F.N (el F x).v=k at l1
 congr 1
 have e2:el F x=ex F k:=El.ext l1.2.symm
 rw [e2]
 obtain ⟨h7,_,_⟩:=nF_sz F
 have h8:=Gf.N3 (F:=F)
 by_cases h0:k=0
 · subst h0
   have:exF F (0 - ((0:Nat):Int))=ex F 0:=exF_nat 0
   rw [this]
   exact Fd.iv_uniq (by rw [← ex_add];rfl)
 · refine Fd.iv_uniq ?_
   have e3:exF F (0 - (k:Int))=ex F (F.N - k):=by
    unfold exF
    congr 1
    have:(0 - (k:Int)) % (F.N:Int)=((F.N - k:Nat):Int):=by
     rw [← oa,rf (by omega) (by omega)]
     omega
    rw [this,zo]
   rw [e3,← ex_add,show k+(F.N - k)=F.N by omega,ex_NN]
variable (F)
theorem inv_ok (b q be qe bl ql:Nat) (x:Int) (h:loI F x≠0):Tells (C:=C0) Tryz.prog (.fn 117) [fld F b q,xCk F be qe,lCk F bl ql] [.ptr 0 0 0,.int .i64 x] (.tup [.int .i64 (ivI F x),.nili]):=by
 have hb:=lT_lt (F:=F) (loI_lt (F:=F) x).1 (loI_lt (F:=F) x).2
 refine loc_pc (P:=Tryz.prog) (E:=⟨[],[pcLog F,pcExp F],21,[],[],[],none⟩) (L:=[]) mix Tryz.func117 rfl (by kernel_rfl) (by kernel_rfl) rfl rfl ?_
 ((conv=>arg 1;reduce);with_reducible repeat' first | exact ty | refine ta ?_ ?_ | refine ti fun _ => ?_ | refine tf fun _ => ?_ | refine tl ?_)
 all_goals first | exact vlf | exact h | exact ivI_lg h | skip
 · show -4611686018427387904≤0 - (lT F).getD (loI F x).toNat 0∧0 - (lT F).getD (loI F x).toNat 0≤4611686018427387904
   omega
noncomputable def pcInv:Pc Tryz.prog C0 where
 tg:=.fn 117
 X:=Nat×Nat×Nat×Nat×Nat×Nat×Int
 args:=fun (b,q,be,qe,bl,ql,x)=>[.ptr 0 0 0,.int .i64 x]
 mem:=fun (b,q,be,qe,bl,ql,x)=>[fld F b q,xCk F be qe,lCk F bl ql]
 pre:=fun (b,q,be,qe,bl,ql,x)=>loI F x≠0
 res:=fun (b,q,be,qe,bl,ql,x)=>.tup [.int .i64 (ivI F x),.nili]
 mat vs m:=match vs with
  | [.ptr c _ _,.int _ x]=>match nth m c with
    | ⟨b,q,_,_,_,.one (_ :: _ :: .sl e _ _ _ :: .sl l _ _ _ :: _)⟩=>match nth m e,nth m l with
      | ⟨be,qe,_,_,_,_⟩,⟨bl,ql,_,_,_,_⟩=>some ((b,q,be,qe,bl,ql,x),[c,e,l])
    | _=>none
  | _=>none
 ok:=fun (b,q,be,qe,bl,ql,x) h=>inv_ok F b q be qe bl ql x h
theorem div_ok (b q be qe bl ql:Nat) (x y:Int) (h:loI F y≠0):Tells (C:=C0) Tryz.prog (.fn 87) [fld F b q,xCk F be qe,lCk F bl ql] [.ptr 0 0 0,.int .i64 x,.int .i64 y] (.tup [.int .i64 (muI F x (ivI F y)),.nili]):=by
 refine loc_pc (P:=Tryz.prog) (E:=⟨[],[pcInv F,pcMul F],23,[],[],[],none⟩) (L:=[]) mix Tryz.func87 rfl (by kernel_rfl) (by kernel_rfl) rfl rfl ?_
 ((conv=>arg 1;reduce);with_reducible repeat' first | exact ty | refine ta ?_ ?_ | refine ti fun _ => ?_ | refine tf fun _ => ?_ | refine tl ?_)
 all_goals first | exact vlf | exact h
noncomputable def pcDiv:Pc Tryz.prog C0 where
 tg:=.fn 87
 X:=Nat×Nat×Nat×Nat×Nat×Nat×Int×Int
 args:=fun (b,q,be,qe,bl,ql,x,y)=>[.ptr 0 0 0,.int .i64 x,.int .i64 y]
 mem:=fun (b,q,be,qe,bl,ql,x,y)=>[fld F b q,xCk F be qe,lCk F bl ql]
 pre:=fun (b,q,be,qe,bl,ql,x,y)=>loI F y≠0
 res:=fun (b,q,be,qe,bl,ql,x,y)=>.tup [.int .i64 (muI F x (ivI F y)),.nili]
 mat vs m:=match vs with
  | [.ptr c _ _,.int _ x,.int _ y]=>match nth m c with
    | ⟨b,q,_,_,_,.one (_ :: _ :: .sl e _ _ _ :: .sl l _ _ _ :: _)⟩=>match nth m e,nth m l with
      | ⟨be,qe,_,_,_,_⟩,⟨bl,ql,_,_,_,_⟩=>some ((b,q,be,qe,bl,ql,x,y),[c,e,l])
    | _=>none
  | _=>none
 ok:=fun (b,q,be,qe,bl,ql,x,y) h=>div_ok F b q be qe bl ql x y h
theorem fm_ok (b q:Nat) (z:Int):Tells (C:=C0) Tryz.prog (.fn 77) [⟨b,q,4,false,none,.one [.int .i64 z]⟩] [.ptr 0 0 0] (.int .i64 z):=by
 refine loc_pc (P:=Tryz.prog) (E:=⟨[],[],7,[],[],[],none⟩) (L:=[]) mix Tryz.func77 rfl (by kernel_rfl) (by kernel_rfl) rfl rfl ?_
 exact vgo
def pcM:Pc Tryz.prog C0 where
 tg:=.fn 77
 X:=Nat×Nat×Int
 args _:=[.ptr 0 0 0]
 mem:=fun (b,q,z)=>[⟨b,q,4,false,none,.one [.int .i64 z]⟩]
 pre _:=True
 res:=fun (b,q,z)=>.int .i64 z
 mat vs m:=match vs with
  | [.ptr c _ _]=>match nth m c with
    | ⟨b,q,_,_,_,.one (.int _ z :: _)⟩=>some ((b,q,z),[c])
    | _=>none
  | _=>none
 ok:=fun (b,q,z) _=>fm_ok b q z
theorem fsize_ok (b q:Nat) (z:Int):Tells (C:=C0) Tryz.prog (.fn 118) [⟨b,q,4,false,none,.one [.junk,.int .i64 z]⟩] [.ptr 0 0 0] (.int .i64 z):=by
 refine loc_pc (P:=Tryz.prog) (E:=⟨[],[],7,[],[],[],none⟩) (L:=[]) mix Tryz.func118 rfl (by kernel_rfl) (by kernel_rfl) rfl rfl ?_
 exact vgo
def pcSize:Pc Tryz.prog C0 where
 tg:=.fn 118
 X:=Nat×Nat×Int
 args _:=[.ptr 0 0 0]
 mem:=fun (b,q,z)=>[⟨b,q,4,false,none,.one [.junk,.int .i64 z]⟩]
 pre _:=True
 res:=fun (b,q,z)=>.int .i64 z
 mat vs m:=match vs with
  | [.ptr c _ _]=>match nth m c with
    | ⟨b,q,_,_,_,.one (_ :: .int _ z :: _)⟩=>some ((b,q,z),[c])
    | _=>none
  | _=>none
 ok:=fun (b,q,z) _=>fsize_ok b q z
end
end Go.Vx
namespace Go.Vx
open Go Go.Proofs
variable [Gl]
theorem poly_ok (k:Nat) (h1:3≤k) (h2:k≤14):Tells (C:=C0) Tryz.prog (.fn 76) [] [.int .i64 (k:Int)] (.int .i64 (polyN k:Int)):=by
 refine loc_pc (P:=Tryz.prog) (E:=⟨[],[],15,[],[],[],none⟩) (L:=[]) mix Tryz.func76 rfl (by kernel_rfl) (by kernel_rfl) rfl rfl ?_
 ((conv=>arg 1;reduce);with_reducible repeat' first | exact ty | refine ta ?_ ?_ | refine ti fun _ => ?_ | refine tf fun _ => ?_ | refine tl ?_)
 all_goals try exact vlf
 · rename_i d
   simp [SB.val] at d
   omega
 · show ((k:Int) - 3).toNat+0<12
   omega
 · unfold polyN
   rw [if_neg (by omega)]
   rcases (by omega:k=3∨k=4∨k=5∨k=6∨k=7∨k=8∨k=9∨k=10∨k=11∨k=12∨k=13∨k=14) with rfl | rfl | rfl | rfl | rfl | rfl | rfl | rfl | rfl | rfl | rfl | rfl <;> rfl
def pcPolyF (F:Gf):Pc Tryz.prog C0 where
 tg:=.fn 76
 X:=Unit
 args _:=[.int .i64 (F.m:Int)]
 mem _:=[]
 pre _:=True
 res _:=.int .i64 (F.p:Int)
 mat vs _:=match vs with
  | [.int _ _]=>some ((),[])
  | _=>none
 ok _ _:=by
  have:=poly_ok F.m F.m3 F.m14
  rwa [F.po] at this
section
variable (F:Gf)
@[irreducible] def xTi (i:Nat):List Int:=(xj (nF F)).map fun j=>if j<i then vi (ex F j) else 0
@[irreducible] def lTi (i:Nat):List Int:=(xj (szF F)).map fun x=>((lg F.m F.p i x:Nat):Int)
variable {F}
theorem set_map {n i:Nat} {f:Nat→Int} {v:Int} (hi:i<n):((xj n).map f).set i v=(xj n).map fun j=>if j=i then v else f j:=by
 refine wn (by simp) fun j h1 h2 => ?_
 simp only [zg,zm,sf] at h1
 rw [List.getElem_set]
 simp only [th,sj]
 by_cases h:i=j
 · rw [if_pos h,if_pos h.symm]
 · rw [if_neg h,if_neg (Ne.symm h)]
theorem xTi_len {i:Nat}:(xTi F i).length=nF F:=by unfold xTi;simp
theorem lTi_len {i:Nat}:(lTi F i).length=szF F:=by unfold lTi;simp
theorem xTi_zero:zw (nF F) (0:Int)=xTi F 0:=by
 unfold xTi
 refine wn (by simp) fun j _ _=>by simp
theorem lTi_zero:zw (szF F) (0:Int)=lTi F 0:=by
 unfold lTi lg
 refine wn (by simp) fun j _ _=>by simp
theorem xTi_all:xTi F (nF F)=xT F:=by
 unfold xTi xT
 refine xh fun j hj=>by rw [if_pos (List.mem_range.1 hj)]
theorem lTi_all:lTi F (nF F)=lT F:=by unfold lTi lT;rw [nF_eq]
theorem xTi_set {i:Nat} (h:i<nF F):(xTi F i).set i (vi (ex F i))=xTi F (i+1):=by
 unfold xTi
 rw [set_map h]
 refine xh fun j _ => ?_
 by_cases hj:j=i
 · subst hj;rw [if_pos rfl,if_pos (by omega)]
 · rw [if_neg hj]
   by_cases h2:j<i
   · rw [if_pos h2,if_pos (by omega)]
   · rw [if_neg h2,if_neg (by omega)]
theorem lTi_set {i:Nat} (h:i<nF F):(lTi F i).set (vi (ex F i)).toNat (i:Int)=lTi F (i+1):=by
 have hx:=(ex F i).lt
 have e:(vi (ex F i)).toNat=(ex F i).v:=zo _
 unfold lTi
 rw [set_map (by rw [e,szF_eq];exact hx),e]
 refine xh fun x _ => ?_
 rw [nF_eq] at h
 by_cases hj:x=(ex F i).v
 · subst hj
   rw [if_pos rfl]
   have:=lg_ex (F:=F) h (n:=i+1) (by omega) (by omega)
   rw [ex_v]
   rw [this]
 · rw [if_neg hj]
   have:lg F.m F.p (i+1) x=lg F.m F.p i x:=by
    unfold lg
    rw [List.range_succ,List.find?_append]
    cases h1:(xj i).find? (fun j=>mx F.m F.p j 1 == x) with
    | some j=>rfl
    | none=>
      have:(mx F.m F.p i 1 == x)=false:=by
       rw [beq_eq_false_iff_ne]
       exact fun h2=>hj (by rw [← h2,ex_v])
      simp [List.find?,this]
   rw [this]
theorem next_lo {i:Nat} (h:¬ (szF F:Int)≤vi (ex F i)*2):vi (ex F i)*2=vi (ex F (i+1)):=by
 rw [szF_eq] at h
 have hm:=F.m3
 have h2:2*(ex F i).v<2 ^ F.m:=by unfold vi at h;omega
 have h3:((ex F i).v).testBit (F.m - 1)=false:=xp (by
  have:2 ^ F.m=2*2 ^ (F.m - 1):=by rw [xn,← wc];congr 1;omega
  omega)
 have:(ex F (i+1)).v=2*(ex F i).v:=by
  show mulx F.m F.p (mx F.m F.p i 1)=_
  unfold mulx
  rw [show mx F.m F.p i 1=(ex F i).v from rfl,h3];rfl
 unfold vi
 rw [this]
 omega
theorem next_hi {i:Nat} (h:(szF F:Int)≤vi (ex F i)*2):ibit .xor .i64 (vi (ex F i)*2) (F.p:Int)=vi (ex F (i+1)):=by
 rw [szF_eq] at h
 have hm:=F.m3
 have h14:=F.m14
 have hx:=(ex F i).lt
 have hp2:2 ^ F.m=2*2 ^ (F.m - 1):=by rw [xn,← wc];congr 1;omega
 have h3:((ex F i).v).testBit (F.m - 1)=true:=by
  rw [xb]
  have:(ex F i).v / 2 ^ (F.m - 1)=1:=by
   rw [ol (yd _)]
   unfold vi at h
   omega
  rw [this];rfl
 have hb:2 ^ F.m≤2 ^ 14:=zi (by omega) h14
 have hpl:=F.lt
 have hb2:2 ^ (F.m+1)≤2 ^ 15:=zi (by omega) (by omega)
 have e:vi (ex F i)*2=((2*(ex F i).v:Nat):Int):=by unfold vi;omega
 rw [e,xor64 (zk (show 2*(ex F i).v<2 ^ 15 by omega) (by decide)) (zk (show F.p<2 ^ 15 by omega) (by decide))]
 unfold vi
 congr 1
 show _=mulx F.m F.p (mx F.m F.p i 1)
 unfold mulx
 rw [show mx F.m F.p i 1=(ex F i).v from rfl,h3];rfl
variable (F)
def Fn5:Inv' C0:=⟨1000005,Nat×Nat,fun _=>[],fun x m=>match m with
 | [⟨b,q,_,_,_,_⟩]=>[⟨b,q,4,true,none,.one [.int .i64 (F.m:Int),.int .i64 (szF F:Int),.sl 1 0 (nF F) (nF F),.sl 2 0 (szF F) (szF F)]⟩,⟨x.1,0,1,true,none,.rows 3 (zw (nF F) (0:Int))⟩,⟨x.2,0,1,true,none,.rows 3 (zw (szF F) (0:Int))⟩]
 | m=>m,fun _=>True,fun _=>0⟩
def Fn7:Inv' C0:=⟨7,Nat,fun i=>[(38,.int .i64 (i:Int)),(5,.int .i64 (vi (ex F i)))],fun i m=>match m with
 | [f,x,l]=>[f,⟨x.block,x.base,1,true,none,.rows 3 (xTi F i)⟩,⟨l.block,l.base,1,true,none,.rows 3 (lTi F i)⟩]
 | m=>m,fun i=>i≤nF F,fun i=>nF F - i⟩
theorem shl_sz:ishl .i64 1 (F.m:Int)=(szF F:Int):=by
 have h14:=F.m14
 have hb:2 ^ F.m≤2 ^ 14:=zi (by omega) h14
 have:ishl .i64 1 (F.m:Int)=IntKind.i64.wrap (((2 ^ F.m:Nat):Int)):=by
  unfold ishl
  rw [zo,ww (show F.m≤IntKind.i64.bits by show F.m≤64;omega),i2,Int.one_mul]
 rw [this,szF_eq]
 exact wrap_nat (vw hb (by decide))
abbrev nw4:List Tk:=[.p 0,.p 1,.p 2,.p 3,.p 4,.p 8,.p 9,.p 10,.t (.two 5 (PTree.of [.p 6,.t (.two 7 (PTree.of [.e 11,.p 13,.p 14,.t (.two 12 (PTree.of [.e 15,.p 16,.p 17,.e 18]) 15 (PTree.of [.e 12,.p 16,.p 17,.e 18]))]) 11 (PTree.of [.t (.two 7 (PTree.of [.p 13,.p 14,.t (.two 12 (PTree.of [.e 15,.p 16,.p 17,.e 18]) 15 (PTree.of [.e 12,.p 16,.p 17,.e 18]))]) 12 (PTree.of [.e 7,.p 13,.p 14,.e 15,.p 16,.p 17,.e 18]))]))]) 11 (PTree.of [.t (.two 5 (PTree.of [.p 6,.t (.two 7 (PTree.of [.p 13,.p 14,.t (.two 12 (PTree.of [.e 15,.p 16,.p 17,.e 18]) 15 (PTree.of [.e 12,.p 16,.p 17,.e 18]))]) 12 (PTree.of [.e 7,.p 13,.p 14,.e 15,.p 16,.p 17,.e 18]))]) 12 (PTree.of [.e 5,.p 6,.e 7,.p 13,.p 14,.e 15,.p 16,.p 17,.e 18]))]))]
abbrev nw9:List Tk:=[.p 0,.p 1,.p 2,.p 4,.p 5,.p 6,.p 7,.p 9,.p 10,.p 11,.t (.two 3 (PTree.of [.e 8,.p 12,.e 13,.p 14,.e 15]) 8 (PTree.of [.e 3,.p 12,.e 13,.p 14,.e 15]))]
set_option maxHeartbeats 4000000 in
theorem fnew_ok:Does (C:=C0) Tryz.prog (.fn 51) [] [.int .i64 (F.m:Int)]
 [⟨Nat×Nat×Nat,fun _=>True,fun _=>.tup [.ptr 0 0 0,.nili],fun y=>newF F y⟩]:=by
 obtain ⟨hs,h7,hh⟩:=nF_sz F
 have hxl:∀ i,(xTi F i).length=nF F:=fun i=>xTi_len
 have hll:∀ i,(lTi F i).length=szF F:=fun i=>lTi_len
 have es:=shl_sz F
 have e1:(szF F:Int) - 1=(nF F:Int):=by omega
 have hby:(Tryz.prog.types[3].bytes:Int)=8:=by kernel_rfl
 have hp0:(F.p:Int)≠0:=fun h=>by
  have:F.p=0:=by omega
  have h2:=F.top
  rw [this,xa] at h2
  cases h2
 refine loc_fn (P:=Tryz.prog) (E:=⟨[],[pcPolyF F],69,[(4,[],nw4),(9,[],nw9)],[],[],none⟩) (L:=[Fn5 F,Fn7 F]) mix Tryz.func51 rfl (by kernel_rfl) (by kernel_rfl) rfl rfl ?_
 ((conv=>arg 1;reduce);with_reducible repeat' first | exact ty | refine ta ?_ ?_ | refine ti fun _ => ?_ | refine tf fun _ => ?_ | refine tl ?_)
 all_goals try exact vlf
 all_goals try exact absurd (ng ‹_›) hp0
 all_goals try (rw [es];first | exact inR64 (by omega) (by omega) | (rw [hby];omega))
 all_goals try (rename_i b x l;first | (refine Stands.one (x,l) ⟨trivial,?_⟩;((conv=>arg 1;reduce);with_reducible repeat' first | exact ty | refine ta ?_ ?_ | refine ti fun _ => ?_ | refine tf fun _ => ?_ | refine tl ?_);all_goals (first | exact vlf | exact es | exact es.symm | (rw [es,e1];rfl) | (rw [es];rfl))) | (refine Stands.one (l,x) ⟨trivial,?_⟩;((conv=>arg 1;reduce);with_reducible repeat' first | exact ty | refine ta ?_ ?_ | refine ti fun _ => ?_ | refine tf fun _ => ?_ | refine tl ?_);all_goals (first | exact vlf | exact es | exact es.symm | (rw [es,e1];rfl) | (rw [es];rfl))))
 all_goals try (
  rename_i p0 b J hJ i hi d
  change Nat at i
  have hi:i≤nF F:=hi
  have d:(i:Int)<(nF F:Int):=ng d
  have v:=vi_lt (ex F i)
  rw [← szF_eq] at v
  first
  | exact d
  | exact v.1
  | exact v.2
  | exact inR64 (n:=vi (ex F i)*2) (by omega) (by omega)
  | (rw [hxl];show (i:Int).toNat+0<nF F;omega)
  | (rw [hll];omega))
 · rename_i p0 b J hJ
   refine Stands.one (0:Nat) ⟨ze _,?_⟩
   ((conv=>arg 1;reduce);with_reducible repeat' first | exact ty | refine ta ?_ ?_ | refine ti fun _ => ?_ | refine tf fun _ => ?_ | refine tl ?_)
   all_goals first | exact vlf | exact xTi_zero | exact lTi_zero | exact xTi_zero.symm | exact lTi_zero.symm
 all_goals try (
  rename_i p0 b J hJ i hi d c
  change Nat at i
  have hi:i≤nF F:=hi
  have d:(i:Int)<(nF F:Int):=ng d
  first
  | exact inR64 (n:=(i:Int)+1) (by omega) (by omega)
  | (refine Stands.one (i+1:Nat) ⟨by show i+1≤nF F;omega,by show nF F - (i+1)<nF F - i;omega,?_⟩
     ((conv=>arg 1;reduce);with_reducible repeat' first | exact ty | refine ta ?_ ?_ | refine ti fun _ => ?_ | refine tf fun _ => ?_ | refine tl ?_)
     all_goals first
      | exact vlf
      | exact next_hi (ng c)
      | exact next_lo (nf c)
      | exact (xTi_set (i:=i) (by omega)).symm
      | exact (lTi_set (i:=i) (by omega)).symm))
 rename_i p0 b J hJ i hi d
 change Nat at i
 have hi:i≤nF F:=hi
 have d:¬ (i:Int)<(nF F:Int):=nf d
 obtain rfl:i=nF F:=by omega
 refine Ends.one (b,J.1,J.2) trivial ?_
 ((conv=>arg 1;reduce);with_reducible repeat' first | exact ty | refine ta ?_ ?_ | refine ti fun _ => ?_ | refine tf fun _ => ?_ | refine tl ?_)
 all_goals first | exact vlf | exact xTi_all.symm | exact lTi_all.symm | exact xTi_all | exact lTi_all
def fcFNew:Fc Tryz.prog C0 where
 tg:=.fn 51
 X:=Unit
 args _:=[.int .i64 (F.m:Int)]
 mem _:=[]
 pre _:=True
 alts _:=[⟨Nat×Nat×Nat,fun _=>True,fun _=>.tup [.ptr 0 0 0,.nili],fun y=>newF F y⟩]
 mat vs _:=match vs with
  | [.int _ _]=>some ((),[])
  | _=>none
 ok _ _:=fnew_ok F
end
end Go.Vx
namespace Go.Vx
open Go Go.Proofs
noncomputable section
variable [Gl]
abbrev Os:=Bool×Nat×List Int×Nat
structure Ow (L:List Int) (y:Os):Prop where
 eq:y.2.2.1.take L.length=L
 cap:L.length≤y.2.2.2
 len:y.2.2.2≤y.2.2.1.length
 nil:y.1=false→L.length=0∧y.2.2.2=0
abbrev osC (wr:Bool) (y:Os):Ck C0:=⟨y.2.1,0,1,wr,some y.1,.rows 3 y.2.2.1⟩
theorem Ow.at {L:List Int} {y:Os} (h:Ow L y) {i:Nat} (hi:i<L.length):y.2.2.1.getD i 0=L.getD i 0:=by
 have e:=h.eq
 have:(y.2.2.1.take L.length).getD i 0=L.getD i 0:=by rw [e]
 rw [← this]
 simp only [zy,yf hi]
section
variable (F:Gf)
theorem on_of {o:Bool} {n c:Nat} (ho:o=false→n=0∧c=0) (h:0<n):o=true:=by
 cases o with
 | true=>rfl
 | false=>have:=(ho rfl).1;omega
theorem ring_ok (b q:Nat):Does (C:=C0) Tryz.prog (.fn 84) [⟨b,q,4,false,none,.one []⟩] [.ptr 0 0 0]
 [⟨Nat,fun _=>True,fun _=>.ptr 1 0 0,fun y=>[⟨b,q,4,false,none,.one []⟩,⟨y,0,1,true,none,.one [.ptr 0 0 0]⟩]⟩]:=by
 refine loc_fn (P:=Tryz.prog) (E:=⟨[],[],6,[],[],[],none⟩) (L:=[]) mix Tryz.func84 rfl (by kernel_rfl) (by kernel_rfl) rfl rfl ?_
 ((conv=>arg 1;reduce);with_reducible repeat' first | exact ty | refine ta ?_ ?_ | refine ti fun _ => ?_ | refine tf fun _ => ?_ | refine tl ?_)
 all_goals try exact vlf
 rename_i y
 refine Ends.one y trivial ?_
 exact vgo
def fcRing:Fc Tryz.prog C0 where
 tg:=.fn 84
 X:=Nat×Nat
 args _:=[.ptr 0 0 0]
 mem:=fun (b,q)=>[⟨b,q,4,false,none,.one []⟩]
 pre _:=True
 alts:=fun (b,q)=>[⟨Nat,fun _=>True,fun _=>.ptr 1 0 0,fun y=>[⟨b,q,4,false,none,.one []⟩,⟨y,0,1,true,none,.one [.ptr 0 0 0]⟩]⟩]
 mat vs m:=match vs with
  | [.ptr c _ _]=>match nth m c with
    | ⟨b,q,_,_,_,_⟩=>some ((b,q),[c])
  | _=>none
 ok:=fun (b,q) _=>ring_ok b q
@[irreducible] def trI (P:List Int) (i:Nat):List Int:=(xj P.length).map fun j=>if j<i then loI F (P.getD j 0) else 0
@[irreducible] def trN (P:List Int) (i:Nat):Nat:=top (els F (P.take i))
@[irreducible] def trL (P:List Int):List Int:=vis (trim (els F P))
theorem row_len {l:List Int} {i n:Nat} (h:i+n≤l.length):((l.drop i).take n).length=n:=by simp;omega
theorem row_at {l:List Int} {i n:Nat}:∀ j,j<n→l.getD (j+i) 0=((l.drop i).take n).getD j 0:=fun j hj=>by
 simp only [zy,yf hj,List.getElem?_drop,uj]
variable {F}
theorem trI_len {P:List Int} {i:Nat}:(trI F P i).length=P.length:=by unfold trI;simp
theorem trI_zero {P:List Int}:zw P.length (0:Int)=trI F P 0:=by
 unfold trI
 refine wn (by simp) fun j _ _=>by simp
theorem trI_set {P:List Int} {i:Nat} (h:i<P.length):(trI F P i).set i (loI F (P.getD i 0))=trI F P (i+1):=by
 unfold trI
 rw [set_map h]
 refine xh fun j _ => ?_
 by_cases hj:j=i
 · subst hj;rw [if_pos rfl,if_pos (by omega)]
 · rw [if_neg hj]
   by_cases h2:j<i
   · rw [if_pos h2,if_pos (by omega)]
   · rw [if_neg h2,if_neg (by omega)]
theorem trI_all {P:List Int}:trI F P P.length=vis (els F P):=by
 unfold trI
 refine wn (by simp) fun j h1 h2 => ?_
 simp only [zm,sf] at h1
 simp only [th,sj,if_pos h1,loI_eq,zy,zt h1,xy]
theorem els_snoc {P:List Int} {i:Nat} (h:i<P.length):els F (P.take (i+1))=els F (P.take i) ++ [el F (P.getD i 0)]:=by
 show (P.take (i+1)).map _=_
 rw [List.take_add_one,List.map_append]
 simp [zt h,zy]
theorem trN_yes {P:List Int} {i:Nat} (h:i<P.length) (hn:loI F (P.getD i 0)≠0):trN F P (i+1)=i+1:=by
 unfold trN
 rw [els_snoc h,top_snoc,if_neg (fun e=>hn (by rw [loI_eq,e];rfl))]
 simp;omega
theorem trN_no {P:List Int} {i:Nat} (h:i<P.length) (hn:loI F (P.getD i 0)=0):trN F P (i+1)=trN F P i:=by
 unfold trN
 rw [els_snoc h,top_snoc,if_pos (by rw [loI_eq] at hn;exact vi_zero.1 hn)]
theorem trN_le {P:List Int} {i:Nat}:trN F P i≤i:=by
 unfold trN
 refine xk (top_le _) ?_
 simp;omega
theorem trL_eq {P:List Int}:(trI F P P.length).take (trN F P P.length)=trL F P:=by
 rw [trI_all]
 unfold trN trL trim
 rw [xc]
 simp [List.map_take]
theorem trL_len {P:List Int}:(trL F P).length=trN F P P.length:=by
 unfold trL trN
 rw [xc]
 show ((trim (els F P)).map vi).length=_
 rw [zm,trim_len]
theorem lo_x0 (a:Int):loI F (ibit .xor .i64 a 0)=loI F a:=by
 rw [lo_xor,loI_eq]
 congr 1
 have:el F 0=Fd.zr:=El.ext (by show lw F.m 0=0;unfold lw;simp)
 rw [this,Fd.add0]
theorem trI_val {P:List Int} {i:Nat} (h:i<P.length):(trI F P (i+1)).getD i 0=loI F (P.getD i 0):=by
 unfold trI
 simp only [zy,zh,wq h,yk,xy,if_pos (wl i)]
variable (F)
def Tr4 (P:List Int):Inv' C0:=⟨4,Nat,fun i=>[(14,.int .i64 (i:Int)),(6,.int .i64 (trN F P i:Int))],fun i m=>match m with
 | [r,f,p,x]=>[r,f,p,⟨x.block,x.base,1,true,none,.rows 3 (trI F P i)⟩]
 | m=>m,fun i=>i≤P.length,fun i=>P.length - i⟩
theorem trim_ok (bR qR bF qF:Nat) (o:Bool) (b q:Nat) (l:List Int) (i n c:Nat) (h:i+n≤l.length) (hn:n<1000000000) (ho:o=false→n=0∧c=0) (P:List Int) (hL:P.length=n) (pv:∀ j,j<n→l.getD (j+i) 0=P.getD j 0):
 Does (C:=C0) Tryz.prog (.fn 116) [⟨bR,qR,1,false,none,.one [.ptr 1 0 0]⟩,⟨bF,qF,4,false,none,.one [.junk,.int .i64 (szF F:Int)]⟩,⟨b,q,1,false,some o,.rows 3 l⟩] [.ptr 0 0 0,.sl 2 i n c]
  [⟨Os,fun y=>Ow (trL F P) y,fun y=>.sl 3 0 (trL F P).length y.2.2.2,fun y=>[⟨bR,qR,1,false,none,.one [.ptr 1 0 0]⟩,⟨bF,qF,4,false,none,.one [.junk,.int .i64 (szF F:Int)]⟩,⟨b,q,1,false,some o,.rows 3 l⟩,osC true y]⟩]:=by
 have hby:(Tryz.prog.types[3].bytes:Int)=8:=by kernel_rfl
 have lI:=fun j=>trI_len (F:=F) (P:=P) (i:=j)
 have lN:=fun j=>trN_le (F:=F) (P:=P) (i:=j)
 refine loc_fn (P:=Tryz.prog) (E:=⟨[],[pcAdd F],40,[],[],[],none⟩) (L:=[Tr4 F P]) mix Tryz.func116 rfl (by kernel_rfl) (by kernel_rfl) rfl rfl ?_
 ((conv=>arg 1;reduce);with_reducible repeat' first | exact ty | refine ta ?_ ?_ | refine ti fun _ => ?_ | refine tf fun _ => ?_ | refine tl ?_)
 all_goals try exact vlf
 · exact ⟨by omega,by omega,by rw [hby];omega,by omega⟩
 · rename_i x
   refine Stands.one (0:Nat) ⟨ze _,?_⟩
   ((conv=>arg 1;reduce);with_reducible repeat' first | exact ty | refine ta ?_ ?_ | refine ti fun _ => ?_ | refine tf fun _ => ?_ | refine tl ?_)
   all_goals first | exact vlf | (show (0:Int)=(trN F P 0:Int);unfold trN;rfl) | (rw [← trI_zero,hL];rfl)
 all_goals try (
  rename_i x j hj d
  change Nat at j
  have hj:j≤P.length:=hj
  have d:(j:Int)<(n:Int):=ng d
  first
  | exact on_of ho (by omega)
  | exact d
  | (show (j:Int).toNat+i<l.length;omega)
  | (show (j:Int)<((n:Int).toNat:Int);omega)
  | (rw [lI];show (j:Int).toNat+0<P.length;omega)
  | (rw [zg,lI];show (j:Int).toNat+0<P.length;omega))
 all_goals try (
  rename_i x j hj d t
  change Nat at j
  have hj:j≤P.length:=hj
  have d:(j:Int)<(n:Int):=ng d
  have e:(trI F P j).set j (loI F (ibit .xor .i64 (l.getD (j+i) 0) 0))=trI F P (j+1):=by rw [pv j (by omega),lo_x0];exact trI_set (by omega)
  first
  | exact inR64 (n:=(j:Int)+1) (by omega) (by omega)
  | (have t:decide (((trI F P j).set j (loI F (ibit .xor .i64 (l.getD (j+i) 0) 0))).getD j 0≠0)=true:=t
     rw [e,trI_val (by omega)] at t
     have hN:=trN_yes (F:=F) (P:=P) (i:=j) (by omega) (ng t)
     refine Stands.one (j+1:Nat) ⟨by show j+1≤P.length;omega,by show P.length - (j+1)<P.length - j;omega,?_⟩
     ((conv=>arg 1;reduce);with_reducible repeat' first | exact ty | refine ta ?_ ?_ | refine ti fun _ => ?_ | refine tf fun _ => ?_ | refine tl ?_)
     all_goals first | exact vlf | exact e.symm | (show ((j:Int)+1)=(trN F P (j+1):Int);rw [hN];rfl))
  | (have t:decide (((trI F P j).set j (loI F (ibit .xor .i64 (l.getD (j+i) 0) 0))).getD j 0≠0)=false:=t
     rw [e,trI_val (by omega)] at t
     have hN:=trN_no (F:=F) (P:=P) (i:=j) (by omega) (Classical.not_not.1 (nf t))
     refine Stands.one (j+1:Nat) ⟨by show j+1≤P.length;omega,by show P.length - (j+1)<P.length - j;omega,?_⟩
     ((conv=>arg 1;reduce);with_reducible repeat' first | exact ty | refine ta ?_ ?_ | refine ti fun _ => ?_ | refine tf fun _ => ?_ | refine tl ?_)
     all_goals first | exact vlf | exact e.symm | (show (trN F P j:Int)=(trN F P (j+1):Int);rw [hN])))
 · rename_i x j hj d
   change Nat at j
   have hj:j≤P.length:=hj
   have:=lN j
   show (trN F P j:Int)≤((n:Int).toNat:Int)
   omega
 · rename_i x j hj d
   change Nat at j
   have hj:j≤P.length:=hj
   have h1:=lN j
   rw [lI,show Tryz.prog.types[3].bytes=8 by kernel_rfl]
   show 0+trN F P j≤P.length∧trN F P j*8≤140737488355328
   omega
 · rename_i x j hj d bb sp hsp
   change Nat at j
   change List Int at sp
   have hj:j≤P.length:=hj
   have d:¬ (j:Int)<(n:Int):=nf d
   obtain rfl:j=P.length:=by omega
   have hsp:trN F P P.length=0→sp.length=0:=hsp
   have hl:(trL F P).length=trN F P P.length:=trL_len
   have e:((trI F P P.length).take (trN F P P.length) ++ sp).take (trL F P).length=trL F P:=by
    rw [hl,trL_eq,← hl,List.take_left']
    rfl
   refine Ends.one (xz 0 (trN F P P.length),bb,(trI F P P.length).take (trN F P P.length) ++ sp,(trN F P P.length)+sp.length) ⟨e,by show _≤trN F P P.length+sp.length;omega,?_,?_⟩ ?_
   · show trN F P P.length+sp.length≤((trI F P P.length).take (trN F P P.length) ++ sp).length
     rw [trL_eq,zu,hl];exact zx _
   · intro h0
     have:¬ 0<trN F P P.length:=fun h=>by
      have h0:xz 0 (trN F P P.length)=false:=h0
      rw [show xz 0 (trN F P P.length)=true by rw [uk];exact h] at h0
      cases h0
     have h2:=hsp (by omega)
     exact ⟨by omega,by show trN F P P.length+sp.length=0;omega⟩
   ((conv=>arg 1;reduce);with_reducible repeat' first | exact ty | refine ta ?_ ?_ | refine ti fun _ => ?_ | refine tf fun _ => ?_ | refine tl ?_)
   all_goals first | exact vlf | exact hl | exact hl.symm
abbrev onOf:Option Bool→Bool
 | none=>true
 | some b=>b
abbrev Rs:=Nat×Nat×Nat×Nat×Bool×Nat×Nat×List Int×Nat×Nat×Nat
abbrev Rs.pre:Rs→Prop:=fun (bR,qR,bF,qF,o,b,q,l,i,n,c)=>i+n≤l.length∧n<1000000000∧(o=false→n=0∧c=0)
def fcTrim:Fc Tryz.prog C0 where
 tg:=.fn 116
 X:=Rs
 args:=fun (bR,qR,bF,qF,o,b,q,l,i,n,c)=>[.ptr 0 0 0,.sl 2 i n c]
 mem:=fun (bR,qR,bF,qF,o,b,q,l,i,n,c)=>[⟨bR,qR,1,false,none,.one [.ptr 1 0 0]⟩,⟨bF,qF,4,false,none,.one [.junk,.int .i64 (szF F:Int)]⟩,⟨b,q,1,false,some o,.rows 3 l⟩]
 pre:=Rs.pre
 alts:=fun (bR,qR,bF,qF,o,b,q,l,i,n,c)=>[⟨Os,fun y=>Ow (trL F ((l.drop i).take n)) y,fun y=>.sl 3 0 (trL F ((l.drop i).take n)).length y.2.2.2,fun y=>[⟨bR,qR,1,false,none,.one [.ptr 1 0 0]⟩,⟨bF,qF,4,false,none,.one [.junk,.int .i64 (szF F:Int)]⟩,⟨b,q,1,false,some o,.rows 3 l⟩,osC true y]⟩]
 mat vs m:=match vs with
  | [.ptr r _ _,.sl s i n c]=>match nth m r with
    | ⟨bR,qR,_,_,_,.one (.ptr f _ _ :: _)⟩=>match nth m f,nth m s with
      | ⟨bF,qF,_,_,_,_⟩,⟨b,q,_,_,g,.rows 3 l⟩=>some ((bR,qR,bF,qF,onOf g,b,q,l,i,n,c),[r,f,s])
      | _,_=>none
    | _=>none
  | [.ptr r _ _,.nils]=>match nth m r with
    | ⟨bR,qR,_,_,_,.one (.ptr f _ _ :: _)⟩=>match nth m f with
      | ⟨bF,qF,_,_,_,_⟩=>some ((bR,qR,bF,qF,false,0,0,[],0,0,0),[r,f,m.length])
    | _=>none
  | _=>none
 ok:=fun (bR,qR,bF,qF,o,b,q,l,i,n,c) h=>trim_ok F bR qR bF qF o b q l i n c h.1 h.2.1 h.2.2 _ (row_len h.1) row_at
@[irreducible] def scI (P:List Int) (a:Int) (i:Nat):List Int:=(xj P.length).map fun j=>if j<i then muI F (P.getD j 0) a else 0
@[irreducible] def scL (P:List Int) (a:Int):List Int:=vis (trim (mulS (els F P) (el F a)))
variable {F}
theorem scI_len {P:List Int} {a:Int} {i:Nat}:(scI F P a i).length=P.length:=by unfold scI;simp
theorem scI_zero {P:List Int} {a:Int}:zw P.length (0:Int)=scI F P a 0:=by
 unfold scI
 refine wn (by simp) fun j _ _=>by simp
theorem scI_set {P:List Int} {a:Int} {i:Nat} (h:i<P.length):(scI F P a i).set i (muI F (P.getD i 0) a)=scI F P a (i+1):=by
 unfold scI
 rw [set_map h]
 refine xh fun j _ => ?_
 by_cases hj:j=i
 · subst hj;rw [if_pos rfl,if_pos (by omega)]
 · rw [if_neg hj]
   by_cases h2:j<i
   · rw [if_pos h2,if_pos (by omega)]
   · rw [if_neg h2,if_neg (by omega)]
theorem scL_eq {P:List Int} {a:Int}:trL F (scI F P a P.length)=scL F P a:=by
 unfold trL scL
 congr 2
 unfold scI mulS
 refine wn (by simp) fun j h1 h2 => ?_
 simp only [zm,sf] at h1
 simp only [th,sj,if_pos h1,muI_eq,el_vi,zy,zt h1,xy]
variable (F)
def Sc3 (P:List Int) (a:Int):Inv' C0:=⟨3,Nat,fun i=>[(15,.int .i64 (i:Int))],fun i m=>match m with
 | [r,f,e,g,p,x]=>[r,f,e,g,p,⟨x.block,x.base,1,true,none,.rows 3 (scI F P a i)⟩]
 | m=>m,fun i=>i≤P.length,fun i=>P.length - i⟩
theorem scale_ok (bR qR bF qF be qe bl ql:Nat) (o:Bool) (b q:Nat) (l:List Int) (i n c:Nat) (a:Int) (h:i+n≤l.length) (hn:n<1000000000) (ho:o=false→n=0∧c=0) (P:List Int) (hL:P.length=n) (pv:∀ j,j<n→l.getD (j+i) 0=P.getD j 0):
 Does (C:=C0) Tryz.prog (.fn 89) [⟨bR,qR,1,false,none,.one [.ptr 1 0 0]⟩,⟨bF,qF,4,false,none,.one [.int .i64 (F.m:Int),.int .i64 (szF F:Int),.sl 2 0 (nF F) (nF F),.sl 3 0 (szF F) (szF F)]⟩,xCk F be qe,lCk F bl ql,⟨b,q,1,false,some o,.rows 3 l⟩] [.ptr 0 0 0,.sl 4 i n c,.int .i64 a]
  [⟨Os,fun y=>Ow (scL F P a) y,fun y=>.sl 5 0 (scL F P a).length y.2.2.2,fun y=>[⟨bR,qR,1,false,none,.one [.ptr 1 0 0]⟩,⟨bF,qF,4,false,none,.one [.int .i64 (F.m:Int),.int .i64 (szF F:Int),.sl 2 0 (nF F) (nF F),.sl 3 0 (szF F) (szF F)]⟩,xCk F be qe,lCk F bl ql,⟨b,q,1,false,some o,.rows 3 l⟩,osC true y]⟩]:=by
 have hby:(Tryz.prog.types[3].bytes:Int)=8:=by kernel_rfl
 have lI:=fun j=>scI_len (F:=F) (P:=P) (a:=a) (i:=j)
 refine loc_fn (P:=Tryz.prog) (E:=⟨[fcTrim F],[pcMul F],34,[],[],[],none⟩) (L:=[Sc3 F P a]) mix Tryz.func89 rfl (by kernel_rfl) (by kernel_rfl) rfl rfl ?_
 ((conv=>arg 1;reduce);with_reducible repeat' first | exact ty | refine ta ?_ ?_ | refine ti fun _ => ?_ | refine tf fun _ => ?_ | refine tl ?_)
 all_goals try exact vlf
 · exact ⟨by omega,by omega,by rw [hby];omega,by omega⟩
 · rename_i x
   refine Stands.one (0:Nat) ⟨ze _,?_⟩
   ((conv=>arg 1;reduce);with_reducible repeat' first | exact ty | refine ta ?_ ?_ | refine ti fun _ => ?_ | refine tf fun _ => ?_ | refine tl ?_)
   all_goals first | exact vlf | (rw [← scI_zero,hL];rfl)
 all_goals try (
  rename_i x j hj d
  change Nat at j
  have hj:j≤P.length:=hj
  have d:(j:Int)<(n:Int):=ng d
  first
  | exact on_of ho (by omega)
  | exact d
  | exact inR64 (n:=(j:Int)+1) (by omega) (by omega)
  | (show (j:Int).toNat+i<l.length;omega)
  | (show (j:Int)<((n:Int).toNat:Int);omega)
  | (rw [lI];show (j:Int).toNat+0<P.length;omega)
  | (refine Stands.one (j+1:Nat) ⟨by show j+1≤P.length;omega,by show P.length - (j+1)<P.length - j;omega,?_⟩
     ((conv=>arg 1;reduce);with_reducible repeat' first | exact ty | refine ta ?_ ?_ | refine ti fun _ => ?_ | refine tf fun _ => ?_ | refine tl ?_)
     all_goals first | exact vlf | (show scI F P a (j+1)=(scI F P a j).set j (muI F (l.getD (j+i) 0) a);rw [pv j (by omega)];exact (scI_set (by omega)).symm)))
 · rename_i x j hj d
   change Nat at j
   refine ⟨?_,by show (n:Int).toNat<1000000000;omega,fun h=>nomatch h⟩
   show 0+(n:Int).toNat≤(scI F P a j).length
   rw [lI];omega
 · rename_i x j hj d y hy
   change Nat at j
   have hj:j≤P.length:=hj
   have d:¬ (j:Int)<(n:Int):=nf d
   obtain rfl:j=P.length:=by omega
   have e:((scI F P a P.length).drop 0).take (n:Int).toNat=scI F P a P.length:=by
    rw [zq,za (by rw [lI];omega)]
   have hy:Ow (trL F (((scI F P a P.length).drop 0).take (n:Int).toNat)) y:=hy
   rw [e,scL_eq] at hy
   refine Ends.one y hy ?_
   ((conv=>arg 1;reduce);with_reducible repeat' first | exact ty | refine ta ?_ ?_ | refine ti fun _ => ?_ | refine tf fun _ => ?_ | refine tl ?_)
   all_goals first | exact vlf | (show (trL F (((scI F P a P.length).drop 0).take (n:Int).toNat)).length=_;rw [e,scL_eq]) | (show _=(trL F (((scI F P a P.length).drop 0).take (n:Int).toNat)).length;rw [e,scL_eq])
abbrev Rf':=Nat×Nat×Nat×Nat×Nat×Nat×Nat×Nat×Bool×Nat×Nat×List Int×Nat×Nat×Nat
abbrev ringC (F:Gf) (bR qR bF qF be qe bl ql:Nat):List (Ck C0):=[⟨bR,qR,1,false,none,.one [.ptr 1 0 0]⟩,⟨bF,qF,4,false,none,.one [.int .i64 (F.m:Int),.int .i64 (szF F:Int),.sl 2 0 (nF F) (nF F),.sl 3 0 (szF F) (szF F)]⟩,xCk F be qe,lCk F bl ql]
def fcScale:Fc Tryz.prog C0 where
 tg:=.fn 89
 X:=Rf'×Int
 args:=fun ((bR,qR,bF,qF,be,qe,bl,ql,o,b,q,l,i,n,c),a)=>[.ptr 0 0 0,.sl 4 i n c,.int .i64 a]
 mem:=fun ((bR,qR,bF,qF,be,qe,bl,ql,o,b,q,l,i,n,c),a)=>ringC F bR qR bF qF be qe bl ql ++ [⟨b,q,1,false,some o,.rows 3 l⟩]
 pre:=fun ((bR,qR,bF,qF,be,qe,bl,ql,o,b,q,l,i,n,c),a)=>i+n≤l.length∧n<1000000000∧(o=false→n=0∧c=0)
 alts:=fun ((bR,qR,bF,qF,be,qe,bl,ql,o,b,q,l,i,n,c),a)=>[⟨Os,fun y=>Ow (scL F ((l.drop i).take n) a) y,fun y=>.sl 5 0 (scL F ((l.drop i).take n) a).length y.2.2.2,fun y=>ringC F bR qR bF qF be qe bl ql ++ [⟨b,q,1,false,some o,.rows 3 l⟩,osC true y]⟩]
 mat vs m:=match vs with
  | [.ptr r _ _,.sl s i n c,.int _ a]=>match nth m r with
    | ⟨bR,qR,_,_,_,.one (.ptr f _ _ :: _)⟩=>match nth m f with
      | ⟨bF,qF,_,_,_,.one (_ :: _ :: .sl e _ _ _ :: .sl g _ _ _ :: _)⟩=>match nth m e,nth m g,nth m s with
        | ⟨be,qe,_,_,_,_⟩,⟨bl,ql,_,_,_,_⟩,⟨b,q,_,_,z,.rows 3 l⟩=>some (((bR,qR,bF,qF,be,qe,bl,ql,onOf z,b,q,l,i,n,c),a),[r,f,e,g,s])
        | _,_,_=>none
      | _=>none
    | _=>none
  | _=>none
 ok:=fun ((bR,qR,bF,qF,be,qe,bl,ql,o,b,q,l,i,n,c),a) h=>scale_ok F bR qR bF qF be qe bl ql o b q l i n c a h.1 h.2.1 h.2.2 _ (row_len h.1) row_at
end
end
end Go.Vx
namespace Go.Vx
open Go Go.Proofs
noncomputable section
variable [Gl]
@[irreducible] def adI (A B:List Int) (i:Nat):List Int:=(xj A.length).map fun j=>if j<i then ibit .xor .i64 (A.getD j 0) (B.getD j 0) else A.getD j 0
@[irreducible] def adL (F:Gf) (A B:List Int):List Int:=vis (trim (addP (els F A) (els F B)))
section
variable {F:Gf} {A B:List Int}
theorem adI_len {i:Nat}:(adI A B i).length=A.length:=by unfold adI;simp
theorem adI_zero:adI A B 0=A:=by
 unfold adI
 refine wn (by simp) fun j h1 h2 => ?_
 simp [zy,zt h2]
theorem adI_at {i:Nat} (h:i<A.length):(adI A B i).getD i 0=A.getD i 0:=by
 unfold adI
 simp only [zy,zh,wq h,yk,xy,if_neg (ua i)]
theorem adI_set {i:Nat} {sp:List Int} (h:i<A.length):(adI A B i ++ sp).set i (ibit .xor .i64 ((adI A B i ++ sp).getD i 0) (B.getD i 0))=adI A B (i+1) ++ sp:=by
 have e:(adI A B i ++ sp).getD i 0=A.getD i 0:=by
  rw [← adI_at (B:=B) h]
  simp only [zy,zf (show i<(adI A B i).length by rw [adI_len];exact h)]
 rw [e,List.set_append_left _ _ (by rw [adI_len];exact h)]
 congr 1
 unfold adI
 rw [set_map h]
 refine xh fun j _ => ?_
 by_cases hj:j=i
 · subst hj;rw [if_pos rfl,if_pos (by omega)]
 · rw [if_neg hj]
   by_cases h2:j<i
   · rw [if_pos h2,if_pos (by omega)]
   · rw [if_neg h2,if_neg (by omega)]
theorem els_cf (P:List Int) (i:Nat):cf (els F P) i=if i<P.length then el F (P.getD i 0) else Fd.zr:=by
 unfold cf els
 simp only [zy,zh]
 by_cases h:i<P.length
 · rw [if_pos h,zt h];rfl
 · rw [if_neg h,yr (by omega)];rfl
theorem adL_eq (h:B.length≤A.length):trL F (adI A B B.length)=adL F A B:=by
 unfold trL adL
 congr 1
 refine trim_ext fun i => ?_
 rw [addP_cf,els_cf,els_cf,els_cf,adI_len]
 by_cases h1:i<A.length
 · rw [if_pos h1,if_pos h1]
   have e:(adI A B B.length).getD i 0=if i<B.length then ibit .xor .i64 (A.getD i 0) (B.getD i 0) else A.getD i 0:=by
    unfold adI
    simp only [zy,zh,wq h1,yk,xy]
   rw [e]
   by_cases h2:i<B.length
   · rw [if_pos h2,if_pos h2,el_xor (by have:=F.m14;omega)]
   · rw [if_neg h2,if_neg h2,Fd.add0]
 · rw [if_neg h1,if_neg h1,if_neg (by omega),Fd.add0]
theorem adL_comm:adL F A B=adL F B A:=by
 unfold adL
 congr 1
 refine trim_ext fun i => ?_
 rw [addP_cf,addP_cf,Fd.addC]
end
section
variable (F:Gf)
def Ad5 (t:Bool) (A B:List Int):Inv' C0:=⟨5,Nat×List Int,fun x=>[(21,.int .i64 (x.1:Int))],fun x m=>match m with
 | [r,f,p,q,y]=>[r,f,p,q,⟨y.block,y.base,1,true,y.gl,.rows 3 (adI A B x.1 ++ x.2)⟩]
 | m=>m,fun x=>B.length+t.toNat≤A.length∧x.1≤B.length∧(A.length=0→x.2.length=0),fun x=>B.length - x.1⟩
theorem blt_on {n:Nat} (h:0<n):xz 0 n=true:=by rw [uk];exact h
theorem blt_off {n:Nat} (h:xz 0 n=false):n=0:=by
 refine Nat.eq_zero_of_not_pos fun h2 => ?_
 rw [blt_on h2] at h;cases h
set_option maxHeartbeats 4000000 in
theorem padd_ok (bR qR bF qF:Nat) (o:Bool) (b q:Nat) (l:List Int) (i n c:Nat) (h:i+n≤l.length) (hn:n<1000000000) (ho:o=false→n=0∧c=0) (P:List Int) (hL:P.length=n) (hP:(l.drop i).take n=P)
 (o':Bool) (b' q':Nat) (l':List Int) (i' n' c':Nat) (h':i'+n'≤l'.length) (hn':n'<1000000000) (ho':o'=false→n'=0∧c'=0) (Q:List Int) (hL':Q.length=n') (hQ:(l'.drop i').take n'=Q):
 Does (C:=C0) Tryz.prog (.fn 88) [⟨bR,qR,1,false,none,.one [.ptr 1 0 0]⟩,⟨bF,qF,4,false,none,.one [.junk,.int .i64 (szF F:Int)]⟩,⟨b,q,1,false,some o,.rows 3 l⟩,⟨b',q',1,false,some o',.rows 3 l'⟩] [.ptr 0 0 0,.sl 2 i n c,.sl 3 i' n' c']
  [⟨Os,fun y=>Ow (adL F P Q) y,fun y=>.sl 4 0 (adL F P Q).length y.2.2.2,fun y=>[⟨bR,qR,1,false,none,.one [.ptr 1 0 0]⟩,⟨bF,qF,4,false,none,.one [.junk,.int .i64 (szF F:Int)]⟩,⟨b,q,1,false,some o,.rows 3 l⟩,⟨b',q',1,false,some o',.rows 3 l'⟩,osC true y]⟩]:=by
 have hby:Tryz.prog.types[3].bytes=8:=by kernel_rfl
 have lI:=fun A B j=>adI_len (A:=A) (B:=B) (i:=j)
 have pv:∀ j,j<n→l.getD (j+i) 0=P.getD j 0:=by rw [← hP];exact row_at
 have pv':∀ j,j<n'→l'.getD (j+i') 0=Q.getD j 0:=by rw [← hQ];exact row_at
 refine loc_fn (P:=Tryz.prog) (E:=⟨[fcTrim F],[],37,[],[],[],none⟩) (L:=[Ad5 false P Q,Ad5 true Q P]) mix Tryz.func88 rfl (by kernel_rfl) (by kernel_rfl) rfl rfl ?_
 ((conv=>arg 1;reduce);with_reducible repeat' first | exact ty | refine ta ?_ ?_ | refine ti fun _ => ?_ | refine tf fun _ => ?_ | refine tl ?_)
 all_goals try exact vlf
 all_goals try (exfalso;have k:=(‹(Ad5 false P Q).inv _›).1;have d:=ng ‹decide ((n:Int)<(n':Int))=true›;change Q.length+0≤P.length at k;omega)
 all_goals try (exfalso;have k:=(‹(Ad5 true Q P).inv _›).1;have d:=nf ‹decide ((n:Int)<(n':Int))=false›;change P.length+1≤Q.length at k;omega)
 all_goals try (first | exact ⟨by omega,by rw [hby];omega⟩ | exact fun h0=>⟨(ho h0).1,(ho h0).1⟩ | exact fun h0=>⟨(ho' h0).1,(ho' h0).1⟩)
 all_goals try (
  rename_i d bb sp hs
  change List Int at sp
  first
  | (have d:(n:Int)<(n':Int):=ng d
     refine Stands.next (Stands.one (0,sp) ⟨⟨by show P.length+1≤Q.length;omega,ze _,fun h0=>hs (by omega)⟩,?_⟩)
     ((conv=>arg 1;reduce);with_reducible repeat' first | exact ty | refine ta ?_ ?_ | refine ti fun _ => ?_ | refine tf fun _ => ?_ | refine tl ?_)
     all_goals first | exact vlf | (show adI Q P 0 ++ sp=(l'.drop i').take n' ++ sp;rw [adI_zero,hQ]))
  | (have d:¬ (n:Int)<(n':Int):=nf d
     refine Stands.one (0,sp) ⟨⟨by show Q.length+0≤P.length;omega,ze _,fun h0=>hs (by omega)⟩,?_⟩
     ((conv=>arg 1;reduce);with_reducible repeat' first | exact ty | refine ta ?_ ?_ | refine ti fun _ => ?_ | refine tf fun _ => ?_ | refine tl ?_)
     all_goals first | exact vlf | (show adI P Q 0 ++ sp=(l.drop i).take n ++ sp;rw [adI_zero,hP])))
 all_goals try (
  rename_i d bb sp hs x hx e
  obtain ⟨j,sq⟩:=x
  obtain ⟨k1,k2,k3⟩:P.length+1≤Q.length∧j≤P.length∧(Q.length=0→sq.length=0):=hx
  have e:(j:Int)<(n:Int):=ng e
  first
  | exact on_of ho (by omega)
  | exact e
  | exact blt_on (by omega)
  | exact inR64 (n:=(j:Int)+1) (by omega) (by omega)
  | (show (j:Int).toNat+i<l.length;omega)
  | (show (j:Int)<(n':Int);omega)
  | (rw [zu,lI];show (j:Int).toNat+0<Q.length+sq.length;omega)
  | (refine Stands.next (Stands.one (j+1,sq) ⟨⟨k1,by show j+1≤P.length;omega,k3⟩,by show P.length - (j+1)<P.length - j;omega,?_⟩)
     ((conv=>arg 1;reduce);with_reducible repeat' first | exact ty | refine ta ?_ ?_ | refine ti fun _ => ?_ | refine tf fun _ => ?_ | refine tl ?_)
     all_goals first | exact vlf | (show adI Q P (j+1) ++ sq=(adI Q P j ++ sq).set j (ibit .xor .i64 ((adI Q P j ++ sq).getD j 0) (l.getD (j+i) 0));rw [pv j (by omega)];exact (adI_set (by omega)).symm)))
 all_goals try (
  rename_i d bb sp hs x hx e
  obtain ⟨j,sq⟩:=x
  change List Int at sp
  obtain ⟨k1,k2,k3⟩:P.length+1≤Q.length∧j≤P.length∧(Q.length=0→sq.length=0):=hx
  have e:¬ (j:Int)<(n:Int):=nf e
  refine ⟨?_,by show n'<1000000000;omega,fun h0 => ?_⟩
  · show 0+n'≤(adI Q P j ++ sq).length
    rw [zu,lI];omega
  · have h1:=blt_off (n:=n') h0
    exact ⟨h1,by show n'+sp.length=0;rw [hs h1,h1]⟩)
 all_goals try (
  rename_i d bb sp hs x hx e y hy
  obtain ⟨j,sq⟩:=x
  change List Int at sp
  obtain ⟨k1,k2,k3⟩:P.length+1≤Q.length∧j≤P.length∧(Q.length=0→sq.length=0):=hx
  have e:¬ (j:Int)<(n:Int):=nf e
  obtain rfl:j=P.length:=by omega
  have e2:trL F (((adI Q P P.length ++ sq).drop 0).take n')=adL F P Q:=by
   rw [zq,um (by rw [lI];omega),za (by rw [lI];omega),adL_eq (by omega),adL_comm]
  have hy:Ow (trL F (((adI Q P P.length ++ sq).drop 0).take n')) y:=hy
  rw [e2] at hy
  refine Ends.one y hy ?_
  ((conv=>arg 1;reduce);with_reducible repeat' first | exact ty | refine ta ?_ ?_ | refine ti fun _ => ?_ | refine tf fun _ => ?_ | refine tl ?_)
  all_goals first | exact vlf | exact congrArg wh e2 | exact (congrArg wh e2).symm)
 all_goals try (
  rename_i d bb sp hs x hx e
  obtain ⟨j,sq⟩:=x
  obtain ⟨k1,k2,k3⟩:Q.length+0≤P.length∧j≤Q.length∧(P.length=0→sq.length=0):=hx
  have e:(j:Int)<(n':Int):=ng e
  first
  | exact on_of ho' (by omega)
  | exact e
  | exact blt_on (by omega)
  | exact inR64 (n:=(j:Int)+1) (by omega) (by omega)
  | (show (j:Int).toNat+i'<l'.length;omega)
  | (show (j:Int)<(n:Int);omega)
  | (rw [zu,lI];show (j:Int).toNat+0<P.length+sq.length;omega)
  | (refine Stands.one (j+1,sq) ⟨⟨k1,by show j+1≤Q.length;omega,k3⟩,by show Q.length - (j+1)<Q.length - j;omega,?_⟩
     ((conv=>arg 1;reduce);with_reducible repeat' first | exact ty | refine ta ?_ ?_ | refine ti fun _ => ?_ | refine tf fun _ => ?_ | refine tl ?_)
     all_goals first | exact vlf | (show adI P Q (j+1) ++ sq=(adI P Q j ++ sq).set j (ibit .xor .i64 ((adI P Q j ++ sq).getD j 0) (l'.getD (j+i') 0));rw [pv' j (by omega)];exact (adI_set (by omega)).symm)))
 all_goals try (
  rename_i d bb sp hs x hx e
  obtain ⟨j,sq⟩:=x
  change List Int at sp
  obtain ⟨k1,k2,k3⟩:Q.length+0≤P.length∧j≤Q.length∧(P.length=0→sq.length=0):=hx
  have e:¬ (j:Int)<(n':Int):=nf e
  refine ⟨?_,by show n<1000000000;omega,fun h0 => ?_⟩
  · show 0+n≤(adI P Q j ++ sq).length
    rw [zu,lI];omega
  · have h1:=blt_off (n:=n) h0
    exact ⟨h1,by show n+sp.length=0;rw [hs h1,h1]⟩)
 all_goals try (
  rename_i d bb sp hs x hx e y hy
  obtain ⟨j,sq⟩:=x
  change List Int at sp
  obtain ⟨k1,k2,k3⟩:Q.length+0≤P.length∧j≤Q.length∧(P.length=0→sq.length=0):=hx
  have e:¬ (j:Int)<(n':Int):=nf e
  obtain rfl:j=Q.length:=by omega
  have e2:trL F (((adI P Q Q.length ++ sq).drop 0).take n)=adL F P Q:=by
   rw [zq,um (by rw [lI];omega),za (by rw [lI];omega),adL_eq (by omega)]
  have hy:Ow (trL F (((adI P Q Q.length ++ sq).drop 0).take n)) y:=hy
  rw [e2] at hy
  refine Ends.one y hy ?_
  ((conv=>arg 1;reduce);with_reducible repeat' first | exact ty | refine ta ?_ ?_ | refine ti fun _ => ?_ | refine tf fun _ => ?_ | refine tl ?_)
  all_goals first | exact vlf | exact congrArg wh e2 | exact (congrArg wh e2).symm)
abbrev Sl3:=Bool×Nat×Nat×List Int×Nat×Nat×Nat
abbrev Sl3.pre:Sl3→Prop:=fun (o,b,q,l,i,n,c)=>i+n≤l.length∧n<1000000000∧(o=false→n=0∧c=0)
def fcPAdd:Fc Tryz.prog C0 where
 tg:=.fn 88
 X:=(Nat×Nat×Nat×Nat)×Sl3×Sl3
 args:=fun (_,(o,b,q,l,i,n,c),(o',b',q',l',i',n',c'))=>[.ptr 0 0 0,.sl 2 i n c,.sl 3 i' n' c']
 mem:=fun ((bR,qR,bF,qF),(o,b,q,l,i,n,c),(o',b',q',l',i',n',c'))=>[⟨bR,qR,1,false,none,.one [.ptr 1 0 0]⟩,⟨bF,qF,4,false,none,.one [.junk,.int .i64 (szF F:Int)]⟩,⟨b,q,1,false,some o,.rows 3 l⟩,⟨b',q',1,false,some o',.rows 3 l'⟩]
 pre:=fun (_,x,y)=>Sl3.pre x∧Sl3.pre y
 alts:=fun ((bR,qR,bF,qF),(o,b,q,l,i,n,c),(o',b',q',l',i',n',c'))=>[⟨Os,fun y=>Ow (adL F ((l.drop i).take n) ((l'.drop i').take n')) y,fun y=>.sl 4 0 (adL F ((l.drop i).take n) ((l'.drop i').take n')).length y.2.2.2,fun y=>[⟨bR,qR,1,false,none,.one [.ptr 1 0 0]⟩,⟨bF,qF,4,false,none,.one [.junk,.int .i64 (szF F:Int)]⟩,⟨b,q,1,false,some o,.rows 3 l⟩,⟨b',q',1,false,some o',.rows 3 l'⟩,osC true y]⟩]
 mat vs m:=match vs with
  | [.ptr r _ _,.sl s i n c,.sl s' i' n' c']=>match nth m r with
    | ⟨bR,qR,_,_,_,.one (.ptr f _ _ :: _)⟩=>match nth m f,nth m s,nth m s' with
      | ⟨bF,qF,_,_,_,_⟩,⟨b,q,_,_,g,.rows 3 l⟩,⟨b',q',_,_,g',.rows 3 l'⟩=>some (((bR,qR,bF,qF),(onOf g,b,q,l,i,n,c),(onOf g',b',q',l',i',n',c')),[r,f,s,s'])
      | _,_,_=>none
    | _=>none
  | _=>none
 ok:=fun ((bR,qR,bF,qF),(o,b,q,l,i,n,c),(o',b',q',l',i',n',c')) h=>padd_ok F bR qR bF qF o b q l i n c h.1.1 h.1.2.1 h.1.2.2 _ (row_len h.1.1) rfl o' b' q' l' i' n' c' h.2.1 h.2.2.1 h.2.2.2 _ (row_len h.2.1) rfl
end
end
end Go.Vx
namespace Go.Vx
open Go Go.Proofs
noncomputable section
variable [Gl]
section
variable (F:Gf)
theorem at_ok (o:Bool) (b q:Nat) (l:List Int) (i n c:Nat) (h:i+n≤l.length) (hn:n<1000000000) (ho:o=false→n=0∧c=0) (z:Int) (hz:0≤z):
 Tells (C:=C0) Tryz.prog (.fn 127) [⟨b,q,1,false,some o,.rows 3 l⟩] [.sl 0 i n c,.int .i64 z] (.int .i64 (((l.drop i).take n).getD z.toNat 0)):=by
 refine loc_pc (P:=Tryz.prog) (E:=⟨[],[],17,[],[],[],none⟩) (L:=[]) mix Tryz.func127 rfl (by kernel_rfl) (by kernel_rfl) rfl rfl ?_
 ((conv=>arg 1;reduce);with_reducible repeat' first | exact ty | refine ta ?_ ?_ | refine ti fun _ => ?_ | refine tf fun _ => ?_ | refine tl ?_)
 all_goals try exact vlf
 all_goals (rename_i d;simp only [xw,xd,decide_eq_true_eq,decide_eq_false_iff_not,SB.val] at d)
 · rw [zy,yr (by rw [row_len h];omega)];rfl
 all_goals first
  | exact on_of ho (by omega)
  | (show z<(n:Int);omega)
  | (show z.toNat+i<l.length;omega)
  | exact row_at z.toNat (by omega)
def pcAt:Pc Tryz.prog C0 where
 tg:=.fn 127
 X:=Sl3×Int
 args:=fun ((o,b,q,l,i,n,c),z)=>[.sl 0 i n c,.int .i64 z]
 mem:=fun ((o,b,q,l,i,n,c),z)=>[⟨b,q,1,false,some o,.rows 3 l⟩]
 pre:=fun (s,z)=>Sl3.pre s∧0≤z
 res:=fun ((o,b,q,l,i,n,c),z)=>.int .i64 (((l.drop i).take n).getD z.toNat 0)
 mat vs m:=match vs with
  | [.sl s i n c,.int _ z]=>match nth m s with
    | ⟨b,q,_,_,g,.rows 3 l⟩=>some (((onOf g,b,q,l,i,n,c),z),[s])
    | _=>none
  | _=>none
 ok:=fun ((o,b,q,l,i,n,c),z) h=>at_ok o b q l i n c h.1.1 h.1.2.1 h.1.2.2 z h.2
@[irreducible] def smV (A B:List Int) (n i:Nat):Int:=vi (Fd.sm i fun j=>cf (els F A) j*cf (els F B) (n - j))
variable {F}
theorem vi_wrap (x:El F):IntKind.i64.wrap (x.v:Int)=(x.v:Int):=by
 have h1:=x.lt
 have h2:2 ^ F.m≤2 ^ 14:=zi (by omega) F.m14
 exact wrap_nat (zk h1 (xk h2 (by decide)))
theorem xor_vi (x y:El F):ibit .xor .i64 (vi x) (vi y)=vi (x+y):=by
 have h1:=x.lt
 have h3:=y.lt
 have h2:2 ^ F.m≤2 ^ 14:=zi (by omega) F.m14
 rw [ibit_xor]
 unfold vi
 rw [lw_nat (zk h1 (xk h2 (by decide))),lw_nat (zk h3 (xk h2 (by decide)))]
 exact vi_wrap (x+y)
theorem cf_els (A:List Int) (j:Nat):cf (els F A) j=el F (A.getD j 0):=by
 rw [els_cf]
 split
 · rfl
 · rename_i h
   rw [zy,yr (by omega)]
   exact (El.ext (by show 0=lw F.m 0;unfold lw;simp))
theorem smV_zero {A B:List Int} {n:Nat}:smV F A B n 0=0:=by unfold smV;rfl
theorem smV_succ {A B:List Int} {n i:Nat}:ibit .xor .i64 (smV F A B n i) (muI F (A.getD i 0) (B.getD (n - i) 0))=smV F A B n (i+1):=by
 unfold smV
 rw [muI_eq,← cf_els,← cf_els,xor_vi]
 rfl
variable (F)
def Sm3 (A B:List Int) (n L:Nat):Inv' C0:=⟨3,Nat,fun i=>[(14,.int .i64 (i:Int)),(13,.int .i64 (smV F A B n i))],fun i m=>m,fun i=>i≤L+1,fun i=>L+1 - i⟩
theorem sum_ok (bF qF be qe bl ql:Nat) (o:Bool) (b q:Nat) (l:List Int) (i n c:Nat) (h:i+n≤l.length) (hn:n<1000000000) (ho:o=false→n=0∧c=0) (o':Bool) (b' q':Nat) (l':List Int) (i' n' c':Nat) (h':i'+n'≤l'.length) (hn':n'<1000000000) (ho':o'=false→n'=0∧c'=0) (k L:Nat) (hk:k<n') (hL:L≤k):
 Tells (C:=C0) Tryz.prog (.fn 114) [fld F bF qF,xCk F be qe,lCk F bl ql,⟨b,q,1,false,some o,.rows 3 l⟩,⟨b',q',1,false,some o',.rows 3 l'⟩] [.sl 3 i n c,.sl 4 i' n' c',.int .i64 (k:Int),.int .i64 0,.int .i64 (L:Int),.fn (.func 113) [.ptr 0 0 0] []]
  (.int .i64 (smV F ((l.drop i).take n) ((l'.drop i').take n') k (L+1))):=by
 have pv':∀ j,j<n'→l'.getD (j+i') 0=((l'.drop i').take n').getD j 0:=row_at
 refine loc_pc (P:=Tryz.prog) (E:=⟨[],[pcMul F,pcAt],35,[],[],[],none⟩) (L:=[Sm3 F ((l.drop i).take n) ((l'.drop i').take n') k L]) mix Tryz.func114 rfl (by kernel_rfl) (by kernel_rfl) rfl rfl ?_
 ((conv=>arg 1;reduce);with_reducible repeat' first | exact ty | refine ta ?_ ?_ | refine ti fun _ => ?_ | refine tf fun _ => ?_ | refine tl ?_)
 all_goals try exact vlf
 · refine Stands.one (0:Nat) ⟨ze _,?_⟩
   ((conv=>arg 1;reduce);with_reducible repeat' first | exact ty | refine ta ?_ ?_ | refine ti fun _ => ?_ | refine tf fun _ => ?_ | refine tl ?_)
   all_goals first | exact vlf | exact smV_zero.symm
 all_goals (
  rename_i j hj d
  change Nat at j
  have hj:j≤L+1:=hj)
 all_goals try (
  have d:(j:Int)≤(L:Int):=ng d
  first
  | exact ⟨⟨h,hn,ho⟩,vy j⟩
  | exact inR64 (n:=(k:Int) - (j:Int)) (by omega) (by omega)
  | exact inR64 (n:=(j:Int)+1) (by omega) (by omega)
  | exact on_of ho' (by omega)
  | (show 0≤(k:Int) - (j:Int);omega)
  | (show (k:Int) - (j:Int)<(n':Int);omega)
  | (show ((k:Int) - (j:Int)).toNat+i'<l'.length;omega)
  | (refine Stands.one (j+1:Nat) ⟨by show j+1≤L+1;omega,by show L+1 - (j+1)<L+1 - j;omega,?_⟩
     ((conv=>arg 1;reduce);with_reducible repeat' first | exact ty | refine ta ?_ ?_ | refine ti fun _ => ?_ | refine tf fun _ => ?_ | refine tl ?_)
     all_goals first
      | exact vlf
      | (show _=smV F ((l.drop i).take n) ((l'.drop i').take n') k (j+1)
         rw [← smV_succ]
         have e:((k:Int) - (j:Int)).toNat=k - j:=by omega
         show ibit .xor .i64 _ (muI F (((l.drop i).take n).getD (j:Int).toNat 0) (l'.getD (((k:Int) - (j:Int)).toNat+i') 0))=_
         rw [e,pv' _ (by omega),zo])))
 all_goals try (
  have d:¬ (j:Int)≤(L:Int):=nf d
  obtain rfl:j=L+1:=by omega
  rfl)
 all_goals trace_state
noncomputable def pcSum:Pc Tryz.prog C0 where
 tg:=.fn 114
 X:=(Nat×Nat×Nat×Nat×Nat×Nat)×Sl3×Sl3×Int×Int
 args:=fun (_,(o,b,q,l,i,n,c),(o',b',q',l',i',n',c'),k,L)=>[.sl 3 i n c,.sl 4 i' n' c',.int .i64 k,.int .i64 0,.int .i64 L,.fn (.func 113) [.ptr 0 0 0] []]
 mem:=fun ((bF,qF,be,qe,bl,ql),(o,b,q,l,i,n,c),(o',b',q',l',i',n',c'),k,L)=>[fld F bF qF,xCk F be qe,lCk F bl ql,⟨b,q,1,false,some o,.rows 3 l⟩,⟨b',q',1,false,some o',.rows 3 l'⟩]
 pre:=fun (_,x,y,k,L)=>(Sl3.pre x∧Sl3.pre y)∧0≤L∧L≤k∧k<(y.2.2.2.2.2.1:Int)
 res:=fun (_,(o,b,q,l,i,n,c),(o',b',q',l',i',n',c'),k,L)=>.int .i64 (smV F ((l.drop i).take n) ((l'.drop i').take n') k.toNat (L.toNat+1))
 mat vs m:=match vs with
  | [.sl s i n c,.sl s' i' n' c',.int _ k,_,.int _ L,.fn _ [.ptr f _ _] _]=>match nth m f,nth m s,nth m s' with
    | ⟨bF,qF,_,_,_,.one (_ :: _ :: .sl e _ _ _ :: .sl g _ _ _ :: _)⟩,⟨b,q,_,_,o,.rows 3 l⟩,⟨b',q',_,_,o',.rows 3 l'⟩=>match nth m e,nth m g with
      | ⟨be,qe,_,_,_,_⟩,⟨bl,ql,_,_,_,_⟩=>some (((bF,qF,be,qe,bl,ql),(onOf o,b,q,l,i,n,c),(onOf o',b',q',l',i',n',c'),k,L),[f,e,g,s,s'])
    | _,_,_=>none
  | _=>none
 ok:=fun ((bF,qF,be,qe,bl,ql),(o,b,q,l,i,n,c),(o',b',q',l',i',n',c'),k,L) h=>by
  obtain ⟨k,rfl⟩:=yh (show 0≤k from Int.le_trans h.2.1 h.2.2.1)
  obtain ⟨L,rfl⟩:=yh h.2.1
  exact sum_ok F bF qF be qe bl ql o b q l i n c h.1.1.1 h.1.1.2.1 h.1.1.2.2 o' b' q' l' i' n' c' h.1.2.1 h.1.2.2.1 h.1.2.2.2 k L (Int.ofNat_lt.1 h.2.2.2) (Int.ofNat_le.1 h.2.2.1)
theorem shifted_ok (o:Bool) (b q:Nat) (l:List Int) (i n c:Nat) (h:i+n≤l.length) (hn:n<1000000000) (ho:o=false→n=0∧c=0) (k:Nat) (hk:k<1000000000) (P:List Int) (hP:(l.drop i).take n=P):
 Does (C:=C0) Tryz.prog (.fn 115) [⟨b,q,1,false,some o,.rows 3 l⟩] [.sl 0 i n c,.int .i64 (k:Int)]
  [⟨Nat×Nat×List Int×Nat,fun y=>k+n≤y.2.2.2,fun y=>.sl 1 0 (k+n) y.2.2.2,fun y=>[⟨b,q,1,false,some o,.rows 3 l⟩,⟨y.1,y.2.1,1,true,none,.rows 3 (zw k 0 ++ P ++ y.2.2.1)⟩]⟩]:=by
 have hby:(Tryz.prog.types[3].bytes:Int)=8:=by kernel_rfl
 have hby':Tryz.prog.types[3].bytes=8:=by kernel_rfl
 refine loc_fn (P:=Tryz.prog) (E:=⟨[],[],9,[],[],[],none⟩) (L:=[]) mix Tryz.func115 rfl (by kernel_rfl) (by kernel_rfl) rfl rfl ?_
 ((conv=>arg 1;reduce);with_reducible repeat' first | exact ty | refine ta ?_ ?_ | refine ti fun _ => ?_ | refine tf fun _ => ?_ | refine tl ?_)
 all_goals try exact vlf
 · exact ⟨by omega,by omega,by rw [hby];omega,by omega⟩
 · refine ⟨zx _,?_,h,?_⟩
   · rw [ye,wo];exact zx _
   · rw [hby',zo];omega
 · exact fun h0=>⟨(ho h0).1,(ho h0).1⟩
 · rename_i bb q' b' sp c' h1 h2
   change List Int at sp
   rw [zo] at h1 h2
   refine Ends.one (q',b',sp,c') h1 ?_
   ((conv=>arg 1;reduce);with_reducible repeat' first | exact ty | refine ta ?_ ?_ | refine ti fun _ => ?_ | refine tf fun _ => ?_ | refine tl ?_)
   all_goals first | exact vlf | (
    show zw k 0 ++ P ++ sp=((zw (k:Int).toNat (0:Int)).drop 0).take (k:Int).toNat ++ (l.drop i).take n ++ sp
    rw [zo,hP,zq,za (by simp)])
def fcShift:Fc Tryz.prog C0 where
 tg:=.fn 115
 X:=Sl3×Int
 args:=fun ((o,b,q,l,i,n,c),k)=>[.sl 0 i n c,.int .i64 k]
 mem:=fun ((o,b,q,l,i,n,c),k)=>[⟨b,q,1,false,some o,.rows 3 l⟩]
 pre:=fun (s,k)=>Sl3.pre s∧0≤k∧k<1000000000
 alts:=fun ((o,b,q,l,i,n,c),k)=>[⟨Nat×Nat×List Int×Nat,fun y=>k.toNat+n≤y.2.2.2,fun y=>.sl 1 0 (k.toNat+n) y.2.2.2,fun y=>[⟨b,q,1,false,some o,.rows 3 l⟩,⟨y.1,y.2.1,1,true,none,.rows 3 (zw k.toNat 0 ++ (l.drop i).take n ++ y.2.2.1)⟩]⟩]
 mat vs m:=match vs with
  | [.sl s i n c,.int _ k]=>match nth m s with
    | ⟨b,q,_,_,g,.rows 3 l⟩=>some (((onOf g,b,q,l,i,n,c),k),[s])
    | _=>none
  | _=>none
 ok:=fun ((o,b,q,l,i,n,c),k) h=>by
  obtain ⟨k,rfl⟩:=yh h.2.1
  exact shifted_ok o b q l i n c h.1.1 h.1.2.1 h.1.2.2 k (Int.ofNat_lt.1 h.2.2) _ rfl
end
end
end Go.Vx
namespace Go.Vx
open Go Go.Proofs Go.Vx.Fd
noncomputable section
section
variable {F:Gf}
theorem v_lt14 (a:El F):a.v<16384:=zk a.lt (zi (by omega) F.m14:2 ^ F.m≤2 ^ 14)
theorem mul_ex1 (a:El F):(a*ex F 1).v=mulx F.m F.p a.v:=by
 rw [mul_v,ex_v,F.mul_mx a.v 1 a.lt F.one_lt 1]
 show mulx F.m F.p (mg F.m F.p F.m a.v 1)=_
 rw [mg_one (by have:=F.m3;omega)]
theorem half_lt {b:Nat} (h:b<2 ^ F.m):b / 2<2 ^ (F.m - 1):=by
 have e:2 ^ F.m=2*2 ^ (F.m - 1):=by
  have:=F.m3
  rw [show F.m=F.m - 1+1 by omega,wc,xn];rfl
 omega
theorem el_half {b:Nat} (h:b<2 ^ F.m):el F (b:Int)=bk (b.testBit 0)+ex F 1*el F ((b / 2:Nat):Int):=by
 refine El.ext ?_
 rw [add_v,Fd.mulC,mul_ex1,el_v,el_v,lw_nat h,lw_nat (by omega)]
 have ht:(b / 2).testBit (F.m - 1)=false:=xp (half_lt h)
 unfold mulx
 rw [ht,if_neg vf]
 refine (low_xor b).symm.trans ?_
 congr 1
 cases b.testBit 0 <;> rfl
theorem shl64 {a:Nat} (h:a<2 ^ 60):ishl .i64 (a:Int) 1=((2*a:Nat):Int):=by
 have e:ishl .i64 (a:Int) 1=IntKind.i64.wrap (((2*a:Nat)):Int):=by
  unfold ishl
  rw [show (2:Int) ^ min (Int.toNat 1) IntKind.i64.bits=2 by decide]
  congr 1
  omega
 rw [e]
 exact wrap_nat (zk (show 2*a<2 ^ 61 by omega) (by decide))
theorem half64 (b:Nat):ishr .i64 (b:Int) 1=((b / 2:Nat):Int):=shr8 .i64 b 1 (by decide)
theorem odd64 {b:Nat} (h:b<2 ^ 62):ibit .and .i64 (b:Int) 1=((b % 2:Nat):Int):=by
 rw [show ibit .and .i64 (b:Int) 1=((b &&& 1:Nat):Int) from and64 (b:=1) h (by decide),Nat.and_one_is_mod]
theorem top_bit (a:El F):ibit .and .i64 (ishr .i64 (ishl .i64 (vi a) 1) (F.m:Int)) 1=(((a.v.testBit (F.m - 1)).toNat:Nat):Int):=by
 have h1:=v_lt14 a
 have h3:=F.m3
 unfold vi
 rw [shl64 (by omega),shr8 .i64 _ F.m (show F.m≤64 by have:=F.m14;omega),odd64 (vw (Nat.div_le_self _ _) (by omega))]
 congr 1
 have e:a.v.testBit (F.m - 1)=(2*a.v).testBit F.m:=by
  rw [show F.m=F.m - 1+1 by omega,wv,rh _ (by omega),Nat.add_sub_cancel]
 rw [e,xb]
 by_cases h9:2*a.v / 2 ^ F.m % 2=1
 · rw [decide_eq_true h9,h9];rfl
 · rw [decide_eq_false h9,show 2*a.v / 2 ^ F.m % 2=0 by omega];rfl
theorem p_lt15:F.p<32768:=zk F.lt (zi (by omega) (by have:=F.m14;omega):2 ^ (F.m+1)≤2 ^ 15)
theorem dbl_no {a:El F} (h:a.v.testBit (F.m - 1)=false):ishl .i64 (vi a) 1=vi (a*ex F 1):=by
 have h1:=v_lt14 a
 unfold vi
 rw [shl64 (by omega),mul_ex1]
 unfold mulx
 rw [h,if_neg vf]
theorem dbl_yes {a:El F} (h:a.v.testBit (F.m - 1)=true):ibit .xor .i64 (ishl .i64 (vi a) 1) (F.p:Int)=vi (a*ex F 1):=by
 have h1:=v_lt14 a
 have h2:=p_lt15 (F:=F)
 unfold vi
 rw [shl64 (by omega),mul_ex1,xor64 (by omega) (by omega)]
 unfold mulx
 rw [h,if_pos rfl]
theorem mul_step {x a c:El F} {b:Nat} (hb:b<2 ^ F.m) (h:x+a*el F (b:Int)=c):
 (b % 2=1→(x+a)+(a*ex F 1)*el F ((b / 2:Nat):Int)=c)∧(b % 2≠1→x+(a*ex F 1)*el F ((b / 2:Nat):Int)=c):=by
 rw [el_half hb,dist,← mulA,← addA] at h
 rw [Nat.testBit_zero] at h
 constructor
 · intro h1
   rw [decide_eq_true h1] at h
   have e:a*(bk true:El F)=a:=mul1 a
   rwa [e] at h
 · intro h1
   rw [decide_eq_false h1] at h
   have e:a*(bk false:El F)=zr:=mul0 a
   rwa [e,add0] at h
theorem pow_step {x a c:El F} {n:Nat} (h:x*pw a n=c):(n % 2=1→x*a*pw (a*a) (n / 2)=c)∧(n % 2≠1→x*pw (a*a) (n / 2)=c):=by
 have e2:pw (a*a) (n / 2)=pw a (n / 2+n / 2):=by rw [pw_mulx,pw_add]
 constructor
 · intro h1
   rw [e2,mulA,← h,show n=(n / 2+n / 2)+1 by omega]
   congr 1
   show a*pw a _=pw a _*a
   have e:(n / 2+n / 2+1) / 2=n / 2:=by omega
   rw [e,mulC]
 · intro h1
   rw [e2,← h]
   congr 2
   omega
def cvT (P Q:List (El F)) (i k s:Nat):El F:=sm i (fun a=>if s<a then zr else cf P a*cf Q (s - a))+(if i≤s∧s<i+k then cf P i*cf Q (s - i) else zr)
@[irreducible] def tmI (F:Gf) (P Q:List Int) (i k:Nat):List Int:=vis (mk (P.length+Q.length) (cvT (els F P) (els F Q) i k))
@[irreducible] def tmE (P Q:List (El F)):List (El F):=trim (mk (P.length+Q.length) (cvT P Q P.length 0))
@[irreducible] def tmL (F:Gf) (P Q:List Int):List Int:=vis (tmE (trim (els F P)) (trim (els F Q)))
theorem tmI_len {P Q:List Int} {i k:Nat}:(tmI F P Q i k).length=P.length+Q.length:=by unfold tmI;rw [zm,mk_len]
theorem tmI_zero {P Q:List Int}:tmI F P Q 0 0=zw (P.length+Q.length) 0:=by
 unfold tmI mk
 rw [vis,se]
 refine wn (by simp) fun s h1 h2 => ?_
 rw [th,List.getElem_replicate]
 show vi (cvT _ _ 0 0 _)=0
 unfold cvT
 rw [if_neg (by omega)]
 exact vi_zero.2 (add0 _)
theorem tmI_row {P Q:List Int} {i:Nat}:tmI F P Q i Q.length=tmI F P Q (i+1) 0:=by
 unfold tmI mk
 refine congrArg vis (xh fun s _ => ?_)
 show _+_=(_+_)+_
 rw [if_neg (show ¬ (i+1≤s∧s<i+1+0) by omega),add0]
 congr 1
 show _=if s<i then zr else _
 by_cases h:s<i
 · rw [if_neg (by omega),if_pos h]
 · rw [if_neg h]
   by_cases h2:s<i+Q.length
   · rw [if_pos ⟨by omega,h2⟩]
   · rw [if_neg (by omega),cf_of (show (els F Q).length≤s - i by rw [zm];omega),mul0]
theorem tmI_at {P Q:List Int} {i k:Nat} (hi:i<P.length) (hk:k<Q.length):(tmI F P Q i k).getD (i+k) 0=vi (cvT (els F P) (els F Q) i k (i+k)):=by
 unfold tmI
 rw [vis_getD,mk_cf,if_pos (by omega)]
theorem tmI_step {P Q:List Int} {i k:Nat} (hi:i<P.length) (hk:k<Q.length):(tmI F P Q i k).set (i+k) (vi (cvT (els F P) (els F Q) i k (i+k)+cf (els F P) i*cf (els F Q) k))=tmI F P Q i (k+1):=by
 refine wn (by rw [zg,tmI_len,tmI_len]) fun s h1 h2 => ?_
 rw [zg,tmI_len] at h1
 have e:∀ a b,(tmI F P Q a b)[s]? = some (vi (cvT (els F P) (els F Q) a b s)):=fun a b=>by
  unfold tmI mk
  rw [zh,zh,wq h1];rfl
 refine Option.some.inj ?_
 rw [← zt,← zt,e]
 by_cases hs:s=i+k
 · subst hs
   rw [ux (by rw [tmI_len];exact h1)]
   congr 2
   unfold cvT
   rw [if_neg (show ¬ (i≤i+k∧i+k<i+k) by omega),if_pos (show i≤i+k∧i+k<i+(k+1) by omega),add0,show i+k - i=k by omega]
 · rw [uq (Ne.symm hs),e]
   congr 2
   unfold cvT
   congr 1
   by_cases h3:i≤s∧s<i+k
   · rw [if_pos h3,if_pos (by omega)]
   · rw [if_neg h3,if_neg (by omega)]
theorem tmI_end {P Q:List Int}:trL F (tmI F P Q P.length 0)=vis (tmE (els F P) (els F Q)):=by
 unfold trL tmI tmE
 rw [els_vis,zm,zm]
theorem tmE_len {P Q:List (El F)}:(tmE P Q).length≤P.length+Q.length:=by
 unfold tmE
 rw [trim_len]
 exact xk (top_le _) (by rw [mk_len];exact zx _)
theorem tmL_len {P Q:List Int}:(tmL F P Q).length≤P.length+Q.length:=by
 unfold tmL
 rw [zm]
 refine xk tmE_len ?_
 rw [trim_len,trim_len]
 have h1:=top_le (els F P)
 have h2:=top_le (els F Q)
 rw [zm] at h1 h2
 omega
end
end
end Go.Vx
namespace Go.Vx
open Go Go.Proofs
noncomputable section
variable [Gl]
theorem wu {n:Nat} (h:n<1000000):IntKind.u64.wrap (n:Int)=(n:Int):=wrap_nat (zk h (by decide))
section
variable (F:Gf)
theorem wm:IntKind.u64.wrap (F.m:Int)=(F.m:Int):=wu (by have:=F.m14;omega)
theorem rlow_ok (a:Int):Tells (C:=C0) Tryz.prog (.fn 66) [] [.int .i64 (F.m:Int),.int .i64 a] (.int .i64 (loI F a)):=by
 have hs:=nF_sz F
 have es:=shl_sz F
 refine loc_pc (P:=Tryz.prog) (E:=⟨[],[],11,[],[],[],none⟩) (L:=[]) mix Tryz.func66 rfl (by kernel_rfl) (by kernel_rfl) rfl rfl ?_
 ((conv=>arg 1;reduce);with_reducible repeat' first | exact ty | refine ta ?_ ?_ | refine ti fun _ => ?_ | refine tf fun _ => ?_ | refine tl ?_)
 all_goals try exact vlf
 · rw [wm];omega
 · rw [wm,es];exact inR64 (n:=(szF F:Int) - 1) (by omega) (by omega)
 · rw [wm,es];exact lo_eq a
def pcRlow:Pc Tryz.prog C0 where
 tg:=.fn 66
 X:=Int
 args a:=[.int .i64 (F.m:Int),.int .i64 a]
 mem _:=[]
 pre _:=True
 res a:=.int .i64 (loI F a)
 mat vs m:=match vs with
  | [_,.int _ a]=>some (a,[])
  | _=>none
 ok a _:=rlow_ok F a
theorem rpoly_ok:Tells (C:=C0) Tryz.prog (.fn 93) [] [.int .i64 (F.m:Int)] (.int .i64 (F.p:Int)):=by
 have h1:=F.m3
 have h2:=F.m14
 refine loc_pc (P:=Tryz.prog) (E:=⟨[],[],14,[],[],[],none⟩) (L:=[]) mix Tryz.func93 rfl (by kernel_rfl) (by kernel_rfl) rfl rfl ?_
 ((conv=>arg 1;reduce);with_reducible repeat' first | exact ty | refine ta ?_ ?_ | refine ti fun _ => ?_ | refine tf fun _ => ?_ | refine tl ?_)
 all_goals try exact vlf
 · rename_i d
   simp only [xw,decide_eq_true_eq,SB.val] at d
   omega
 · show ((F.m:Int) - 3).toNat+0<12
   omega
 · have e:(((F.m:Int) - 3).toNat+0)=F.m - 3:=by omega
   rw [e,← F.po]
   unfold polyN
   rw [if_neg (by omega)]
   obtain ⟨k,hk,hk2⟩:∃ k,F.m - 3=k∧k<12:=⟨_,rfl,by omega⟩
   rw [hk]
   have:∀ k:Fin 12,[(0xB:Int),0x13,0x25,0x43,0x89,0x11D,0x211,0x409,0x805,0x1053,0x201B,0x4443].getD k.1 0=(([0xB,0x13,0x25,0x43,0x89,0x11D,0x211,0x409,0x805,0x1053,0x201B,0x4443].getD k.1 0:Nat):Int):=by decide
   exact this ⟨k,hk2⟩
def pcRpoly:Pc Tryz.prog C0 where
 tg:=.fn 93
 X:=Unit
 args _:=[.int .i64 (F.m:Int)]
 mem _:=[]
 pre _:=True
 res _:=.int .i64 (F.p:Int)
 mat vs m:=match vs with
  | [_]=>some ((),[])
  | _=>none
 ok _ _:=rpoly_ok F
def Mu5 (c:El F):Inv' C0:=⟨5,El F×El F×Nat,fun x=>[(1,.int .i64 (vi x.2.1)),(2,.int .i64 (x.2.2:Int)),(8,.int .i64 (vi x.1))],fun _ m=>m,fun x=>x.2.2<2 ^ F.m∧x.1+x.2.1*el F (x.2.2:Int)=c,fun x=>x.2.2⟩
set_option maxHeartbeats 4000000 in
theorem xmul_ok (a b:Int):Tells (C:=C0) Tryz.prog (.fn 63) [] [.int .i64 (F.m:Int),.int .i64 a,.int .i64 b] (.int .i64 (muI F a b)):=by
 refine loc_pc (P:=Tryz.prog) (E:=⟨[],[pcRlow F,pcRpoly F],39,[],[],[],none⟩) (L:=[Mu5 F (el F a*el F b)]) mix Tryz.func63 rfl (by kernel_rfl) (by kernel_rfl) rfl rfl ?_
 ((conv=>arg 1;reduce);with_reducible repeat' first | exact ty | refine ta ?_ ?_ | refine ti fun _ => ?_ | refine tf fun _ => ?_ | refine tl ?_)
 all_goals try exact vlf
 · refine Stands.one ((Fd.zr,el F a,(el F b).v):El F×El F×Nat) ⟨⟨(el F b).lt,?_⟩,?_⟩
   · show Fd.zr+el F a*el F ((el F b).v:Int)=_
     rw [show ((el F b).v:Int)=vi (el F b) from rfl,el_vi,Fd.zadd]
   ((conv=>arg 1;reduce);with_reducible repeat' first | exact ty | refine ta ?_ ?_ | refine ti fun _ => ?_ | refine tf fun _ => ?_ | refine tl ?_)
   all_goals first | exact vlf | exact loI_eq _ | exact (loI_eq _).symm
 all_goals try (rw [wm F];exact vy F.m)
 iterate 4 (focus
  rename_i x hx d1 d2 d3
  change El F×El F×Nat at x
  obtain ⟨x,a',b'⟩:=x
  obtain ⟨k1,k2⟩:b'<2 ^ F.m∧x+a'*el F (b':Int)=el F a*el F b:=hx
  have d1:(0:Int)<(b':Int):=ng d1
  have kb:b'<2 ^ 62:=zk k1 (zi (by omega) (by have:=F.m14;omega))
  rw [show ibit .and .i64 ((x,a',b'):El F×El F×Nat).2.2 1=((b' % 2:Nat):Int) from odd64 kb] at d2
  rw [wm,show ibit .and .i64 (ishr .i64 (ishl .i64 (vi ((x,a',b'):El F×El F×Nat).2.1) 1) (F.m:Int)) 1=_ from top_bit a'] at d3
  have ms:=mul_step k1 k2
  have hb:b' / 2<2 ^ F.m:=by omega
  simp only [decide_eq_true_eq,decide_eq_false_iff_not] at d2 d3
  have hm:b' / 2<b':=by omega
  have hh:=half64 b'
  cases ht:a'.v.testBit (F.m - 1)
  · have hd:=dbl_no ht
    rw [ht] at d3
    first
    | exact absurd d3 (by decide)
    | (have ms:=ms.1 (by omega)
       refine Stands.one ((x+a',a'*ex F 1,b' / 2):El F×El F×Nat) ⟨⟨hb,ms⟩,hm,?_⟩
       ((conv=>arg 1;reduce);with_reducible repeat' first | exact ty | refine ta ?_ ?_ | refine ti fun _ => ?_ | refine tf fun _ => ?_ | refine tl ?_)
       all_goals first | exact vlf | exact hd | exact xor_vi _ _ | exact hh)
    | (have ms:=ms.2 (by omega)
       refine Stands.one ((x,a'*ex F 1,b' / 2):El F×El F×Nat) ⟨⟨hb,ms⟩,hm,?_⟩
       ((conv=>arg 1;reduce);with_reducible repeat' first | exact ty | refine ta ?_ ?_ | refine ti fun _ => ?_ | refine tf fun _ => ?_ | refine tl ?_)
       all_goals first | exact vlf | exact hd | exact hh)
  · have hd:=dbl_yes ht
    rw [ht] at d3
    first
    | exact absurd rfl d3
    | (have ms:=ms.1 (by omega)
       refine Stands.one ((x+a',a'*ex F 1,b' / 2):El F×El F×Nat) ⟨⟨hb,ms⟩,hm,?_⟩
       ((conv=>arg 1;reduce);with_reducible repeat' first | exact ty | refine ta ?_ ?_ | refine ti fun _ => ?_ | refine tf fun _ => ?_ | refine tl ?_)
       all_goals first | exact vlf | exact hd | exact xor_vi _ _ | exact hh)
    | (have ms:=ms.2 (by omega)
       refine Stands.one ((x,a'*ex F 1,b' / 2):El F×El F×Nat) ⟨⟨hb,ms⟩,hm,?_⟩
       ((conv=>arg 1;reduce);with_reducible repeat' first | exact ty | refine ta ?_ ?_ | refine ti fun _ => ?_ | refine tf fun _ => ?_ | refine tl ?_)
       all_goals first | exact vlf | exact hd | exact hh))
 · rename_i x hx d1
   change El F×El F×Nat at x
   obtain ⟨x,a',b'⟩:=x
   obtain ⟨k1,k2⟩:b'<2 ^ F.m∧x+a'*el F (b':Int)=el F a*el F b:=hx
   have d1:¬ (0:Int)<(b':Int):=nf d1
   obtain rfl:b'=0:=by omega
   rw [muI_eq,← k2]
   have e:el F ((0:Nat):Int)=Fd.zr:=El.ext (by show lw F.m 0=0;unfold lw;simp)
   rw [e,Fd.mul0,Fd.add0]
def pcRmul:Pc Tryz.prog C0 where
 tg:=.fn 63
 X:=Int×Int
 args:=fun (a,b)=>[.int .i64 (F.m:Int),.int .i64 a,.int .i64 b]
 mem _:=[]
 pre _:=True
 res:=fun (a,b)=>.int .i64 (muI F a b)
 mat vs m:=match vs with
  | [_,.int _ a,.int _ b]=>some ((a,b),[])
  | _=>none
 ok:=fun (a,b) _=>xmul_ok F a b
@[irreducible] def pwI (F:Gf) (a:Int) (n:Nat):Int:=vi (Fd.pw (el F a) n)
def Po3 (c:El F):Inv' C0:=⟨3,El F×El F×Nat,fun x=>[(1,.int .i64 (vi x.2.1)),(2,.int .i64 (x.2.2:Int)),(7,.int .i64 (vi x.1))],fun _ m=>m,fun x=>x.2.2<2 ^ 62∧x.1*Fd.pw x.2.1 x.2.2=c,fun x=>x.2.2⟩
theorem rpower_ok (a:Int) (n:Nat) (hn:n<2 ^ 62):Tells (C:=C0) Tryz.prog (.fn 95) [] [.int .i64 (F.m:Int),.int .i64 a,.int .i64 (n:Int)] (.int .i64 (pwI F a n)):=by
 refine loc_pc (P:=Tryz.prog) (E:=⟨[],[pcRlow F,pcRmul F],27,[],[],[],none⟩) (L:=[Po3 F (Fd.pw (el F a) n)]) mix Tryz.func95 rfl (by kernel_rfl) (by kernel_rfl) rfl rfl ?_
 ((conv=>arg 1;reduce);with_reducible repeat' first | exact ty | refine ta ?_ ?_ | refine ti fun _ => ?_ | refine tf fun _ => ?_ | refine tl ?_)
 all_goals try exact vlf
 · refine Stands.one ((Fd.un,el F a,n):El F×El F×Nat) ⟨⟨hn,Fd.umul _⟩,?_⟩
   ((conv=>arg 1;reduce);with_reducible repeat' first | exact ty | refine ta ?_ ?_ | refine ti fun _ => ?_ | refine tf fun _ => ?_ | refine tl ?_)
   all_goals first | exact vlf | exact loI_eq _ | exact (loI_eq _).symm
 all_goals try (
  rename_i x hx d1 d2
  change El F×El F×Nat at x
  obtain ⟨x,a',n'⟩:=x
  obtain ⟨k1,k2⟩:n'<2 ^ 62∧x*Fd.pw a' n'=Fd.pw (el F a) n:=hx
  have d1:(0:Int)<(n':Int):=ng d1
  rw [show ibit .and .i64 ((x,a',n'):El F×El F×Nat).2.2 1=((n' % 2:Nat):Int) from odd64 k1] at d2
  have ms:=pow_step k2
  have e1:muI F (vi x) (vi a')=vi (x*a'):=by rw [muI_eq,el_vi,el_vi]
  have e2:muI F (vi a') (vi a')=vi (a'*a'):=by rw [muI_eq,el_vi]
  simp only [decide_eq_true_eq,decide_eq_false_iff_not] at d2
  first
  | (have ms:=ms.1 (by omega)
     refine Stands.one ((x*a',a'*a',n' / 2):El F×El F×Nat) ⟨⟨by show n' / 2<2 ^ 62;omega,ms⟩,by show n' / 2<n';omega,?_⟩
     ((conv=>arg 1;reduce);with_reducible repeat' first | exact ty | refine ta ?_ ?_ | refine ti fun _ => ?_ | refine tf fun _ => ?_ | refine tl ?_)
     all_goals first | exact vlf | exact e1 | exact e1.symm | exact e2 | exact e2.symm | exact half64 _ | exact (half64 _).symm)
  | (have ms:=ms.2 (by omega)
     refine Stands.one ((x,a'*a',n' / 2):El F×El F×Nat) ⟨⟨by show n' / 2<2 ^ 62;omega,ms⟩,by show n' / 2<n';omega,?_⟩
     ((conv=>arg 1;reduce);with_reducible repeat' first | exact ty | refine ta ?_ ?_ | refine ti fun _ => ?_ | refine tf fun _ => ?_ | refine tl ?_)
     all_goals first | exact vlf | exact e2 | exact e2.symm | exact half64 _ | exact (half64 _).symm))
 · rename_i x hx d1
   change El F×El F×Nat at x
   obtain ⟨x,a',n'⟩:=x
   obtain ⟨k1,k2⟩:n'<2 ^ 62∧x*Fd.pw a' n'=Fd.pw (el F a) n:=hx
   have d1:¬ (0:Int)<(n':Int):=nf d1
   obtain rfl:n'=0:=by omega
   unfold pwI
   rw [← k2]
   exact congrArg vi (Fd.mul1 x).symm
def pcRpower:Pc Tryz.prog C0 where
 tg:=.fn 95
 X:=Int×Int
 args:=fun (a,n)=>[.int .i64 (F.m:Int),.int .i64 a,.int .i64 n]
 mem _:=[]
 pre:=fun (a,n)=>0≤n∧n<4611686018427387904
 res:=fun (a,n)=>.int .i64 (pwI F a n.toNat)
 mat vs m:=match vs with
  | [_,.int _ a,.int _ n]=>some ((a,n),[])
  | _=>none
 ok:=fun (a,n) h=>by
  obtain ⟨k,rfl⟩:=yh h.1
  exact rpower_ok F a k (by have:=h.2;omega)
theorem el_two:el F 2=ex F 1:=by
 refine El.ext ?_
 have h3:=F.m3
 have hp:2 ^ 3≤2 ^ F.m:=zi (by omega) h3
 rw [el_v,show (2:Int)=((2:Nat):Int) from rfl,lw_nat (by omega)]
 show 2=mulx F.m F.p 1
 unfold mulx
 rw [xp (show 1<2 ^ (F.m - 1) from ui (by omega)),if_neg vf]
theorem pwI_two (n:Nat):pwI F 2 n=vi (ex F n):=by
 unfold pwI;rw [el_two,ex_pw,ov]
theorem rpow2_ok (n:Int) (h1 : -1000000000<n) (h2:n<1000000000):Tells (C:=C0) Tryz.prog (.fn 94) [] [.int .i64 (F.m:Int),.int .i64 2,.int .i64 n] (.int .i64 (vi (exF F n))):=by
 obtain ⟨hs,h7,hh⟩:=nF_sz F
 have es:=shl_sz F
 have hn:(nF F:Int)=(F.N:Int):=by rw [nF_eq]
 have hz:¬ loI F 2=0:=by rw [loI_eq,el_two];exact fun h=>ex_ne 1 (vi_zero.1 h)
 have e1:(szF F:Int) - 1=(nF F:Int):=by omega
 have t1:=uv n (show (0:Int)<(nF F:Int) by omega)
 have t2 : -(nF F:Int)<n.tmod (nF F:Int):=by
  have h3:=Int.neg_tmod n (nF F:Int)
  have h4:=uv (-n) (show (0:Int)<(nF F:Int) by omega)
  omega
 have t3:(n.tmod (nF F:Int)+(nF F:Int)).tmod (nF F:Int)=n % (nF F:Int):=by
  rw [pp (by omega),oa,Int.tmod_def,Int.sub_emod,Int.mul_emod_right,Int.sub_zero,tz _ (Int.dvd_refl _)]
 refine loc_pc (P:=Tryz.prog) (E:=⟨[],[pcRlow F,pcRpower F],28,[],[],[],none⟩) (L:=[]) mix Tryz.func94 rfl (by kernel_rfl) (by kernel_rfl) rfl rfl ?_
 ((conv=>arg 1;reduce);with_reducible repeat' first | exact ty | refine ta ?_ ?_ | refine ti fun _ => ?_ | refine tf fun _ => ?_ | refine tl ?_)
 all_goals try exact vlf
 all_goals try exact absurd (ng ‹decide (loI F 2=0)=true›) hz
 all_goals rw [wm]
 · omega
 all_goals rw [es,e1]
 · exact inR64 (by omega) (by omega)
 · omega
 · exact inR64 (by omega) (by omega)
 · omega
 · rw [t3]
   exact ⟨ug _ (by omega),by have:=sr n (show (0:Int)<(nF F:Int) by omega);show n % (nF F:Int)<_;omega⟩
 · rw [t3,pwI_two]
   unfold exF
   rw [hn]
def pcRpow:Pc Tryz.prog C0 where
 tg:=.fn 94
 X:=Int
 args n:=[.int .i64 (F.m:Int),.int .i64 2,.int .i64 n]
 mem _:=[]
 pre n := -1000000000<n∧n<1000000000
 res n:=.int .i64 (vi (exF F n))
 mat vs m:=match vs with
  | [_,_,.int _ n]=>some (n,[])
  | _=>none
 ok n h:=rpow2_ok F n h.1 h.2
theorem rexp_ok (n:Int) (h1 : -1000000000<n) (h2:n<1000000000):Tells (C:=C0) Tryz.prog (.fn 64) [] [.int .i64 (F.m:Int),.int .i64 n] (.int .i64 (vi (exF F n))):=by
 refine loc_pc (P:=Tryz.prog) (E:=⟨[],[pcRpow F],8,[],[],[],none⟩) (L:=[]) mix Tryz.func64 rfl (by kernel_rfl) (by kernel_rfl) rfl rfl ?_
 ((conv=>arg 1;reduce);with_reducible repeat' first | exact ty | refine ta ?_ ?_ | refine ti fun _ => ?_ | refine tf fun _ => ?_ | refine tl ?_)
 all_goals first | exact vlf | exact ⟨h1,h2⟩
def pcRexp:Pc Tryz.prog C0 where
 tg:=.fn 64
 X:=Int
 args n:=[.int .i64 (F.m:Int),.int .i64 n]
 mem _:=[]
 pre n := -1000000000<n∧n<1000000000
 res n:=.int .i64 (vi (exF F n))
 mat vs m:=match vs with
  | [_,.int _ n]=>some (n,[])
  | _=>none
 ok n h:=rexp_ok F n h.1 h.2
end
end
end Go.Vx
namespace Go.Vx
open Go Go.Proofs
noncomputable section
variable [Gl]
section
variable (F:Gf)
@[irreducible] def stL (A B:List Int) (d e:Int):List Int:=adL F A (scL F B (muI F d (ivI F e)))
theorem scL_len (P:List Int) (a:Int):(scL F P a).length≤P.length:=by
 unfold scL
 show ((trim (mulS (els F P) (el F a))).map vi).length≤_
 rw [zm,trim_len]
 refine xk (top_le _) ?_
 simp [mulS]
abbrev rgC (F:Gf) (bR qR bF qF be qe bl ql:Nat) (k:Nat):List (Ck C0):=[⟨bR,qR,1,false,none,.one [.ptr (k+1) 0 0]⟩,⟨bF,qF,4,false,none,.one [.int .i64 (F.m:Int),.int .i64 (szF F:Int),.sl (k+2) 0 (nF F) (nF F),.sl (k+3) 0 (szF F) (szF F)]⟩,xCk F be qe,lCk F bl ql]
theorem step_ok (b1 q1 b2 q2 bR qR bF qF be qe bl ql:Nat) (o:Bool) (b q:Nat) (l:List Int) (i n c:Nat) (h:i+n≤l.length) (hn:n<1000000000) (ho:o=false→n=0∧c=0) (o':Bool) (b' q':Nat) (l':List Int) (i' n' c':Nat) (h':i'+n'≤l'.length) (hn':n'<1000000000) (ho':o'=false→n'=0∧c'=0) (d e:Int) (he:loI F e≠0) (A B:List Int) (hA:(l.drop i).take n=A) (hB:(l'.drop i').take n'=B):
 Does (C:=C0) Tryz.prog (.fn 86) ([⟨b1,q1,1,false,none,.one [.ptr 3 0 0]⟩,⟨b2,q2,1,false,none,.one [.ptr 2 0 0]⟩] ++ rgC F bR qR bF qF be qe bl ql 2 ++ [⟨b,q,1,false,some o,.rows 3 l⟩,⟨b',q',1,false,some o',.rows 3 l'⟩]) [.sl 6 i n c,.sl 7 i' n' c',.int .i64 d,.int .i64 e,.ptr 0 0 0,.ptr 1 0 0]
  [⟨Os,fun y=>Ow (stL F A B d e) y,fun y=>.sl 8 0 (stL F A B d e).length y.2.2.2,fun y=>[⟨b1,q1,1,false,none,.one [.ptr 3 0 0]⟩,⟨b2,q2,1,false,none,.one [.ptr 2 0 0]⟩] ++ rgC F bR qR bF qF be qe bl ql 2 ++ [⟨b,q,1,false,some o,.rows 3 l⟩,⟨b',q',1,false,some o',.rows 3 l'⟩,osC true y]⟩]:=by
 refine loc_fn (P:=Tryz.prog) (E:=⟨[fcScale F,fcPAdd F],[pcDiv F],27,[(2,[1],[.p 0,.p 1,.p 2,.p 3,.p 4,.e 5,.e 6,.p 7])],[],[],none⟩) (L:=[]) mix Tryz.func86 rfl (by kernel_rfl) (by kernel_rfl) rfl rfl ?_
 ((conv=>arg 1;reduce);with_reducible repeat' first | exact ty | refine ta ?_ ?_ | refine ti fun _ => ?_ | refine tf fun _ => ?_ | refine tl ?_)
 all_goals try exact vlf
 · exact he
 · exact ⟨h',hn',ho'⟩
 · rename_i y hy
   obtain ⟨yo,yb,yl,yc⟩:=y
   have hy:Ow (scL F ((l'.drop i').take n') (muI F d (ivI F e))) (yo,yb,yl,yc):=hy
   have h1:(scL F ((l'.drop i').take n') (muI F d (ivI F e))).length≤yc:=hy.cap
   have h2:yc≤yl.length:=hy.len
   refine ⟨⟨h,hn,ho⟩,?_,?_,hy.nil⟩
   · show 0+(scL F ((l'.drop i').take n') (muI F d (ivI F e))).length≤yl.length
     omega
   · have h1:=scL_len F ((l'.drop i').take n') (muI F d (ivI F e))
     rw [row_len h'] at h1
     show (scL F ((l'.drop i').take n') (muI F d (ivI F e))).length<1000000000
     omega
 · rename_i y hy z hz
   have hy:Ow (scL F ((l'.drop i').take n') (muI F d (ivI F e))) y:=hy
   have hz:Ow (adL F ((l.drop i).take n) ((y.2.2.1.drop 0).take (scL F ((l'.drop i').take n') (muI F d (ivI F e))).length)) z:=hz
   have e1:adL F ((l.drop i).take n) ((y.2.2.1.drop 0).take (scL F ((l'.drop i').take n') (muI F d (ivI F e))).length)=stL F A B d e:=by
    rw [zq,hy.eq,hA,hB]
    unfold stL
    rfl
   rw [e1] at hz
   refine Ends.one z hz ?_
   ((conv=>arg 1;reduce);with_reducible repeat' first | exact ty | refine ta ?_ ?_ | refine ti fun _ => ?_ | refine tf fun _ => ?_ | refine tl ?_)
   all_goals first | exact vlf | exact congrArg wh e1 | exact (congrArg wh e1).symm
abbrev St9:=(Nat×Nat×Nat×Nat)×(Nat×Nat×Nat×Nat×Nat×Nat×Nat×Nat)×Sl3×Sl3×Int×Int
def fcStep:Fc Tryz.prog C0 where
 tg:=.fn 86
 X:=St9
 args:=fun (_,_,(o,b,q,l,i,n,c),(o',b',q',l',i',n',c'),d,e)=>[.sl 6 i n c,.sl 7 i' n' c',.int .i64 d,.int .i64 e,.ptr 0 0 0,.ptr 1 0 0]
 mem:=fun ((b1,q1,b2,q2),(bR,qR,bF,qF,be,qe,bl,ql),(o,b,q,l,i,n,c),(o',b',q',l',i',n',c'),d,e)=>[⟨b1,q1,1,false,none,.one [.ptr 3 0 0]⟩,⟨b2,q2,1,false,none,.one [.ptr 2 0 0]⟩] ++ rgC F bR qR bF qF be qe bl ql 2 ++ [⟨b,q,1,false,some o,.rows 3 l⟩,⟨b',q',1,false,some o',.rows 3 l'⟩]
 pre:=fun (_,_,x,y,d,e)=>(Sl3.pre x∧Sl3.pre y)∧loI F e≠0
 alts:=fun ((b1,q1,b2,q2),(bR,qR,bF,qF,be,qe,bl,ql),(o,b,q,l,i,n,c),(o',b',q',l',i',n',c'),d,e)=>[⟨Os,fun y=>Ow (stL F ((l.drop i).take n) ((l'.drop i').take n') d e) y,fun y=>.sl 8 0 (stL F ((l.drop i).take n) ((l'.drop i').take n') d e).length y.2.2.2,fun y=>[⟨b1,q1,1,false,none,.one [.ptr 3 0 0]⟩,⟨b2,q2,1,false,none,.one [.ptr 2 0 0]⟩] ++ rgC F bR qR bF qF be qe bl ql 2 ++ [⟨b,q,1,false,some o,.rows 3 l⟩,⟨b',q',1,false,some o',.rows 3 l'⟩,osC true y]⟩]
 mat vs m:=match vs with
  | [.sl s i n c,.sl s' i' n' c',.int _ d,.int _ e,.ptr p _ _,.ptr p' _ _]=>match nth m p,nth m p' with
    | ⟨b1,q1,_,_,_,_⟩,⟨b2,q2,_,_,_,.one (.ptr r _ _ :: _)⟩=>match nth m r with
      | ⟨bR,qR,_,_,_,.one (.ptr f _ _ :: _)⟩=>match nth m f with
        | ⟨bF,qF,_,_,_,.one (_ :: _ :: .sl x _ _ _ :: .sl g _ _ _ :: _)⟩=>match nth m x,nth m g,nth m s,nth m s' with
          | ⟨be,qe,_,_,_,_⟩,⟨bl,ql,_,_,_,_⟩,⟨b,q,_,_,o,.rows 3 l⟩,⟨b',q',_,_,o',.rows 3 l'⟩=>some (((b1,q1,b2,q2),(bR,qR,bF,qF,be,qe,bl,ql),(onOf o,b,q,l,i,n,c),(onOf o',b',q',l',i',n',c'),d,e),[p,p',r,f,x,g,s,s'])
          | _,_,_,_=>none
        | _=>none
      | _=>none
    | _,_=>none
  | _=>none
 ok:=fun ((b1,q1,b2,q2),(bR,qR,bF,qF,be,qe,bl,ql),(o,b,q,l,i,n,c),(o',b',q',l',i',n',c'),d,e) h=>step_ok F b1 q1 b2 q2 bR qR bF qF be qe bl ql o b q l i n c h.1.1.1 h.1.1.2.1 h.1.1.2.2 o' b' q' l' i' n' c' h.1.2.1 h.1.2.2.1 h.1.2.2.2 d e h.2 _ _ rfl rfl
end
end
end Go.Vx
