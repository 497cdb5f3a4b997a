/-
  The symbolic evaluator: values and chunks written out before they are used again.
  Conditions: none.
-/
import Derived.Test.YtgbgfdmhmahonaaDoorVxN
namespace Go.Vx
open Go
variable {C : Nat → Codec}

/-- A list's length worked out. -/
def fL {α : Type 1} : List α → (List α → Tr) → Tr
  | [], K => K []
  | x :: r, K => fL r fun r => K (x :: r)
theorem fL_eq {α : Type 1} : ∀ (l : List α) (K : List α → Tr), fL l K = K l
  | [], _ => rfl
  | x :: r, K => by simp only [fL, fL_eq r]
def fLN : List Nat → (List Nat → Tr) → Tr
  | [], K => K []
  | x :: r, K => fLN r fun r => K (x :: r)
theorem fLN_eq : ∀ (l : List Nat) (K : List Nat → Tr), fLN l K = K l
  | [], _ => rfl
  | x :: r, K => by simp only [fLN, fLN_eq r]

def fN : Nat → (Nat → Tr) → Tr
  | 0, K => K 0
  | n + 1, K => fN n fun k => K (k + 1)
theorem fN_eq : ∀ (n : Nat) (K : Nat → Tr), fN n K = K n
  | 0, _ => rfl
  | n + 1, K => by simp only [fN, fN_eq n]

mutual
def fSV : SV → (SV → Tr) → Tr
  | .junk, K => K .junk
  | .undef, K => K .undef
  | .int k n, K => K (.int k n)
  | .bool .t, K => K (.bool .t)
  | .bool .f, K => K (.bool .f)
  | .bool (.tm b), K => K (.bool (.tm b))
  | .ptr c i f, K => fN c fun c => K (.ptr c i f)
  | .nilp, K => K .nilp
  | .sl c i n m, K => fN c fun c => K (.sl c i n m)
  | .nils, K => K .nils
  | .agg vs, K => fSVs vs fun vs => K (.agg vs)
  | .tup vs, K => fSVs vs fun vs => K (.tup vs)
  | .ifc t v, K => fSV v fun v => K (.ifc t v)
  | .nili, K => K .nili
  | .fn f a b, K => fSVs a fun a => fSVs b fun b => K (.fn f a b)
  | .nilf, K => K .nilf
  | .gp g, K => K (.gp g)
  | .mp c, K => fN c fun c => K (.mp c)
  | .val v, K => K (.val v)
  | .cnd cs v, K => fSV v fun v => K (.cnd cs v)
def fSVs : List SV → (List SV → Tr) → Tr
  | [], K => K []
  | v :: r, K => fSV v fun v => fSVs r fun r => K (v :: r)
end
mutual
theorem fSV_eq : ∀ (v : SV) (K : SV → Tr), fSV v K = K v
  | .junk, _ => by simp only [fSV]
  | .undef, _ => by simp only [fSV]
  | .int _ _, _ => by simp only [fSV]
  | .bool .t, _ => by simp only [fSV]
  | .bool .f, _ => by simp only [fSV]
  | .bool (.tm _), _ => by simp only [fSV]
  | .ptr _ _ _, _ => by simp only [fSV, fN_eq]
  | .nilp, _ => by simp only [fSV]
  | .sl _ _ _ _, _ => by simp only [fSV, fN_eq]
  | .nils, _ => by simp only [fSV]
  | .agg vs, _ => by simp only [fSV, fSVs_eq vs]
  | .tup vs, _ => by simp only [fSV, fSVs_eq vs]
  | .ifc _ v, _ => by simp only [fSV, fSV_eq v]
  | .nili, _ => by simp only [fSV]
  | .fn _ a b, _ => by simp only [fSV, fSVs_eq a, fSVs_eq b]
  | .nilf, _ => by simp only [fSV]
  | .gp _, _ => by simp only [fSV]
  | .mp _, _ => by simp only [fSV, fN_eq]
  | .val _, _ => by simp only [fSV]
  | .cnd _ v, _ => by simp only [fSV, fSV_eq v]
theorem fSVs_eq : ∀ (l : List SV) (K : List SV → Tr), fSVs l K = K l
  | [], _ => by simp only [fSVs]
  | v :: r, _ => by simp only [fSVs, fSV_eq v, fSVs_eq r]
end

/-- The slot written last. -/
def fTm1 : Tm → (Tm → Tr) → Tr
  | [], K => K []
  | (k, v) :: r, K => fSV v fun v => K ((k, v) :: r)
theorem fTm1_eq (tm : Tm) (K : Tm → Tr) : fTm1 tm K = K tm := by
  cases tm with
  | nil => rfl
  | cons x r => simp only [fTm1, fSV_eq]
/-- All slots. -/
def fTm : Tm → (Tm → Tr) → Tr
  | [], K => K []
  | (k, v) :: r, K => fSV v fun v => fTm r fun r => K ((k, v) :: r)
theorem fTm_eq : ∀ (tm : Tm) (K : Tm → Tr), fTm tm K = K tm
  | [], _ => rfl
  | (k, v) :: r, K => by simp only [fTm, fSV_eq, fTm_eq r]

def fCs : Cells C → (Cells C → Tr) → Tr
  | .rows t l, K => K (.rows t l)
  | .one vs, K => fSVs vs fun vs => K (.one vs)
  | .mp tk tv l clk, K => K (.mp tk tv l clk)
  | .it mc seen clk, K => fN mc fun mc => K (.it mc seen clk)
  | .dead, K => K .dead
theorem fCs_eq (c : Cells C) (K : Cells C → Tr) : fCs c K = K c := by
  cases c <;> simp only [fCs, fSVs_eq, fN_eq]
/-- The chunks. -/
def fM : List (Ck C) → (List (Ck C) → Tr) → Tr
  | [], K => K []
  | ⟨b, ba, sz, w, g, cs⟩ :: r, K => fCs cs fun cs => fM r fun r => K (⟨b, ba, sz, w, g, cs⟩ :: r)
theorem fM_eq : ∀ (m : List (Ck C)) (K : List (Ck C) → Tr), fM m K = K m
  | [], _ => rfl
  | ⟨_, _, _, _, _, cs⟩ :: r, K => by simp only [fM, fCs_eq, fM_eq r]

end Go.Vx
