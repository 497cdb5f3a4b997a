/-
  The symbolic evaluator, eighteenth part: which function a method of an interface value is.
  Conditions: none.
-/
import Derived.Test.YtgbgfdmhmahonaaDoorVxQ
namespace Go.Vx
open Go
variable {C : Nat → Codec}

theorem method_ptr {P : Program} {t elem : TypeId} {i : TypeInfo} {name : String} {f : FuncId} {k : Nat} {mm} (hi : P.info? t = some i) (hm : i.methods.find? (·.name == name) = some mm) (hp : mm.path = #[]) (hf : mm.func = some (f, true))
    (hu : P.underlying t = some (.pointer elem)) (v : Value) (w : World) : (method (k + 1) t v name).run P w = .ok (f, v) w := by
  simp [method, typeInfo, hi, hm, hp, hf, follow, receiverAt, run_underlying hu, Place.get]

theorem wrapNil (ts : Array TypeId) (t : TypeId) (a : Addr) (x y : String) : Builtin.ssaWrapNilChk_ ts t #[.pointer (some a), strVal x, strVal y] = pure (.pointer (some a)) := rfl
theorem method_val {P : Program} {t elem : TypeId} {i : TypeInfo} {name : String} {f : FuncId} {k : Nat} {mm} (hi : P.info? t = some i) (hm : i.methods.find? (·.name == name) = some mm) (hp : mm.path = #[]) (hf : mm.func = some (f, false))
    (hu : P.underlying t = some (.pointer elem)) {a : Addr} {w : World} {r : Value} (hl : (loadVar elem a).run P w = .ok r w) : (method (k + 1) t (.pointer (some a)) name).run P w = .ok (f, r) w := by
  simp [method, typeInfo, hi, hm, hp, hf, follow, receiverAt, run_underlying hu, Place.get, wrapNil, asAddr, hl]

end Go.Vx
