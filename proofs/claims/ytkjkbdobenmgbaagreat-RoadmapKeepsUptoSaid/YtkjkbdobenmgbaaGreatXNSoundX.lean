/-
  SoundX (a part of a claim: our own text).
-/
import Derived.Test.YtkjkbdobenmgbaaGreatXNSoundT
namespace Go.Abs
variable {P : Program} {o : Oper} {env : Operand → AVal} {m : Mem} {id : Nat}
theorem Ezh {t : TypeId} {x y : Operand} {out : Out} (ho : o.op = .store t x y) (h : yz4 P t (env x) (env y) m = some out) (hob : holds out.obl) : Sound1 P o env m id out := by cases (show none = some _ from h)
theorem xzh {t : TypeId} {len : Nat} {parts : Array (Nat × Operand)} {out : Out} (ho : o.op = .buildSlice t len parts) (h : rz9 P t len id env m parts.toList = some out) : Sound1 P o env m id out := by cases (show none = some _ from h)
theorem Gz9 {e : TypeId} {k : Nat} {out : Out} (ho : o.op = .alloc e) (h : Azy P k e id = some out) : Sound1 P o env m id out := by cases (show none = some _ from h)
end Go.Abs
