/-
  SoundX (a part of a claim: our own text).
-/
import Derived.Test.YtfodaccgmcljoaaGreatYASoundT
namespace Go.Abs
variable {P : Program} {o : Oper} {env : Operand → AVal} {m : Mem} {id : Nat}
theorem Mzr {t : TypeId} {x y : Operand} {out : Out} (ho : o.op = .store t x y) (h : Fz2 P t (env x) (env y) m = some out) (hob : holds out.obl) : Sound1 P o env m id out := by cases (show none = some _ from h)
theorem Ez3 {t : TypeId} {len : Nat} {parts : Array (Nat × Operand)} {out : Out} (ho : o.op = .buildSlice t len parts) (h : vzg P t len id env m parts.toList = some out) : Sound1 P o env m id out := by cases (show none = some _ from h)
theorem Ozs {e : TypeId} {k : Nat} {out : Out} (ho : o.op = .alloc e) (h : Izo P k e id = some out) : Sound1 P o env m id out := by cases (show none = some _ from h)
end Go.Abs
