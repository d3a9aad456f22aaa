/-
 SoundX (a part of a claim: our own text).
-/
import Derived.Test.YtfodaccgmcljoaaGreatYBSoundT
namespace Go.Abs
variable {P : Program} {o : Oper} {env : Operand -> AVal} {m : Mem} {id : Nat}
theorem Nzj {t : TypeId} {x y : Operand} {out : Out} (ho : o.op = .store t x y) (h : Fzh P t (env x) (env y) m = some out) (hob : holds out.obl) : Sound1 P o env m id out := by cases (show none = some _ from h)
theorem Ezk {t : TypeId} {len : Nat} {parts : Array (Nat × Operand)} {out : Out} (ho : o.op = .buildSlice t len parts) (h : vzn P t len id env m parts.toList = some out) : Sound1 P o env m id out := by cases (show none = some _ from h)
theorem Pzh {e : TypeId} {k : Nat} {out : Out} (ho : o.op = .alloc e) (h : Jza P k e id = some out) : Sound1 P o env m id out := by cases (show none = some _ from h)
end Go.Abs
