/-
  SoundP (a part of a claim: our own text).
-/
import Derived.Test.YtfodaccgmcljoaaGreatYASoundJ
import Derived.MapKept
namespace Go.Abs
variable {P : Program} {o : Oper} {env : Operand → AVal} {m : Mem} {id : Nat} {F : Cells} {w : World} {ρ : Env}
theorem Tzp {t : TypeId} {x ix : Operand} {ok : Bool} {out : Out} (ho : o.op = .lookup t x ix ok) (h : Izp P t (env x) (env ix) ok m = some out) (hob : holds out.obl) : Sound1 P o env m id out := by cases (show none = some _ from h)
theorem Rzs {t : TypeId} {x ix y : Operand} {out : Out} (ho : o.op = .mapUpdate t x ix y ∨ o.op = .insert t x ix y) (h : uze P t (env x) (env ix) (env y) m = some out) : Sound1 P o env m id out := by cases (show none = some _ from h)
theorem Mzp {t : TypeId} {out : Out} (ho : o.op = .makeMap t none) (h : Fz0 P t id = some out) : Sound1 P o env m id out := by cases (show none = some _ from h)
end Go.Abs
