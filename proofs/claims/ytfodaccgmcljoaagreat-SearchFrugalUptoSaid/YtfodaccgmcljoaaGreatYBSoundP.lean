/-
 SoundP (a part of a claim: our own text).
-/
import Derived.Test.YtfodaccgmcljoaaGreatYBSoundJ
import Derived.MapKept
namespace Go.Abs
variable {P : Program} {o : Oper} {env : Operand -> AVal} {m : Mem} {id : Nat} {F : Cells} {w : World} {ρ : Env}
theorem Uzi {t : TypeId} {x ix : Operand} {ok : Bool} {out : Out} (ho : o.op = .lookup t x ix ok) (h : Jzb P t (env x) (env ix) ok m = some out) (hob : holds out.obl) : Sound1 P o env m id out := by cases (show none = some _ from h)
theorem Szl {t : TypeId} {x ix y : Operand} {out : Out} (ho : o.op = .mapUpdate t x ix y \/ o.op = .insert t x ix y) (h : uzp P t (env x) (env ix) (env y) m = some out) : Sound1 P o env m id out := by cases (show none = some _ from h)
theorem Nzh {t : TypeId} {out : Out} (ho : o.op = .makeMap t none) (h : Fzf P t id = some out) : Sound1 P o env m id out := by cases (show none = some _ from h)
end Go.Abs
