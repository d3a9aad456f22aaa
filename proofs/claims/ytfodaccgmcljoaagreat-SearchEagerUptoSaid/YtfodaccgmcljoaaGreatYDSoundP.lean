/-
  SoundP (a part of a claim: our own text).
-/
import Derived.Test.YtfodaccgmcljoaaGreatYDSoundJ
import Derived.MapKept
namespace Go.Abs
variable {P:Program} {o:Oper} {env:Operand->AVal} {m:Mem} {id:Nat} {F:Cells} {w:World} {ρ:Env}
theorem az71 {t:TypeId}{x ix:Operand}{ok:Bool}{out:Out}(ho:o.op=.lookup t x ix ok)(h:Uz7 P t (env x) (env ix) ok m=some out)(hob:holds out.obl):Sound1 P o env m id out:=by cases (show none=some _ from h)
theorem az4s {t:TypeId}{x ix y:Operand}{out:Out}(ho:o.op=.mapUpdate t x ix y\/o.op=.insert t x ix y)(h:Azt P t (env x) (env ix) (env y) m=some out):Sound1 P o env m id out:=by cases (show none=some _ from h)
theorem Zz8 {t:TypeId}{out:Out}(ho:o.op=.makeMap t none)(h:Pzi P t id=some out):Sound1 P o env m id out:=by cases (show none=some _ from h)
end Go.Abs
