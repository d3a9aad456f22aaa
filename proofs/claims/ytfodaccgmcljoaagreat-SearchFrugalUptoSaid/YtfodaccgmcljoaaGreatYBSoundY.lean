/-
 SoundY (a part of a claim: our own text).
-/
import Derived.Test.YtfodaccgmcljoaaGreatYBSoundX
namespace Go.Abs
variable {P : Program} {o : Oper} {env : Operand -> AVal} {m : Mem} {id : Nat}
theorem Pzp {t : TypeId} {x : Operand} {lo hi mx : Option Operand} {out : Out} (ho : o.op = .slice t x lo hi mx)
 (h : Jzd P t (env x) (lo.map env) (hi.map env) (mx.map env) = some out) (hob : holds out.obl) : Sound1 P o env m id out := by cases (show none = some _ from h)
theorem Nze {s x : Operand} {ts : Array TypeId} {out : Out} (ho : o.op = .call { callee := .builtin .append, args := #[s, x], argTypes := ts })
 (hts : ∀ t, ts[0]? = some t -> ts[1]? = some t -> ts = #[t, t]) (h : Fze P ts id (env s) (env x) m = some out) (hob : holds out.obl) : Sound1 P o env m id out := by cases (show none = some _ from h)
end Go.Abs
