/-
  TaskPlanIdle: for every input whose bulk is at most 2^20, the law 'armplanlaw39.TaskPlanIdle' returns true and leaves its arguments as they were.
-/
import Derived.Test.YtkbjjlfpbebiaaaGreatDoorYKTTaskPlanIdle
import Derived.Test.YtkbjjlfpbebiaaaGreatDoorYKDL5
import Derived.Test.YtkbjjlfpbebiaaaGreatDoorYKSums
namespace Go.Abs
open Go.Proofs
namespace taskPlanIdle
theorem plain (a0:(List Int))(a1:(List Int))(a2:(List Int))(h:ez9 a0+ez9 a1+ez9 a2≤1048576):(czo a0 a1 a2).o=some true:=by
 have ea0:a0.length≤(a0.map Azp).sum:=Pzt (fun _=>Nat.le_refl _) a0
 have ea1:a1.length≤(a1.map Azp).sum:=Pzt (fun _=>Nat.le_refl _) a1
 have ea2:a2.length≤(a2.map Azp).sum:=Pzt (fun _=>Nat.le_refl _) a2
 unfold ez9 at h
 exact xze a0 a1 a2 (by omega) (by omega) (by omega)
end taskPlanIdle
end Go.Abs

namespace Go.Proofs.YtkbjjlfpbebiaaaGreatDoor
theorem taskPlanIdle_holds:Rows.TaskPlanIdleUptoCardSaid:=Go.Abs.taskPlanIdle.card fun a0 a1 a2 _ _ _ h=>Go.Abs.taskPlanIdle.plain a0 a1 a2 h
end Go.Proofs.YtkbjjlfpbebiaaaGreatDoor
