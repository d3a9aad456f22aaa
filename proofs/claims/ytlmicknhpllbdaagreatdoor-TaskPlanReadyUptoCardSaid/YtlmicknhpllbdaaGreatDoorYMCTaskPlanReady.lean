/-
  TaskPlanReady: for every input whose bulk is at most 2^20, the law 'armplanlaw39.TaskPlanReady' returns true and leaves its arguments as they were.
-/
import Derived.Test.YtlmicknhpllbdaaGreatDoorYMTTaskPlanReady
import Derived.Test.YtlmicknhpllbdaaGreatDoorYMDL3
import Derived.Test.YtlmicknhpllbdaaGreatDoorYMSums
namespace Go.Abs
open Go.Proofs
namespace taskPlanReady
theorem plain (a0:az1)(a1:azg)(a2:az6)(a3:Int)(a4:(List Int))(a5:(List Int))(a6:Int)(h:wzq a0+Czo a1+Czp a2+ez3 a3+izg a4+izg a5+ez3 a6≤1048576):(czh a0 a1 a2 a3 a4 a5 a6).o=some true:=by
 have ea4:a4.length≤(a4.map ez3).sum:=az83 (fun _=>Nat.le_refl _) a4
 have ea5:a5.length≤(a5.map ez3).sum:=az83 (fun _=>Nat.le_refl _) a5
 have eo:∀o∈a0.Objects,o.Shapes.length≤(a0.Objects.map Czq).sum:=fun o ho=>by
  have h1:=azex (f:=Czq) ho
  have h2:o.Shapes.length≤(o.Shapes.map Gz3).sum:=az83 (fun _=>by unfold Gz3;omega) o.Shapes
  unfold Czq Gz4 at h1
  unfold Czq Gz4
  omega
 unfold izg wzq Uz6 at h
 exact Izq a0 a1 a2 a3 a4 a5 a6 (fun o ho=>by have:=eo o ho;omega) (by omega) (by omega)
end taskPlanReady
end Go.Abs

namespace Go.Proofs.YtlmicknhpllbdaaGreatDoor
theorem taskPlanReady_holds:Rows.TaskPlanReadyUptoCardSaid:=Go.Abs.taskPlanReady.card fun a0 a1 a2 a3 a4 a5 a6 _ _ _ _ _ _ _ h=>Go.Abs.taskPlanReady.plain a0 a1 a2 a3 a4 a5 a6 h
end Go.Proofs.YtlmicknhpllbdaaGreatDoor
