/-
  JTaskPlanIdlea (a part of a claim: our own text).
-/
import Derived.Test.YtkbjjlfpbebiaaaGreatDoorYKTop
namespace Go.Abs
open Go.Proofs Go.Proofs.YtkbjjlfpbebiaaaGreatDoor Go.ChangeShapes Go.WideShapes Go.ChangeAt Go.RowKit
namespace taskPlanIdle
theorem Tzq:laidOutB Tryz.pinned.checked.prog=true:=by kernel_rfl
theorem Jz9:mapsRowed Tryz.pinned.checked.prog=true:=by kernel_rfl
theorem Nz7:(Rows.taskPlanIdleUptoRow.inPlace==Tryz.pinned.checked.prog.inPlace 4)=true:=by kernel_rfl
theorem Vz3:(Rows.taskPlanIdleUptoRow.unfollowed==Tryz.pinned.checked.prog.unfollowed 4)=true:=by kernel_rfl
theorem Vz1:(Rows.taskPlanIdleUptoRow.recurses==Tryz.pinned.checked.prog.recurses 4)=true:=by kernel_rfl
theorem Tzt:(Rows.taskPlanIdleUptoRow.named==Tryz.pinned.checked.prog.varsNamed 4)=true:=by kernel_rfl
end taskPlanIdle
end Go.Abs
