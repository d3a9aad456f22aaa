/-
  JTaskPlanReadya (a part of a claim: our own text).
-/
import Derived.Test.YtlmicknhpllbdaaGreatDoorYMTop
namespace Go.Abs
open Go.Proofs Go.Proofs.YtlmicknhpllbdaaGreatDoor Go.ChangeShapes Go.WideShapes Go.ChangeAt Go.RowKit
namespace taskPlanReady
theorem azdn:laidOutB Tryz.pinned.checked.prog=true:=by kernel_rfl
theorem Yz5:mapsRowed Tryz.pinned.checked.prog=true:=by kernel_rfl
theorem az3y:(Rows.taskPlanReadyUptoRow.inPlace==Tryz.pinned.checked.prog.inPlace 4)=true:=by kernel_rfl
theorem azfz:(Rows.taskPlanReadyUptoRow.unfollowed==Tryz.pinned.checked.prog.unfollowed 4)=true:=by kernel_rfl
theorem azfx:(Rows.taskPlanReadyUptoRow.recurses==Tryz.pinned.checked.prog.recurses 4)=true:=by kernel_rfl
theorem azdq:(Rows.taskPlanReadyUptoRow.named==Tryz.pinned.checked.prog.varsNamed 4)=true:=by kernel_rfl
end taskPlanReady
end Go.Abs
