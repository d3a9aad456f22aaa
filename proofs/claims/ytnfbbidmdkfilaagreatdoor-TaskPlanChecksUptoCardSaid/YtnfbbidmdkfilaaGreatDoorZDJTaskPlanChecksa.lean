import Derived.Test.YtnfbbidmdkfilaaGreatDoorZDTop
namespace Go.Abs
open Go.Proofs Go.Proofs.YtnfbbidmdkfilaaGreatDoor Go.ChangeShapes Go.WideShapes Go.ChangeAt Go.RowKit
namespace taskPlanChecks
theorem azlm:laidOutB Tryz.pinned.checked.prog=true:=by kernel_rfl
theorem az1n:mapsRowed Tryz.pinned.checked.prog=true:=by kernel_rfl
theorem az8w:(Rows.taskPlanChecksUptoRow.inPlace==Tryz.pinned.checked.prog.inPlace 3)=true:=by kernel_rfl
theorem azos:(Rows.taskPlanChecksUptoRow.unfollowed==Tryz.pinned.checked.prog.unfollowed 3)=true:=by kernel_rfl
theorem azoq:(Rows.taskPlanChecksUptoRow.recurses==Tryz.pinned.checked.prog.recurses 3)=true:=by kernel_rfl
theorem azlp:(Rows.taskPlanChecksUptoRow.named==Tryz.pinned.checked.prog.varsNamed 3)=true:=by kernel_rfl
end taskPlanChecks
end Go.Abs
