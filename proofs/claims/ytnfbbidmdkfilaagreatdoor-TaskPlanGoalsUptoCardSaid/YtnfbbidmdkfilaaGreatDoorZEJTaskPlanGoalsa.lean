import Derived.Test.YtnfbbidmdkfilaaGreatDoorZETop
namespace Go.Abs
open Go.Proofs Go.Proofs.YtnfbbidmdkfilaaGreatDoor Go.ChangeShapes Go.WideShapes Go.ChangeAt Go.RowKit
namespace taskPlanGoals
theorem azig:laidOutB Tryz.pinned.checked.prog=true:=by kernel_rfl
theorem Zzy:mapsRowed Tryz.pinned.checked.prog=true:=by kernel_rfl
theorem az6x:(Rows.taskPlanGoalsUptoRow.inPlace==Tryz.pinned.checked.prog.inPlace 5)=true:=by kernel_rfl
theorem azlb:(Rows.taskPlanGoalsUptoRow.unfollowed==Tryz.pinned.checked.prog.unfollowed 5)=true:=by kernel_rfl
theorem azl9:(Rows.taskPlanGoalsUptoRow.recurses==Tryz.pinned.checked.prog.recurses 5)=true:=by kernel_rfl
theorem azij:(Rows.taskPlanGoalsUptoRow.named==Tryz.pinned.checked.prog.varsNamed 5)=true:=by kernel_rfl
end taskPlanGoals
end Go.Abs
