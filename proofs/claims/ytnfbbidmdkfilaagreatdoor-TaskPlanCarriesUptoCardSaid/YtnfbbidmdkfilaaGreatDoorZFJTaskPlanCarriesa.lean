import Derived.Test.YtnfbbidmdkfilaaGreatDoorZFTop
namespace Go.Abs
open Go.Proofs Go.Proofs.YtnfbbidmdkfilaaGreatDoor Go.ChangeShapes Go.WideShapes Go.ChangeAt Go.RowKit
namespace taskPlanCarries
theorem azjv:laidOutB Tryz.pinned.checked.prog=true:=by kernel_rfl
theorem az12:mapsRowed Tryz.pinned.checked.prog=true:=by kernel_rfl
theorem az7x:(Rows.taskPlanCarriesUptoRow.inPlace==Tryz.pinned.checked.prog.inPlace 4)=true:=by kernel_rfl
theorem azmu:(Rows.taskPlanCarriesUptoRow.unfollowed==Tryz.pinned.checked.prog.unfollowed 4)=true:=by kernel_rfl
theorem azms:(Rows.taskPlanCarriesUptoRow.recurses==Tryz.pinned.checked.prog.recurses 4)=true:=by kernel_rfl
theorem azjy:(Rows.taskPlanCarriesUptoRow.named==Tryz.pinned.checked.prog.varsNamed 4)=true:=by kernel_rfl
end taskPlanCarries
end Go.Abs
