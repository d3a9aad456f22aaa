/-
  JPathBuildsa (a part of a claim: our own text).
-/
import Derived.Test.YtlalffdgimbodaaGreatYFTop
namespace Go.Abs
open Go.Proofs Go.Proofs.YtlalffdgimbodaaGreat Go.ChangeShapes Go.WideShapes Go.ChangeAt Go.RowKit
namespace pathBuilds
theorem az1p:laidOutB Tryz.pinned.checked.prog=true:=by kernel_rfl
theorem Oz5:mapsRowed Tryz.pinned.checked.prog=true:=by kernel_rfl
theorem Tzf:(Rows.pathBuildsUptoRow.inPlace==Tryz.pinned.checked.prog.inPlace 3)=true:=by kernel_rfl
theorem az3r:(Rows.pathBuildsUptoRow.unfollowed==Tryz.pinned.checked.prog.unfollowed 3)=true:=by kernel_rfl
theorem az3p:(Rows.pathBuildsUptoRow.recurses==Tryz.pinned.checked.prog.recurses 3)=true:=by kernel_rfl
theorem az1s:(Rows.pathBuildsUptoRow.named==Tryz.pinned.checked.prog.varsNamed 3)=true:=by kernel_rfl
end pathBuilds
end Go.Abs
