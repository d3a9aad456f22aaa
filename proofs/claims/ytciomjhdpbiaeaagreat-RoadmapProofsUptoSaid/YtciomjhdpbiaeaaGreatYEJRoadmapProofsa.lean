/-
  JRoadmapProofsa (a part of a claim: our own text).
-/
import Derived.Test.YtciomjhdpbiaeaaGreatYETop
namespace Go.Abs
open Go.Proofs Go.Proofs.YtciomjhdpbiaeaaGreat Go.ChangeShapes Go.WideShapes Go.ChangeAt Go.RowKit
namespace roadmapProofs
theorem az13:laidOutB Tryz.pinned.checked.prog=true:=by kernel_rfl
theorem Ozl:mapsRowed Tryz.pinned.checked.prog=true:=by kernel_rfl
theorem Tzc:(Rows.roadmapProofsUptoRow.inPlace==Tryz.pinned.checked.prog.inPlace 3)=true:=by kernel_rfl
theorem az2y:(Rows.roadmapProofsUptoRow.unfollowed==Tryz.pinned.checked.prog.unfollowed 3)=true:=by kernel_rfl
theorem az2w:(Rows.roadmapProofsUptoRow.recurses==Tryz.pinned.checked.prog.recurses 3)=true:=by kernel_rfl
theorem az16:(Rows.roadmapProofsUptoRow.named==Tryz.pinned.checked.prog.varsNamed 3)=true:=by kernel_rfl
end roadmapProofs
end Go.Abs
