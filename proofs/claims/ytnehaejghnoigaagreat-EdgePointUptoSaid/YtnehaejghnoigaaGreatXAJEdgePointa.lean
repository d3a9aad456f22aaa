/-
  JEdgePointa (a part of a claim: our own text).
-/
import Derived.Test.YtnehaejghnoigaaGreatXATop
namespace Go.Abs
open Go.Proofs Go.Proofs.YtnehaejghnoigaaGreat Go.ChangeShapes Go.WideShapes Go.ChangeAt Go.RowKit
namespace edgePoint
theorem jf_laid : laidOutB Tryz.pinned.checked.prog = true := by kernel_rfl
theorem jf_mapsRowed : mapsRowed Tryz.pinned.checked.prog = true := by kernel_rfl
theorem jf_inPlace : (Rows.edgePointUptoRow.inPlace == Tryz.pinned.checked.prog.inPlace 9) = true := by kernel_rfl
theorem jf_unf : (Rows.edgePointUptoRow.unfollowed == Tryz.pinned.checked.prog.unfollowed 9) = true := by kernel_rfl
theorem jf_rec : (Rows.edgePointUptoRow.recurses == Tryz.pinned.checked.prog.recurses 9) = true := by kernel_rfl
theorem jf_vars : (Rows.edgePointUptoRow.named == Tryz.pinned.checked.prog.varsNamed 9) = true := by kernel_rfl
end edgePoint
end Go.Abs
