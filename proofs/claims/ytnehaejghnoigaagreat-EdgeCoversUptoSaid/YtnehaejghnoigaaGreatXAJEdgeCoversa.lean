/-
  JEdgeCoversa (a part of a claim: our own text).
-/
import Derived.Test.YtnehaejghnoigaaGreatXATop
namespace Go.Abs
open Go.Proofs Go.Proofs.YtnehaejghnoigaaGreat Go.ChangeShapes Go.WideShapes Go.ChangeAt Go.RowKit
namespace edgeCovers
theorem jf_laid : laidOutB Tryz.pinned.checked.prog = true := by kernel_rfl
theorem jf_mapsRowed : mapsRowed Tryz.pinned.checked.prog = true := by kernel_rfl
theorem jf_inPlace : (Rows.edgeCoversUptoRow.inPlace == Tryz.pinned.checked.prog.inPlace 8) = true := by kernel_rfl
theorem jf_unf : (Rows.edgeCoversUptoRow.unfollowed == Tryz.pinned.checked.prog.unfollowed 8) = true := by kernel_rfl
theorem jf_rec : (Rows.edgeCoversUptoRow.recurses == Tryz.pinned.checked.prog.recurses 8) = true := by kernel_rfl
theorem jf_vars : (Rows.edgeCoversUptoRow.named == Tryz.pinned.checked.prog.varsNamed 8) = true := by kernel_rfl
end edgeCovers
end Go.Abs
