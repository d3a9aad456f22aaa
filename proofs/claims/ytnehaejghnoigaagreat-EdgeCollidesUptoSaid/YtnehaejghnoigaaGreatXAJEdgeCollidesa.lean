/-
  JEdgeCollidesa (a part of a claim: our own text).
-/
import Derived.Test.YtnehaejghnoigaaGreatXATop
namespace Go.Abs
open Go.Proofs Go.Proofs.YtnehaejghnoigaaGreat Go.ChangeShapes Go.WideShapes Go.ChangeAt Go.RowKit
namespace edgeCollides
theorem jf_laid : laidOutB Tryz.pinned.checked.prog = true := by kernel_rfl
theorem jf_mapsRowed : mapsRowed Tryz.pinned.checked.prog = true := by kernel_rfl
theorem jf_inPlace : (Rows.edgeCollidesUptoRow.inPlace == Tryz.pinned.checked.prog.inPlace 11) = true := by kernel_rfl
theorem jf_unf : (Rows.edgeCollidesUptoRow.unfollowed == Tryz.pinned.checked.prog.unfollowed 11) = true := by kernel_rfl
theorem jf_rec : (Rows.edgeCollidesUptoRow.recurses == Tryz.pinned.checked.prog.recurses 11) = true := by kernel_rfl
theorem jf_vars : (Rows.edgeCollidesUptoRow.named == Tryz.pinned.checked.prog.varsNamed 11) = true := by kernel_rfl
end edgeCollides
end Go.Abs
