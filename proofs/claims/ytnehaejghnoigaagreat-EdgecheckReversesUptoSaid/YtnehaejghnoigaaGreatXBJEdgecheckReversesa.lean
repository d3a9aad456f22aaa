/-
  JEdgecheckReversesa (a part of a claim: our own text).
-/
import Derived.Test.YtnehaejghnoigaaGreatXBTop
namespace Go.Abs
open Go.Proofs Go.Proofs.YtnehaejghnoigaaGreat Go.ChangeShapes Go.WideShapes Go.ChangeAt Go.RowKit
namespace edgecheckReverses
theorem jf_laid : laidOutB Tryz.pinned.checked.prog = true := by kernel_rfl
theorem jf_mapsRowed : mapsRowed Tryz.pinned.checked.prog = true := by kernel_rfl
theorem jf_inPlace : (Rows.edgecheckReversesUptoRow.inPlace == Tryz.pinned.checked.prog.inPlace 12) = true := by kernel_rfl
theorem jf_unf : (Rows.edgecheckReversesUptoRow.unfollowed == Tryz.pinned.checked.prog.unfollowed 12) = true := by kernel_rfl
theorem jf_rec : (Rows.edgecheckReversesUptoRow.recurses == Tryz.pinned.checked.prog.recurses 12) = true := by kernel_rfl
theorem jf_vars : (Rows.edgecheckReversesUptoRow.named == Tryz.pinned.checked.prog.varsNamed 12) = true := by kernel_rfl
end edgecheckReverses
end Go.Abs
