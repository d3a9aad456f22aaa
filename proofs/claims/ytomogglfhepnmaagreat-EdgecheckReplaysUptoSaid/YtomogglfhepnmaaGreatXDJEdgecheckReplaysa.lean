/-
  JEdgecheckReplaysa (a part of a claim: our own text).
-/
import Derived.Test.YtomogglfhepnmaaGreatXDTop
namespace Go.Abs
open Go.Proofs Go.Proofs.YtomogglfhepnmaaGreat Go.ChangeShapes Go.WideShapes Go.ChangeAt Go.RowKit
namespace edgecheckReplays
theorem jf_laid : laidOutB Tryz.pinned.checked.prog = true := by kernel_rfl
theorem jf_mapsRowed : mapsRowed Tryz.pinned.checked.prog = true := by kernel_rfl
theorem jf_inPlace : (Rows.edgecheckReplaysUptoRow.inPlace == Tryz.pinned.checked.prog.inPlace 3) = true := by kernel_rfl
theorem jf_unf : (Rows.edgecheckReplaysUptoRow.unfollowed == Tryz.pinned.checked.prog.unfollowed 3) = true := by kernel_rfl
theorem jf_rec : (Rows.edgecheckReplaysUptoRow.recurses == Tryz.pinned.checked.prog.recurses 3) = true := by kernel_rfl
theorem jf_vars : (Rows.edgecheckReplaysUptoRow.named == Tryz.pinned.checked.prog.varsNamed 3) = true := by kernel_rfl
end edgecheckReplays
end Go.Abs
