/-
  JPathJoinsa (a part of a claim: our own text).
-/
import Derived.Test.YtomogglfhepnmaaGreatXHTop
namespace Go.Abs
open Go.Proofs Go.Proofs.YtomogglfhepnmaaGreat Go.ChangeShapes Go.WideShapes Go.ChangeAt Go.RowKit
namespace pathJoins
theorem jf_laid : laidOutB Tryz.pinned.checked.prog = true := by kernel_rfl
theorem jf_mapsRowed : mapsRowed Tryz.pinned.checked.prog = true := by kernel_rfl
theorem jf_inPlace : (Rows.pathJoinsUptoRow.inPlace == Tryz.pinned.checked.prog.inPlace 10) = true := by kernel_rfl
theorem jf_unf : (Rows.pathJoinsUptoRow.unfollowed == Tryz.pinned.checked.prog.unfollowed 10) = true := by kernel_rfl
theorem jf_rec : (Rows.pathJoinsUptoRow.recurses == Tryz.pinned.checked.prog.recurses 10) = true := by kernel_rfl
theorem jf_vars : (Rows.pathJoinsUptoRow.named == Tryz.pinned.checked.prog.varsNamed 10) = true := by kernel_rfl
end pathJoins
end Go.Abs
