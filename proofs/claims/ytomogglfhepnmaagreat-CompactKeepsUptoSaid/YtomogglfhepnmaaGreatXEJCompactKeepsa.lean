/-
  JCompactKeepsa (a part of a claim: our own text).
-/
import Derived.Test.YtomogglfhepnmaaGreatXETop
namespace Go.Abs
open Go.Proofs Go.Proofs.YtomogglfhepnmaaGreat Go.ChangeShapes Go.WideShapes Go.ChangeAt Go.RowKit
namespace compactKeeps
theorem jf_laid : laidOutB Tryz.pinned.checked.prog = true := by kernel_rfl
theorem jf_mapsRowed : mapsRowed Tryz.pinned.checked.prog = true := by kernel_rfl
theorem jf_inPlace : (Rows.compactKeepsUptoRow.inPlace == Tryz.pinned.checked.prog.inPlace 4) = true := by kernel_rfl
theorem jf_unf : (Rows.compactKeepsUptoRow.unfollowed == Tryz.pinned.checked.prog.unfollowed 4) = true := by kernel_rfl
theorem jf_rec : (Rows.compactKeepsUptoRow.recurses == Tryz.pinned.checked.prog.recurses 4) = true := by kernel_rfl
theorem jf_vars : (Rows.compactKeepsUptoRow.named == Tryz.pinned.checked.prog.varsNamed 4) = true := by kernel_rfl
end compactKeeps
end Go.Abs
