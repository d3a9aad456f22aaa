/-
  JCompactUndoesa (a part of a claim: our own text).
-/
import Derived.Test.YtomogglfhepnmaaGreatXETop
namespace Go.Abs
open Go.Proofs Go.Proofs.YtomogglfhepnmaaGreat Go.ChangeShapes Go.WideShapes Go.ChangeAt Go.RowKit
namespace compactUndoes
theorem jf_laid : laidOutB Tryz.pinned.checked.prog = true := by kernel_rfl
theorem jf_mapsRowed : mapsRowed Tryz.pinned.checked.prog = true := by kernel_rfl
theorem jf_inPlace : (Rows.compactUndoesUptoRow.inPlace == Tryz.pinned.checked.prog.inPlace 5) = true := by kernel_rfl
theorem jf_unf : (Rows.compactUndoesUptoRow.unfollowed == Tryz.pinned.checked.prog.unfollowed 5) = true := by kernel_rfl
theorem jf_rec : (Rows.compactUndoesUptoRow.recurses == Tryz.pinned.checked.prog.recurses 5) = true := by kernel_rfl
theorem jf_vars : (Rows.compactUndoesUptoRow.named == Tryz.pinned.checked.prog.varsNamed 5) = true := by kernel_rfl
end compactUndoes
end Go.Abs
