/-
  The closed facts of the row of compactMerges, limb by limb (printed by jf.py).
-/
import Derived.Test.YtnehaejghnoigaaGreatTop
namespace Go.Abs
open Go.Proofs Go.Proofs.YtnehaejghnoigaaGreat Go.ChangeShapes Go.WideShapes Go.ChangeAt Go.RowKit
namespace compactMerges
theorem jf_laid : laidOutB Tryz.pinned.checked.prog = true := by kernel_rfl
theorem jf_mapsRowed : mapsRowed Tryz.pinned.checked.prog = true := by kernel_rfl
theorem jf_inPlace : (Rows.compactMergesUptoRow.inPlace == Tryz.pinned.checked.prog.inPlace 5) = true := by kernel_rfl
theorem jf_unf : (Rows.compactMergesUptoRow.unfollowed == Tryz.pinned.checked.prog.unfollowed 5) = true := by kernel_rfl
theorem jf_rec : (Rows.compactMergesUptoRow.recurses == Tryz.pinned.checked.prog.recurses 5) = true := by kernel_rfl
theorem jf_vars : (Rows.compactMergesUptoRow.named == Tryz.pinned.checked.prog.varsNamed 5) = true := by kernel_rfl
end compactMerges
end Go.Abs
