/-
  The closed facts of the row of edgeDeeper, limb by limb (printed by jf.py).
-/
import Derived.Test.YtnehaejghnoigaaGreatTop
namespace Go.Abs
open Go.Proofs Go.Proofs.YtnehaejghnoigaaGreat Go.ChangeShapes Go.WideShapes Go.ChangeAt Go.RowKit
namespace edgeDeeper
theorem jf_laid : laidOutB Tryz.pinned.checked.prog = true := by kernel_rfl
theorem jf_mapsRowed : mapsRowed Tryz.pinned.checked.prog = true := by kernel_rfl
theorem jf_inPlace : (Rows.edgeDeeperUptoRow.inPlace == Tryz.pinned.checked.prog.inPlace 7) = true := by kernel_rfl
theorem jf_unf : (Rows.edgeDeeperUptoRow.unfollowed == Tryz.pinned.checked.prog.unfollowed 7) = true := by kernel_rfl
theorem jf_rec : (Rows.edgeDeeperUptoRow.recurses == Tryz.pinned.checked.prog.recurses 7) = true := by kernel_rfl
theorem jf_vars : (Rows.edgeDeeperUptoRow.named == Tryz.pinned.checked.prog.varsNamed 7) = true := by kernel_rfl
end edgeDeeper
end Go.Abs
