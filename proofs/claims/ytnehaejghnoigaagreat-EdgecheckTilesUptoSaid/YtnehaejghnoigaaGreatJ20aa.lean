/-
  The closed facts of the row of edgecheckTiles, limb by limb (printed by jf.py).
-/
import Derived.Test.YtnehaejghnoigaaGreatTop
namespace Go.Abs
open Go.Proofs Go.Proofs.YtnehaejghnoigaaGreat Go.ChangeShapes Go.WideShapes Go.ChangeAt Go.RowKit
namespace edgecheckTiles
theorem jf_laid : laidOutB Tryz.pinned.checked.prog = true := by kernel_rfl
theorem jf_mapsRowed : mapsRowed Tryz.pinned.checked.prog = true := by kernel_rfl
theorem jf_inPlace : (Rows.edgecheckTilesUptoRow.inPlace == Tryz.pinned.checked.prog.inPlace 3) = true := by kernel_rfl
theorem jf_unf : (Rows.edgecheckTilesUptoRow.unfollowed == Tryz.pinned.checked.prog.unfollowed 3) = true := by kernel_rfl
theorem jf_rec : (Rows.edgecheckTilesUptoRow.recurses == Tryz.pinned.checked.prog.recurses 3) = true := by kernel_rfl
theorem jf_vars : (Rows.edgecheckTilesUptoRow.named == Tryz.pinned.checked.prog.varsNamed 3) = true := by kernel_rfl
end edgecheckTiles
end Go.Abs
