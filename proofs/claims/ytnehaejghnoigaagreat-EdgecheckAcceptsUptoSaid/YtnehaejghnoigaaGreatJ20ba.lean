/-
  The closed facts of the row of edgecheckAccepts, limb by limb (printed by jf.py).
-/
import Derived.Test.YtnehaejghnoigaaGreatTop
namespace Go.Abs
open Go.Proofs Go.Proofs.YtnehaejghnoigaaGreat Go.ChangeShapes Go.WideShapes Go.ChangeAt Go.RowKit
namespace edgecheckAccepts
theorem jf_laid : laidOutB Tryz.pinned.checked.prog = true := by kernel_rfl
theorem jf_mapsRowed : mapsRowed Tryz.pinned.checked.prog = true := by kernel_rfl
theorem jf_inPlace : (Rows.edgecheckAcceptsUptoRow.inPlace == Tryz.pinned.checked.prog.inPlace 4) = true := by kernel_rfl
theorem jf_unf : (Rows.edgecheckAcceptsUptoRow.unfollowed == Tryz.pinned.checked.prog.unfollowed 4) = true := by kernel_rfl
theorem jf_rec : (Rows.edgecheckAcceptsUptoRow.recurses == Tryz.pinned.checked.prog.recurses 4) = true := by kernel_rfl
theorem jf_vars : (Rows.edgecheckAcceptsUptoRow.named == Tryz.pinned.checked.prog.varsNamed 4) = true := by kernel_rfl
end edgecheckAccepts
end Go.Abs
