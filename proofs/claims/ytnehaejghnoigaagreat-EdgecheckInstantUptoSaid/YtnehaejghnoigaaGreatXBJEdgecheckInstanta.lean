/-
  JEdgecheckInstanta (a part of a claim: our own text).
-/
import Derived.Test.YtnehaejghnoigaaGreatXBTop
namespace Go.Abs
open Go.Proofs Go.Proofs.YtnehaejghnoigaaGreat Go.ChangeShapes Go.WideShapes Go.ChangeAt Go.RowKit
namespace edgecheckInstant
theorem jf_laid : laidOutB Tryz.pinned.checked.prog = true := by kernel_rfl
theorem jf_mapsRowed : mapsRowed Tryz.pinned.checked.prog = true := by kernel_rfl
theorem jf_inPlace : (Rows.edgecheckInstantUptoRow.inPlace == Tryz.pinned.checked.prog.inPlace 13) = true := by kernel_rfl
theorem jf_unf : (Rows.edgecheckInstantUptoRow.unfollowed == Tryz.pinned.checked.prog.unfollowed 13) = true := by kernel_rfl
theorem jf_rec : (Rows.edgecheckInstantUptoRow.recurses == Tryz.pinned.checked.prog.recurses 13) = true := by kernel_rfl
theorem jf_vars : (Rows.edgecheckInstantUptoRow.named == Tryz.pinned.checked.prog.varsNamed 13) = true := by kernel_rfl
end edgecheckInstant
end Go.Abs
