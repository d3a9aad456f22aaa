/-
  JEdgecheckExclusivea (a part of a claim: our own text).
-/
import Derived.Test.YtnehaejghnoigaaGreatXGTop
namespace Go.Abs
open Go.Proofs Go.Proofs.YtnehaejghnoigaaGreat Go.ChangeShapes Go.WideShapes Go.ChangeAt Go.RowKit
namespace edgecheckExclusive
theorem jf_laid : laidOutB Tryz.pinned.checked.prog = true := by kernel_rfl
theorem jf_mapsRowed : mapsRowed Tryz.pinned.checked.prog = true := by kernel_rfl
theorem jf_inPlace : (Rows.edgecheckExclusiveUptoRow.inPlace == Tryz.pinned.checked.prog.inPlace 14) = true := by kernel_rfl
theorem jf_unf : (Rows.edgecheckExclusiveUptoRow.unfollowed == Tryz.pinned.checked.prog.unfollowed 14) = true := by kernel_rfl
theorem jf_rec : (Rows.edgecheckExclusiveUptoRow.recurses == Tryz.pinned.checked.prog.recurses 14) = true := by kernel_rfl
theorem jf_vars : (Rows.edgecheckExclusiveUptoRow.named == Tryz.pinned.checked.prog.varsNamed 14) = true := by kernel_rfl
end edgecheckExclusive
end Go.Abs
