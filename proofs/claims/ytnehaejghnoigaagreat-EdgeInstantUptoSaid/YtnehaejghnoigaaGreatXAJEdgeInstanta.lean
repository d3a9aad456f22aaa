/-
  JEdgeInstanta (a part of a claim: our own text).
-/
import Derived.Test.YtnehaejghnoigaaGreatXATop
namespace Go.Abs
open Go.Proofs Go.Proofs.YtnehaejghnoigaaGreat Go.ChangeShapes Go.WideShapes Go.ChangeAt Go.RowKit
namespace edgeInstant
theorem jf_laid : laidOutB Tryz.pinned.checked.prog = true := by kernel_rfl
theorem jf_mapsRowed : mapsRowed Tryz.pinned.checked.prog = true := by kernel_rfl
theorem jf_inPlace : (Rows.edgeInstantUptoRow.inPlace == Tryz.pinned.checked.prog.inPlace 10) = true := by kernel_rfl
theorem jf_unf : (Rows.edgeInstantUptoRow.unfollowed == Tryz.pinned.checked.prog.unfollowed 10) = true := by kernel_rfl
theorem jf_rec : (Rows.edgeInstantUptoRow.recurses == Tryz.pinned.checked.prog.recurses 10) = true := by kernel_rfl
theorem jf_vars : (Rows.edgeInstantUptoRow.named == Tryz.pinned.checked.prog.varsNamed 10) = true := by kernel_rfl
end edgeInstant
end Go.Abs
