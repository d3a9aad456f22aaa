/-
  JRoadmapListsa (a part of a claim: our own text).
-/
import Derived.Test.YtkjkbdobenmgbaaGreatXITop
namespace Go.Abs
open Go.Proofs Go.Proofs.YtkjkbdobenmgbaaGreat Go.ChangeShapes Go.WideShapes Go.ChangeAt Go.RowKit
namespace roadmapLists
theorem jf_laid : laidOutB Tryz.pinned.checked.prog = true := by kernel_rfl
theorem jf_mapsRowed : mapsRowed Tryz.pinned.checked.prog = true := by kernel_rfl
theorem jf_inPlace : (Rows.roadmapListsUptoRow.inPlace == Tryz.pinned.checked.prog.inPlace 5) = true := by kernel_rfl
theorem jf_unf : (Rows.roadmapListsUptoRow.unfollowed == Tryz.pinned.checked.prog.unfollowed 5) = true := by kernel_rfl
theorem jf_rec : (Rows.roadmapListsUptoRow.recurses == Tryz.pinned.checked.prog.recurses 5) = true := by kernel_rfl
theorem jf_vars : (Rows.roadmapListsUptoRow.named == Tryz.pinned.checked.prog.varsNamed 5) = true := by kernel_rfl
end roadmapLists
end Go.Abs
