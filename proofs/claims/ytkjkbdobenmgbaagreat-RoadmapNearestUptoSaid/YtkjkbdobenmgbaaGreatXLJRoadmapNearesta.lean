/-
  JRoadmapNearesta (a part of a claim: our own text).
-/
import Derived.Test.YtkjkbdobenmgbaaGreatXLTop
namespace Go.Abs
open Go.Proofs Go.Proofs.YtkjkbdobenmgbaaGreat Go.ChangeShapes Go.WideShapes Go.ChangeAt Go.RowKit
namespace roadmapNearest
theorem jf_laid : laidOutB Tryz.pinned.checked.prog = true := by kernel_rfl
theorem jf_mapsRowed : mapsRowed Tryz.pinned.checked.prog = true := by kernel_rfl
theorem jf_inPlace : (Rows.roadmapNearestUptoRow.inPlace == Tryz.pinned.checked.prog.inPlace 7) = true := by kernel_rfl
theorem jf_unf : (Rows.roadmapNearestUptoRow.unfollowed == Tryz.pinned.checked.prog.unfollowed 7) = true := by kernel_rfl
theorem jf_rec : (Rows.roadmapNearestUptoRow.recurses == Tryz.pinned.checked.prog.recurses 7) = true := by kernel_rfl
theorem jf_vars : (Rows.roadmapNearestUptoRow.named == Tryz.pinned.checked.prog.varsNamed 7) = true := by kernel_rfl
end roadmapNearest
end Go.Abs
