/-
  JRoadmapValida (a part of a claim: our own text).
-/
import Derived.Test.YtkjkbdobenmgbaaGreatXJTop
namespace Go.Abs
open Go.Proofs Go.Proofs.YtkjkbdobenmgbaaGreat Go.ChangeShapes Go.WideShapes Go.ChangeAt Go.RowKit
namespace roadmapValid
theorem jf_laid : laidOutB Tryz.pinned.checked.prog = true := by kernel_rfl
theorem jf_mapsRowed : mapsRowed Tryz.pinned.checked.prog = true := by kernel_rfl
theorem jf_inPlace : (Rows.roadmapValidUptoRow.inPlace == Tryz.pinned.checked.prog.inPlace 3) = true := by kernel_rfl
theorem jf_unf : (Rows.roadmapValidUptoRow.unfollowed == Tryz.pinned.checked.prog.unfollowed 3) = true := by kernel_rfl
theorem jf_rec : (Rows.roadmapValidUptoRow.recurses == Tryz.pinned.checked.prog.recurses 3) = true := by kernel_rfl
theorem jf_vars : (Rows.roadmapValidUptoRow.named == Tryz.pinned.checked.prog.varsNamed 3) = true := by kernel_rfl
end roadmapValid
end Go.Abs
