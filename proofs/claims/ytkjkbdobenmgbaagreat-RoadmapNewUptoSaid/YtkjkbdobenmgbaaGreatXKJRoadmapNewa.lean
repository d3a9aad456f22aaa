/-
  JRoadmapNewa (a part of a claim: our own text).
-/
import Derived.Test.YtkjkbdobenmgbaaGreatXKTop
namespace Go.Abs
open Go.Proofs Go.Proofs.YtkjkbdobenmgbaaGreat Go.ChangeShapes Go.WideShapes Go.ChangeAt Go.RowKit
namespace roadmapNew
theorem jf_laid : laidOutB Tryz.pinned.checked.prog = true := by kernel_rfl
theorem jf_mapsRowed : mapsRowed Tryz.pinned.checked.prog = true := by kernel_rfl
theorem jf_inPlace : (Rows.roadmapNewUptoRow.inPlace == Tryz.pinned.checked.prog.inPlace 4) = true := by kernel_rfl
theorem jf_unf : (Rows.roadmapNewUptoRow.unfollowed == Tryz.pinned.checked.prog.unfollowed 4) = true := by kernel_rfl
theorem jf_rec : (Rows.roadmapNewUptoRow.recurses == Tryz.pinned.checked.prog.recurses 4) = true := by kernel_rfl
theorem jf_vars : (Rows.roadmapNewUptoRow.named == Tryz.pinned.checked.prog.varsNamed 4) = true := by kernel_rfl
end roadmapNew
end Go.Abs
