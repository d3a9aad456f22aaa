/-
  JRoadmapNesteda (a part of a claim: our own text).
-/
import Derived.Test.YtkjkbdobenmgbaaGreatXITop
namespace Go.Abs
open Go.Proofs Go.Proofs.YtkjkbdobenmgbaaGreat Go.ChangeShapes Go.WideShapes Go.ChangeAt Go.RowKit
namespace roadmapNested
theorem jf_laid : laidOutB Tryz.pinned.checked.prog = true := by kernel_rfl
theorem jf_mapsRowed : mapsRowed Tryz.pinned.checked.prog = true := by kernel_rfl
theorem jf_inPlace : (Rows.roadmapNestedUptoRow.inPlace == Tryz.pinned.checked.prog.inPlace 6) = true := by kernel_rfl
theorem jf_unf : (Rows.roadmapNestedUptoRow.unfollowed == Tryz.pinned.checked.prog.unfollowed 6) = true := by kernel_rfl
theorem jf_rec : (Rows.roadmapNestedUptoRow.recurses == Tryz.pinned.checked.prog.recurses 6) = true := by kernel_rfl
theorem jf_vars : (Rows.roadmapNestedUptoRow.named == Tryz.pinned.checked.prog.varsNamed 6) = true := by kernel_rfl
end roadmapNested
end Go.Abs
