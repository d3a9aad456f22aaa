/-
  JRoadmapAddsa (a part of a claim: our own text).
-/
import Derived.Test.YtkjkbdobenmgbaaGreatXMTop
namespace Go.Abs
open Go.Proofs Go.Proofs.YtkjkbdobenmgbaaGreat Go.ChangeShapes Go.WideShapes Go.ChangeAt Go.RowKit
namespace roadmapAdds
theorem Jzw : laidOutB Tryz.pinned.checked.prog = true := by kernel_rfl
theorem zz5 : mapsRowed Tryz.pinned.checked.prog = true := by kernel_rfl
theorem Czp : (Rows.roadmapAddsUptoRow.inPlace == Tryz.pinned.checked.prog.inPlace 8) = true := by kernel_rfl
theorem Lzu : (Rows.roadmapAddsUptoRow.unfollowed == Tryz.pinned.checked.prog.unfollowed 8) = true := by kernel_rfl
theorem Lzs : (Rows.roadmapAddsUptoRow.recurses == Tryz.pinned.checked.prog.recurses 8) = true := by kernel_rfl
theorem Jzz : (Rows.roadmapAddsUptoRow.named == Tryz.pinned.checked.prog.varsNamed 8) = true := by kernel_rfl
end roadmapAdds
end Go.Abs
