/-
  JRoadmapKeepsa (a part of a claim: our own text).
-/
import Derived.Test.YtkjkbdobenmgbaaGreatXNTop
namespace Go.Abs
open Go.Proofs Go.Proofs.YtkjkbdobenmgbaaGreat Go.ChangeShapes Go.WideShapes Go.ChangeAt Go.RowKit
namespace roadmapKeeps
theorem Izd : laidOutB Tryz.pinned.checked.prog = true := by kernel_rfl
theorem yzk : mapsRowed Tryz.pinned.checked.prog = true := by kernel_rfl
theorem Bzz : (Rows.roadmapKeepsUptoRow.inPlace == Tryz.pinned.checked.prog.inPlace 9) = true := by kernel_rfl
theorem Kz0 : (Rows.roadmapKeepsUptoRow.unfollowed == Tryz.pinned.checked.prog.unfollowed 9) = true := by kernel_rfl
theorem Jzy : (Rows.roadmapKeepsUptoRow.recurses == Tryz.pinned.checked.prog.recurses 9) = true := by kernel_rfl
theorem Izg : (Rows.roadmapKeepsUptoRow.named == Tryz.pinned.checked.prog.varsNamed 9) = true := by kernel_rfl
end roadmapKeeps
end Go.Abs
