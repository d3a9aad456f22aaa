/-
  JPathStaysa (a part of a claim: our own text).
-/
import Derived.Test.YtomogglfhepnmaaGreatXFTop
namespace Go.Abs
open Go.Proofs Go.Proofs.YtomogglfhepnmaaGreat Go.ChangeShapes Go.WideShapes Go.ChangeAt Go.RowKit
namespace pathStays
theorem Hzu : laidOutB Tryz.pinned.checked.prog = true := by kernel_rfl
theorem rzp : mapsRowed Tryz.pinned.checked.prog = true := by kernel_rfl
theorem xz9 : (Rows.pathStaysUptoRow.inPlace == Tryz.pinned.checked.prog.inPlace 7) = true := by kernel_rfl
theorem Mzc : (Rows.pathStaysUptoRow.unfollowed == Tryz.pinned.checked.prog.unfollowed 7) = true := by kernel_rfl
theorem Mza : (Rows.pathStaysUptoRow.recurses == Tryz.pinned.checked.prog.recurses 7) = true := by kernel_rfl
theorem Hzx : (Rows.pathStaysUptoRow.named == Tryz.pinned.checked.prog.varsNamed 7) = true := by kernel_rfl
end pathStays
end Go.Abs
