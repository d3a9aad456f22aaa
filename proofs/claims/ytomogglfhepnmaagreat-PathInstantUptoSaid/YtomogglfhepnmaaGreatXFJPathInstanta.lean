/-
  JPathInstanta (a part of a claim: our own text).
-/
import Derived.Test.YtomogglfhepnmaaGreatXFTop
namespace Go.Abs
open Go.Proofs Go.Proofs.YtomogglfhepnmaaGreat Go.ChangeShapes Go.WideShapes Go.ChangeAt Go.RowKit
namespace pathInstant
theorem Hzu : laidOutB Tryz.pinned.checked.prog = true := by kernel_rfl
theorem rzp : mapsRowed Tryz.pinned.checked.prog = true := by kernel_rfl
theorem xz9 : (Rows.pathInstantUptoRow.inPlace == Tryz.pinned.checked.prog.inPlace 8) = true := by kernel_rfl
theorem Mzc : (Rows.pathInstantUptoRow.unfollowed == Tryz.pinned.checked.prog.unfollowed 8) = true := by kernel_rfl
theorem Mza : (Rows.pathInstantUptoRow.recurses == Tryz.pinned.checked.prog.recurses 8) = true := by kernel_rfl
theorem Hzx : (Rows.pathInstantUptoRow.named == Tryz.pinned.checked.prog.varsNamed 8) = true := by kernel_rfl
end pathInstant
end Go.Abs
