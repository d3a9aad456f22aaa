/-
 JSearchFrugala (a part of a claim: our own text).
-/
import Derived.Test.YtfodaccgmcljoaaGreatYBTop
namespace Go.Abs
open Go.Proofs Go.Proofs.YtfodaccgmcljoaaGreat Go.ChangeShapes Go.WideShapes Go.ChangeAt Go.RowKit
namespace searchFrugal
theorem Rzt : laidOutB Tryz.pinned.checked.prog = true := by kernel_rfl
theorem Fzw : mapsRowed Tryz.pinned.checked.prog = true := by kernel_rfl
theorem Kze : (Rows.searchFrugalUptoRow.inPlace == Tryz.pinned.checked.prog.inPlace 5) = true := by kernel_rfl
theorem Tzm : (Rows.searchFrugalUptoRow.unfollowed == Tryz.pinned.checked.prog.unfollowed 5) = true := by kernel_rfl
theorem Tzk : (Rows.searchFrugalUptoRow.recurses == Tryz.pinned.checked.prog.recurses 5) = true := by kernel_rfl
theorem Rzw : (Rows.searchFrugalUptoRow.named == Tryz.pinned.checked.prog.varsNamed 5) = true := by kernel_rfl
end searchFrugal
end Go.Abs
