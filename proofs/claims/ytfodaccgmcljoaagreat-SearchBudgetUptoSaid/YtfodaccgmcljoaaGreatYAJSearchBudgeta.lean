/-
  JSearchBudgeta (a part of a claim: our own text).
-/
import Derived.Test.YtfodaccgmcljoaaGreatYATop
namespace Go.Abs
open Go.Proofs Go.Proofs.YtfodaccgmcljoaaGreat Go.ChangeShapes Go.WideShapes Go.ChangeAt Go.RowKit
namespace searchBudget
theorem Rz2 : laidOutB Tryz.pinned.checked.prog = true := by kernel_rfl
theorem Fzh : mapsRowed Tryz.pinned.checked.prog = true := by kernel_rfl
theorem Jzt : (Rows.searchBudgetUptoRow.inPlace == Tryz.pinned.checked.prog.inPlace 6) = true := by kernel_rfl
theorem Szv : (Rows.searchBudgetUptoRow.unfollowed == Tryz.pinned.checked.prog.unfollowed 6) = true := by kernel_rfl
theorem Szt : (Rows.searchBudgetUptoRow.recurses == Tryz.pinned.checked.prog.recurses 6) = true := by kernel_rfl
theorem Rz5 : (Rows.searchBudgetUptoRow.named == Tryz.pinned.checked.prog.varsNamed 6) = true := by kernel_rfl
end searchBudget
end Go.Abs
