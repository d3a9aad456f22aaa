/-
  JSearchBudgetb (a part of a claim: our own text).
-/
import Derived.Test.YtfodaccgmcljoaaGreatYAJSearchBudgeta
namespace Go.Abs
open Go.Proofs Go.Proofs.YtfodaccgmcljoaaGreat Go.ChangeShapes Go.WideShapes Go.ChangeAt Go.RowKit
namespace searchBudget
theorem Tzw : Rows.searchBudgetUptoRow.wf (OpenSpec.ofChange (Rows.OpenSpec.upto Rows.searchBudgetSpec).bare) = true := by kernel_rfl
theorem Lzm : Tryz.f6.params.all (Tryz.pinned.checked.prog.readableRec ·) = true := by kernel_rfl
theorem Oz4 : namedTie Tryz.pinned.checked.prog Rows.searchBudgetUptoRow.named (Rows.OpenSpec.upto Rows.searchBudgetSpec).bare.vars = true := by kernel_rfl
theorem Lzj : (Rows.searchBudgetUptoRow.stops == []) = true := by kernel_rfl
theorem Oz6 : (Tryz.pinned.checked.prog.stops == []) = true := by kernel_rfl
theorem Lzi : (Rows.searchBudgetUptoRow.knobs == []) = true := by kernel_rfl
theorem Oz2 : (Tryz.pinned.checked.prog.stopKnobs == []) = true := by kernel_rfl
theorem Rz4 : (Rows.searchBudgetUptoRow.maps == (Tryz.f6.params.toList ++ (Rows.OpenSpec.upto Rows.searchBudgetSpec).bare.plain.varTypes Tryz.pinned.checked.prog).any (Tryz.pinned.checked.prog.mapsRec ·)) = true := by kernel_rfl
theorem Lzk : (Rows.searchBudgetUptoRow.ifaces == (Tryz.f6.params.toList ++ (Rows.OpenSpec.upto Rows.searchBudgetSpec).bare.plain.varTypes Tryz.pinned.checked.prog).any (Tryz.pinned.checked.prog.ifacesRec ·)) = true := by kernel_rfl
theorem Jzu : (Rows.searchBudgetUptoRow.mapsOut == Tryz.pinned.checked.prog.mapsAmong Tryz.f6.resultTypes.toList) = true := by kernel_rfl
theorem Oz3 : (Rows.searchBudgetUptoRow.loops == (Tryz.f6.params.toList ++ (Rows.OpenSpec.upto Rows.searchBudgetSpec).bare.plain.varTypes Tryz.pinned.checked.prog).any (Tryz.pinned.checked.prog.loopsFrom ·)) = true := by kernel_rfl
theorem Rz6 : (Rows.searchBudgetUptoRow.wideKeys == (Tryz.f6.params.toList ++ (Rows.OpenSpec.upto Rows.searchBudgetSpec).bare.plain.varTypes Tryz.pinned.checked.prog ++ Tryz.f6.resultTypes.toList).any (Tryz.pinned.checked.prog.wideKeysFrom ·)) = true := by kernel_rfl
theorem Oz7 : (Rows.OpenSpec.upto Rows.searchBudgetSpec).bare.vars.all (Tryz.pinned.checked.prog.varReadable ·) = true := by kernel_rfl
theorem Szu : Tryz.f6.resultTypes.all (fun t => Tryz.pinned.checked.prog.readableRec t && decide (t < Tryz.pinned.checked.prog.types.size)) = true := by kernel_rfl
theorem Fzg : (Rows.searchBudgetUptoRow.ifacesOut == Tryz.f6.resultTypes.toList.any (Tryz.pinned.checked.prog.ifacesRec ·)) = true := by kernel_rfl
theorem Hzf : (Rows.searchBudgetUptoRow.loopsOut == Tryz.f6.resultTypes.toList.any (Tryz.pinned.checked.prog.loopsFrom ·)) = true := by kernel_rfl
theorem Fzi : (Rows.searchBudgetUptoRow.plainKeys == Tryz.pinned.checked.prog.plainKeys) = true := by kernel_rfl
theorem Oz5 : Rows.searchBudgetUptoRow.shortTexts.isNone = true := by kernel_rfl
theorem Oz0 : Tryz.pinned.checked.prog.stopsHeard = true := by kernel_rfl
theorem Hzg : Tryz.pinned.checked.prog.mayEnter = true := by kernel_rfl
theorem Lzl : (Rows.searchBudgetUptoRow.lifted == Tryz.pinned.checked.prog.liftsFinal) = true := by kernel_rfl
theorem Rz3 : (Tryz.pinned.checked.prog.make == some Rows.searchBudgetUptoRow.make) = true := by kernel_rfl
theorem Oz1 : (Rows.searchBudgetUptoRow.kinds == (if Rows.searchBudgetUptoRow.domain.isEmpty then [] else Tryz.f6.params.toList.map fun t => match Tryz.pinned.checked.prog.underlying t with | some (.int k) => some k | _ => none)) = true := by kernel_rfl
theorem Lzn : (Rows.searchBudgetUptoRow.pinned == Rows.searchBudgetUptoRow.pinnedBy) = true := by kernel_rfl
theorem Lzo : (Rows.searchBudgetUptoRow.veiled == (Tryz.f6.params.toList ++ (Rows.OpenSpec.upto Rows.searchBudgetSpec).bare.plain.varTypes Tryz.pinned.checked.prog ++ Tryz.f6.resultTypes.toList).any (Tryz.pinned.checked.prog.veiledRec ·)) = true := by kernel_rfl
theorem Rz1 : Rows.searchBudgetUptoRow.veiledFits Tryz.pinned.checked.prog Tryz.f6.params.toList (Tryz.f6.params.toList ++ (Rows.OpenSpec.upto Rows.searchBudgetSpec).bare.plain.varTypes Tryz.pinned.checked.prog ++ Tryz.f6.resultTypes.toList) = true := by kernel_rfl
end searchBudget
end Go.Abs
