/-
 JSearchFrugalb (a part of a claim: our own text).
-/
import Derived.Test.YtfodaccgmcljoaaGreatYBJSearchFrugala
namespace Go.Abs
open Go.Proofs Go.Proofs.YtfodaccgmcljoaaGreat Go.ChangeShapes Go.WideShapes Go.ChangeAt Go.RowKit
namespace searchFrugal
theorem Uzp : Rows.searchFrugalUptoRow.wf (OpenSpec.ofChange (Rows.OpenSpec.upto Rows.searchFrugalSpec).bare) = true := by kernel_rfl
theorem Mza : Tryz.f5.params.all (Tryz.pinned.checked.prog.readableRec ·) = true := by kernel_rfl
theorem Ozv : namedTie Tryz.pinned.checked.prog Rows.searchFrugalUptoRow.named (Rows.OpenSpec.upto Rows.searchFrugalSpec).bare.vars = true := by kernel_rfl
theorem Mz7 : (Rows.searchFrugalUptoRow.stops == []) = true := by kernel_rfl
theorem Ozx : (Tryz.pinned.checked.prog.stops == []) = true := by kernel_rfl
theorem Mz6 : (Rows.searchFrugalUptoRow.knobs == []) = true := by kernel_rfl
theorem Ozt : (Tryz.pinned.checked.prog.stopKnobs == []) = true := by kernel_rfl
theorem Rzv : (Rows.searchFrugalUptoRow.maps == (Tryz.f5.params.toList ++ (Rows.OpenSpec.upto Rows.searchFrugalSpec).bare.plain.varTypes Tryz.pinned.checked.prog).any (Tryz.pinned.checked.prog.mapsRec ·)) = true := by kernel_rfl
theorem Mz8 : (Rows.searchFrugalUptoRow.ifaces == (Tryz.f5.params.toList ++ (Rows.OpenSpec.upto Rows.searchFrugalSpec).bare.plain.varTypes Tryz.pinned.checked.prog).any (Tryz.pinned.checked.prog.ifacesRec ·)) = true := by kernel_rfl
theorem Kzf : (Rows.searchFrugalUptoRow.mapsOut == Tryz.pinned.checked.prog.mapsAmong Tryz.f5.resultTypes.toList) = true := by kernel_rfl
theorem Ozu : (Rows.searchFrugalUptoRow.loops == (Tryz.f5.params.toList ++ (Rows.OpenSpec.upto Rows.searchFrugalSpec).bare.plain.varTypes Tryz.pinned.checked.prog).any (Tryz.pinned.checked.prog.loopsFrom ·)) = true := by kernel_rfl
theorem Rzx : (Rows.searchFrugalUptoRow.wideKeys == (Tryz.f5.params.toList ++ (Rows.OpenSpec.upto Rows.searchFrugalSpec).bare.plain.varTypes Tryz.pinned.checked.prog ++ Tryz.f5.resultTypes.toList).any (Tryz.pinned.checked.prog.wideKeysFrom ·)) = true := by kernel_rfl
theorem Ozy : (Rows.OpenSpec.upto Rows.searchFrugalSpec).bare.vars.all (Tryz.pinned.checked.prog.varReadable ·) = true := by kernel_rfl
theorem Tzl : Tryz.f5.resultTypes.all (fun t => Tryz.pinned.checked.prog.readableRec t && decide (t < Tryz.pinned.checked.prog.types.size)) = true := by kernel_rfl
theorem Fzv : (Rows.searchFrugalUptoRow.ifacesOut == Tryz.f5.resultTypes.toList.any (Tryz.pinned.checked.prog.ifacesRec ·)) = true := by kernel_rfl
theorem Hzy : (Rows.searchFrugalUptoRow.loopsOut == Tryz.f5.resultTypes.toList.any (Tryz.pinned.checked.prog.loopsFrom ·)) = true := by kernel_rfl
theorem Fzx : (Rows.searchFrugalUptoRow.plainKeys == Tryz.pinned.checked.prog.plainKeys) = true := by kernel_rfl
theorem Ozw : Rows.searchFrugalUptoRow.shortTexts.isNone = true := by kernel_rfl
theorem Ozr : Tryz.pinned.checked.prog.stopsHeard = true := by kernel_rfl
theorem Hzz : Tryz.pinned.checked.prog.mayEnter = true := by kernel_rfl
theorem Mz9 : (Rows.searchFrugalUptoRow.lifted == Tryz.pinned.checked.prog.liftsFinal) = true := by kernel_rfl
theorem Rzu : (Tryz.pinned.checked.prog.make == some Rows.searchFrugalUptoRow.make) = true := by kernel_rfl
theorem Ozs : (Rows.searchFrugalUptoRow.kinds == (if Rows.searchFrugalUptoRow.domain.isEmpty then [] else Tryz.f5.params.toList.map fun t => match Tryz.pinned.checked.prog.underlying t with | some (.int k) => some k | _ => none)) = true := by kernel_rfl
theorem Mzb : (Rows.searchFrugalUptoRow.pinned == Rows.searchFrugalUptoRow.pinnedBy) = true := by kernel_rfl
theorem Mzc : (Rows.searchFrugalUptoRow.veiled == (Tryz.f5.params.toList ++ (Rows.OpenSpec.upto Rows.searchFrugalSpec).bare.plain.varTypes Tryz.pinned.checked.prog ++ Tryz.f5.resultTypes.toList).any (Tryz.pinned.checked.prog.veiledRec ·)) = true := by kernel_rfl
theorem Rzs : Rows.searchFrugalUptoRow.veiledFits Tryz.pinned.checked.prog Tryz.f5.params.toList (Tryz.f5.params.toList ++ (Rows.OpenSpec.upto Rows.searchFrugalSpec).bare.plain.varTypes Tryz.pinned.checked.prog ++ Tryz.f5.resultTypes.toList) = true := by kernel_rfl
end searchFrugal
end Go.Abs
