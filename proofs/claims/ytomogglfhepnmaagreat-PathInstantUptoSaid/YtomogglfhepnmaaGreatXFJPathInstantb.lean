/-
  JPathInstantb (a part of a claim: our own text).
-/
import Derived.Test.YtomogglfhepnmaaGreatXFJPathInstanta
namespace Go.Abs
open Go.Proofs Go.Proofs.YtomogglfhepnmaaGreat Go.ChangeShapes Go.WideShapes Go.ChangeAt Go.RowKit
namespace pathInstant
theorem Rz1 : Rows.pathInstantUptoRow.wf (OpenSpec.ofChange (Rows.OpenSpec.upto Rows.pathInstantSpec).bare) = true := by kernel_rfl
theorem Az9 : Tryz.f8.params.all (Tryz.pinned.checked.prog.readableRec ·) = true := by kernel_rfl
theorem Dzz : namedTie Tryz.pinned.checked.prog Rows.pathInstantUptoRow.named (Rows.OpenSpec.upto Rows.pathInstantSpec).bare.vars = true := by kernel_rfl
theorem Az6 : (Rows.pathInstantUptoRow.stops == []) = true := by kernel_rfl
theorem Ez1 : (Tryz.pinned.checked.prog.stops == []) = true := by kernel_rfl
theorem Az5 : (Rows.pathInstantUptoRow.knobs == []) = true := by kernel_rfl
theorem Dzx : (Tryz.pinned.checked.prog.stopKnobs == []) = true := by kernel_rfl
theorem Hzw : (Rows.pathInstantUptoRow.maps == (Tryz.f8.params.toList ++ (Rows.OpenSpec.upto Rows.pathInstantSpec).bare.plain.varTypes Tryz.pinned.checked.prog).any (Tryz.pinned.checked.prog.mapsRec ·)) = true := by kernel_rfl
theorem Az7 : (Rows.pathInstantUptoRow.ifaces == (Tryz.f8.params.toList ++ (Rows.OpenSpec.upto Rows.pathInstantSpec).bare.plain.varTypes Tryz.pinned.checked.prog).any (Tryz.pinned.checked.prog.ifacesRec ·)) = true := by kernel_rfl
theorem xza : (Rows.pathInstantUptoRow.mapsOut == Tryz.pinned.checked.prog.mapsAmong Tryz.f8.resultTypes.toList) = true := by kernel_rfl
theorem Dzy : (Rows.pathInstantUptoRow.loops == (Tryz.f8.params.toList ++ (Rows.OpenSpec.upto Rows.pathInstantSpec).bare.plain.varTypes Tryz.pinned.checked.prog).any (Tryz.pinned.checked.prog.loopsFrom ·)) = true := by kernel_rfl
theorem Hzy : (Rows.pathInstantUptoRow.wideKeys == (Tryz.f8.params.toList ++ (Rows.OpenSpec.upto Rows.pathInstantSpec).bare.plain.varTypes Tryz.pinned.checked.prog ++ Tryz.f8.resultTypes.toList).any (Tryz.pinned.checked.prog.wideKeysFrom ·)) = true := by kernel_rfl
theorem Ez2 : (Rows.OpenSpec.upto Rows.pathInstantSpec).bare.vars.all (Tryz.pinned.checked.prog.varReadable ·) = true := by kernel_rfl
theorem Mzb : Tryz.f8.resultTypes.all (fun t => Tryz.pinned.checked.prog.readableRec t && decide (t < Tryz.pinned.checked.prog.types.size)) = true := by kernel_rfl
theorem rzo : (Rows.pathInstantUptoRow.ifacesOut == Tryz.f8.resultTypes.toList.any (Tryz.pinned.checked.prog.ifacesRec ·)) = true := by kernel_rfl
theorem uzq : (Rows.pathInstantUptoRow.loopsOut == Tryz.f8.resultTypes.toList.any (Tryz.pinned.checked.prog.loopsFrom ·)) = true := by kernel_rfl
theorem rzq : (Rows.pathInstantUptoRow.plainKeys == Tryz.pinned.checked.prog.plainKeys) = true := by kernel_rfl
theorem Ez0 : Rows.pathInstantUptoRow.shortTexts.isNone = true := by kernel_rfl
theorem Dzv : Tryz.pinned.checked.prog.stopsHeard = true := by kernel_rfl
theorem uzr : Tryz.pinned.checked.prog.mayEnter = true := by kernel_rfl
theorem Az8 : (Rows.pathInstantUptoRow.lifted == Tryz.pinned.checked.prog.liftsFinal) = true := by kernel_rfl
theorem Hzv : (Tryz.pinned.checked.prog.make == some Rows.pathInstantUptoRow.make) = true := by kernel_rfl
theorem Dzw : (Rows.pathInstantUptoRow.kinds == (if Rows.pathInstantUptoRow.domain.isEmpty then [] else Tryz.f8.params.toList.map fun t => match Tryz.pinned.checked.prog.underlying t with | some (.int k) => some k | _ => none)) = true := by kernel_rfl
theorem Aza : (Rows.pathInstantUptoRow.pinned == Rows.pathInstantUptoRow.pinnedBy) = true := by kernel_rfl
theorem Azb : (Rows.pathInstantUptoRow.veiled == (Tryz.f8.params.toList ++ (Rows.OpenSpec.upto Rows.pathInstantSpec).bare.plain.varTypes Tryz.pinned.checked.prog ++ Tryz.f8.resultTypes.toList).any (Tryz.pinned.checked.prog.veiledRec ·)) = true := by kernel_rfl
theorem Hzt : Rows.pathInstantUptoRow.veiledFits Tryz.pinned.checked.prog Tryz.f8.params.toList (Tryz.f8.params.toList ++ (Rows.OpenSpec.upto Rows.pathInstantSpec).bare.plain.varTypes Tryz.pinned.checked.prog ++ Tryz.f8.resultTypes.toList) = true := by kernel_rfl
end pathInstant
end Go.Abs
