/-
  JPathStaysb (a part of a claim: our own text).
-/
import Derived.Test.YtomogglfhepnmaaGreatXFJPathStaysa
namespace Go.Abs
open Go.Proofs Go.Proofs.YtomogglfhepnmaaGreat Go.ChangeShapes Go.WideShapes Go.ChangeAt Go.RowKit
namespace pathStays
theorem Rz1 : Rows.pathStaysUptoRow.wf (OpenSpec.ofChange (Rows.OpenSpec.upto Rows.pathStaysSpec).bare) = true := by kernel_rfl
theorem Az9 : Tryz.f7.params.all (Tryz.pinned.checked.prog.readableRec ·) = true := by kernel_rfl
theorem Dzz : namedTie Tryz.pinned.checked.prog Rows.pathStaysUptoRow.named (Rows.OpenSpec.upto Rows.pathStaysSpec).bare.vars = true := by kernel_rfl
theorem Az6 : (Rows.pathStaysUptoRow.stops == []) = true := by kernel_rfl
theorem Ez1 : (Tryz.pinned.checked.prog.stops == []) = true := by kernel_rfl
theorem Az5 : (Rows.pathStaysUptoRow.knobs == []) = true := by kernel_rfl
theorem Dzx : (Tryz.pinned.checked.prog.stopKnobs == []) = true := by kernel_rfl
theorem Hzw : (Rows.pathStaysUptoRow.maps == (Tryz.f7.params.toList ++ (Rows.OpenSpec.upto Rows.pathStaysSpec).bare.plain.varTypes Tryz.pinned.checked.prog).any (Tryz.pinned.checked.prog.mapsRec ·)) = true := by kernel_rfl
theorem Az7 : (Rows.pathStaysUptoRow.ifaces == (Tryz.f7.params.toList ++ (Rows.OpenSpec.upto Rows.pathStaysSpec).bare.plain.varTypes Tryz.pinned.checked.prog).any (Tryz.pinned.checked.prog.ifacesRec ·)) = true := by kernel_rfl
theorem xza : (Rows.pathStaysUptoRow.mapsOut == Tryz.pinned.checked.prog.mapsAmong Tryz.f7.resultTypes.toList) = true := by kernel_rfl
theorem Dzy : (Rows.pathStaysUptoRow.loops == (Tryz.f7.params.toList ++ (Rows.OpenSpec.upto Rows.pathStaysSpec).bare.plain.varTypes Tryz.pinned.checked.prog).any (Tryz.pinned.checked.prog.loopsFrom ·)) = true := by kernel_rfl
theorem Hzy : (Rows.pathStaysUptoRow.wideKeys == (Tryz.f7.params.toList ++ (Rows.OpenSpec.upto Rows.pathStaysSpec).bare.plain.varTypes Tryz.pinned.checked.prog ++ Tryz.f7.resultTypes.toList).any (Tryz.pinned.checked.prog.wideKeysFrom ·)) = true := by kernel_rfl
theorem Ez2 : (Rows.OpenSpec.upto Rows.pathStaysSpec).bare.vars.all (Tryz.pinned.checked.prog.varReadable ·) = true := by kernel_rfl
theorem Mzb : Tryz.f7.resultTypes.all (fun t => Tryz.pinned.checked.prog.readableRec t && decide (t < Tryz.pinned.checked.prog.types.size)) = true := by kernel_rfl
theorem rzo : (Rows.pathStaysUptoRow.ifacesOut == Tryz.f7.resultTypes.toList.any (Tryz.pinned.checked.prog.ifacesRec ·)) = true := by kernel_rfl
theorem uzq : (Rows.pathStaysUptoRow.loopsOut == Tryz.f7.resultTypes.toList.any (Tryz.pinned.checked.prog.loopsFrom ·)) = true := by kernel_rfl
theorem rzq : (Rows.pathStaysUptoRow.plainKeys == Tryz.pinned.checked.prog.plainKeys) = true := by kernel_rfl
theorem Ez0 : Rows.pathStaysUptoRow.shortTexts.isNone = true := by kernel_rfl
theorem Dzv : Tryz.pinned.checked.prog.stopsHeard = true := by kernel_rfl
theorem uzr : Tryz.pinned.checked.prog.mayEnter = true := by kernel_rfl
theorem Az8 : (Rows.pathStaysUptoRow.lifted == Tryz.pinned.checked.prog.liftsFinal) = true := by kernel_rfl
theorem Hzv : (Tryz.pinned.checked.prog.make == some Rows.pathStaysUptoRow.make) = true := by kernel_rfl
theorem Dzw : (Rows.pathStaysUptoRow.kinds == (if Rows.pathStaysUptoRow.domain.isEmpty then [] else Tryz.f7.params.toList.map fun t => match Tryz.pinned.checked.prog.underlying t with | some (.int k) => some k | _ => none)) = true := by kernel_rfl
theorem Aza : (Rows.pathStaysUptoRow.pinned == Rows.pathStaysUptoRow.pinnedBy) = true := by kernel_rfl
theorem Azb : (Rows.pathStaysUptoRow.veiled == (Tryz.f7.params.toList ++ (Rows.OpenSpec.upto Rows.pathStaysSpec).bare.plain.varTypes Tryz.pinned.checked.prog ++ Tryz.f7.resultTypes.toList).any (Tryz.pinned.checked.prog.veiledRec ·)) = true := by kernel_rfl
theorem Hzt : Rows.pathStaysUptoRow.veiledFits Tryz.pinned.checked.prog Tryz.f7.params.toList (Tryz.f7.params.toList ++ (Rows.OpenSpec.upto Rows.pathStaysSpec).bare.plain.varTypes Tryz.pinned.checked.prog ++ Tryz.f7.resultTypes.toList) = true := by kernel_rfl
end pathStays
end Go.Abs
