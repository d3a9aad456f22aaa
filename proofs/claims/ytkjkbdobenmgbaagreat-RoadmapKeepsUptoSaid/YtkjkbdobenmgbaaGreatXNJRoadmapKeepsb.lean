/-
  JRoadmapKeepsb (a part of a claim: our own text).
-/
import Derived.Test.YtkjkbdobenmgbaaGreatXNJRoadmapKeepsa
namespace Go.Abs
open Go.Proofs Go.Proofs.YtkjkbdobenmgbaaGreat Go.ChangeShapes Go.WideShapes Go.ChangeAt Go.RowKit
namespace roadmapKeeps
theorem Lz0 : Rows.roadmapKeepsUptoRow.wf (OpenSpec.ofChange (Rows.OpenSpec.upto Rows.roadmapKeepsSpec).bare) = true := by kernel_rfl
theorem Dzi : Tryz.f9.params.all (Tryz.pinned.checked.prog.readableRec ·) = true := by kernel_rfl
theorem Fzp : namedTie Tryz.pinned.checked.prog Rows.roadmapKeepsUptoRow.named (Rows.OpenSpec.upto Rows.roadmapKeepsSpec).bare.vars = true := by kernel_rfl
theorem Dzf : (Rows.roadmapKeepsUptoRow.stops == []) = true := by kernel_rfl
theorem Fzr : (Tryz.pinned.checked.prog.stops == []) = true := by kernel_rfl
theorem Dze : (Rows.roadmapKeepsUptoRow.knobs == []) = true := by kernel_rfl
theorem Fzn : (Tryz.pinned.checked.prog.stopKnobs == []) = true := by kernel_rfl
theorem Izf : (Rows.roadmapKeepsUptoRow.maps == (Tryz.f9.params.toList ++ (Rows.OpenSpec.upto Rows.roadmapKeepsSpec).bare.plain.varTypes Tryz.pinned.checked.prog).any (Tryz.pinned.checked.prog.mapsRec ·)) = true := by kernel_rfl
theorem Dzg : (Rows.roadmapKeepsUptoRow.ifaces == (Tryz.f9.params.toList ++ (Rows.OpenSpec.upto Rows.roadmapKeepsSpec).bare.plain.varTypes Tryz.pinned.checked.prog).any (Tryz.pinned.checked.prog.ifacesRec ·)) = true := by kernel_rfl
theorem Cz0 : (Rows.roadmapKeepsUptoRow.mapsOut == Tryz.pinned.checked.prog.mapsAmong Tryz.f9.resultTypes.toList) = true := by kernel_rfl
theorem Fzo : (Rows.roadmapKeepsUptoRow.loops == (Tryz.f9.params.toList ++ (Rows.OpenSpec.upto Rows.roadmapKeepsSpec).bare.plain.varTypes Tryz.pinned.checked.prog).any (Tryz.pinned.checked.prog.loopsFrom ·)) = true := by kernel_rfl
theorem Izh : (Rows.roadmapKeepsUptoRow.wideKeys == (Tryz.f9.params.toList ++ (Rows.OpenSpec.upto Rows.roadmapKeepsSpec).bare.plain.varTypes Tryz.pinned.checked.prog ++ Tryz.f9.resultTypes.toList).any (Tryz.pinned.checked.prog.wideKeysFrom ·)) = true := by kernel_rfl
theorem Fzs : (Rows.OpenSpec.upto Rows.roadmapKeepsSpec).bare.vars.all (Tryz.pinned.checked.prog.varReadable ·) = true := by kernel_rfl
theorem Jzz : Tryz.f9.resultTypes.all (fun t => Tryz.pinned.checked.prog.readableRec t && decide (t < Tryz.pinned.checked.prog.types.size)) = true := by kernel_rfl
theorem yzj : (Rows.roadmapKeepsUptoRow.ifacesOut == Tryz.f9.resultTypes.toList.any (Tryz.pinned.checked.prog.ifacesRec ·)) = true := by kernel_rfl
theorem Az3 : (Rows.roadmapKeepsUptoRow.loopsOut == Tryz.f9.resultTypes.toList.any (Tryz.pinned.checked.prog.loopsFrom ·)) = true := by kernel_rfl
theorem yzl : (Rows.roadmapKeepsUptoRow.plainKeys == Tryz.pinned.checked.prog.plainKeys) = true := by kernel_rfl
theorem Fzq : Rows.roadmapKeepsUptoRow.shortTexts.isNone = true := by kernel_rfl
theorem Fzl : Tryz.pinned.checked.prog.stopsHeard = true := by kernel_rfl
theorem Az4 : Tryz.pinned.checked.prog.mayEnter = true := by kernel_rfl
theorem Dzh : (Rows.roadmapKeepsUptoRow.lifted == Tryz.pinned.checked.prog.liftsFinal) = true := by kernel_rfl
theorem Ize : (Tryz.pinned.checked.prog.make == some Rows.roadmapKeepsUptoRow.make) = true := by kernel_rfl
theorem Fzm : (Rows.roadmapKeepsUptoRow.kinds == (if Rows.roadmapKeepsUptoRow.domain.isEmpty then [] else Tryz.f9.params.toList.map fun t => match Tryz.pinned.checked.prog.underlying t with | some (.int k) => some k | _ => none)) = true := by kernel_rfl
theorem Dzj : (Rows.roadmapKeepsUptoRow.pinned == Rows.roadmapKeepsUptoRow.pinnedBy) = true := by kernel_rfl
theorem Dzk : (Rows.roadmapKeepsUptoRow.veiled == (Tryz.f9.params.toList ++ (Rows.OpenSpec.upto Rows.roadmapKeepsSpec).bare.plain.varTypes Tryz.pinned.checked.prog ++ Tryz.f9.resultTypes.toList).any (Tryz.pinned.checked.prog.veiledRec ·)) = true := by kernel_rfl
theorem Izc : Rows.roadmapKeepsUptoRow.veiledFits Tryz.pinned.checked.prog Tryz.f9.params.toList (Tryz.f9.params.toList ++ (Rows.OpenSpec.upto Rows.roadmapKeepsSpec).bare.plain.varTypes Tryz.pinned.checked.prog ++ Tryz.f9.resultTypes.toList) = true := by kernel_rfl
end roadmapKeeps
end Go.Abs
