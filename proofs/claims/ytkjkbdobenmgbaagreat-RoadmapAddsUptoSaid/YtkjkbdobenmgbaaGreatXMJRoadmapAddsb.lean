/-
  JRoadmapAddsb (a part of a claim: our own text).
-/
import Derived.Test.YtkjkbdobenmgbaaGreatXMJRoadmapAddsa
namespace Go.Abs
open Go.Proofs Go.Proofs.YtkjkbdobenmgbaaGreat Go.ChangeShapes Go.WideShapes Go.ChangeAt Go.RowKit
namespace roadmapAdds
theorem Nz2 : Rows.roadmapAddsUptoRow.wf (OpenSpec.ofChange (Rows.OpenSpec.upto Rows.roadmapAddsSpec).bare) = true := by kernel_rfl
theorem Ezp : Tryz.f8.params.all (Tryz.pinned.checked.prog.readableRec ·) = true := by kernel_rfl
theorem Hz0 : namedTie Tryz.pinned.checked.prog Rows.roadmapAddsUptoRow.named (Rows.OpenSpec.upto Rows.roadmapAddsSpec).bare.vars = true := by kernel_rfl
theorem Ezm : (Rows.roadmapAddsUptoRow.stops == []) = true := by kernel_rfl
theorem Hz2 : (Tryz.pinned.checked.prog.stops == []) = true := by kernel_rfl
theorem Ezl : (Rows.roadmapAddsUptoRow.knobs == []) = true := by kernel_rfl
theorem Gzy : (Tryz.pinned.checked.prog.stopKnobs == []) = true := by kernel_rfl
theorem Jzy : (Rows.roadmapAddsUptoRow.maps == (Tryz.f8.params.toList ++ (Rows.OpenSpec.upto Rows.roadmapAddsSpec).bare.plain.varTypes Tryz.pinned.checked.prog).any (Tryz.pinned.checked.prog.mapsRec ·)) = true := by kernel_rfl
theorem Ezn : (Rows.roadmapAddsUptoRow.ifaces == (Tryz.f8.params.toList ++ (Rows.OpenSpec.upto Rows.roadmapAddsSpec).bare.plain.varTypes Tryz.pinned.checked.prog).any (Tryz.pinned.checked.prog.ifacesRec ·)) = true := by kernel_rfl
theorem Czq : (Rows.roadmapAddsUptoRow.mapsOut == Tryz.pinned.checked.prog.mapsAmong Tryz.f8.resultTypes.toList) = true := by kernel_rfl
theorem Gzz : (Rows.roadmapAddsUptoRow.loops == (Tryz.f8.params.toList ++ (Rows.OpenSpec.upto Rows.roadmapAddsSpec).bare.plain.varTypes Tryz.pinned.checked.prog).any (Tryz.pinned.checked.prog.loopsFrom ·)) = true := by kernel_rfl
theorem Kz0 : (Rows.roadmapAddsUptoRow.wideKeys == (Tryz.f8.params.toList ++ (Rows.OpenSpec.upto Rows.roadmapAddsSpec).bare.plain.varTypes Tryz.pinned.checked.prog ++ Tryz.f8.resultTypes.toList).any (Tryz.pinned.checked.prog.wideKeysFrom ·)) = true := by kernel_rfl
theorem Hz3 : (Rows.OpenSpec.upto Rows.roadmapAddsSpec).bare.vars.all (Tryz.pinned.checked.prog.varReadable ·) = true := by kernel_rfl
theorem Lzt : Tryz.f8.resultTypes.all (fun t => Tryz.pinned.checked.prog.readableRec t && decide (t < Tryz.pinned.checked.prog.types.size)) = true := by kernel_rfl
theorem zz4 : (Rows.roadmapAddsUptoRow.ifacesOut == Tryz.f8.resultTypes.toList.any (Tryz.pinned.checked.prog.ifacesRec ·)) = true := by kernel_rfl
theorem Azn : (Rows.roadmapAddsUptoRow.loopsOut == Tryz.f8.resultTypes.toList.any (Tryz.pinned.checked.prog.loopsFrom ·)) = true := by kernel_rfl
theorem zz6 : (Rows.roadmapAddsUptoRow.plainKeys == Tryz.pinned.checked.prog.plainKeys) = true := by kernel_rfl
theorem Hz1 : Rows.roadmapAddsUptoRow.shortTexts.isNone = true := by kernel_rfl
theorem Gzw : Tryz.pinned.checked.prog.stopsHeard = true := by kernel_rfl
theorem Azo : Tryz.pinned.checked.prog.mayEnter = true := by kernel_rfl
theorem Ezo : (Rows.roadmapAddsUptoRow.lifted == Tryz.pinned.checked.prog.liftsFinal) = true := by kernel_rfl
theorem Jzx : (Tryz.pinned.checked.prog.make == some Rows.roadmapAddsUptoRow.make) = true := by kernel_rfl
theorem Gzx : (Rows.roadmapAddsUptoRow.kinds == (if Rows.roadmapAddsUptoRow.domain.isEmpty then [] else Tryz.f8.params.toList.map fun t => match Tryz.pinned.checked.prog.underlying t with | some (.int k) => some k | _ => none)) = true := by kernel_rfl
theorem Ezq : (Rows.roadmapAddsUptoRow.pinned == Rows.roadmapAddsUptoRow.pinnedBy) = true := by kernel_rfl
theorem Ezr : (Rows.roadmapAddsUptoRow.veiled == (Tryz.f8.params.toList ++ (Rows.OpenSpec.upto Rows.roadmapAddsSpec).bare.plain.varTypes Tryz.pinned.checked.prog ++ Tryz.f8.resultTypes.toList).any (Tryz.pinned.checked.prog.veiledRec ·)) = true := by kernel_rfl
theorem Jzv : Rows.roadmapAddsUptoRow.veiledFits Tryz.pinned.checked.prog Tryz.f8.params.toList (Tryz.f8.params.toList ++ (Rows.OpenSpec.upto Rows.roadmapAddsSpec).bare.plain.varTypes Tryz.pinned.checked.prog ++ Tryz.f8.resultTypes.toList) = true := by kernel_rfl
end roadmapAdds
end Go.Abs
