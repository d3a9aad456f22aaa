/-
  JRoadmapNearestb (a part of a claim: our own text).
-/
import Derived.Test.YtkjkbdobenmgbaaGreatXLJRoadmapNearesta
namespace Go.Abs
open Go.Proofs Go.Proofs.YtkjkbdobenmgbaaGreat Go.ChangeShapes Go.WideShapes Go.ChangeAt Go.RowKit
namespace roadmapNearest
theorem jf_wf : Rows.roadmapNearestUptoRow.wf (OpenSpec.ofChange (Rows.OpenSpec.upto Rows.roadmapNearestSpec).bare) = true := by kernel_rfl
theorem jf_params : Tryz.f7.params.all (Tryz.pinned.checked.prog.readableRec ·) = true := by kernel_rfl
theorem jf_named : namedTie Tryz.pinned.checked.prog Rows.roadmapNearestUptoRow.named (Rows.OpenSpec.upto Rows.roadmapNearestSpec).bare.vars = true := by kernel_rfl
theorem jf_cstops : (Rows.roadmapNearestUptoRow.stops == []) = true := by kernel_rfl
theorem jf_stops : (Tryz.pinned.checked.prog.stops == []) = true := by kernel_rfl
theorem jf_cknobs : (Rows.roadmapNearestUptoRow.knobs == []) = true := by kernel_rfl
theorem jf_knobs : (Tryz.pinned.checked.prog.stopKnobs == []) = true := by kernel_rfl
theorem jf_maps : (Rows.roadmapNearestUptoRow.maps == (Tryz.f7.params.toList ++ (Rows.OpenSpec.upto Rows.roadmapNearestSpec).bare.plain.varTypes Tryz.pinned.checked.prog).any (Tryz.pinned.checked.prog.mapsRec ·)) = true := by kernel_rfl
theorem jf_ifaces : (Rows.roadmapNearestUptoRow.ifaces == (Tryz.f7.params.toList ++ (Rows.OpenSpec.upto Rows.roadmapNearestSpec).bare.plain.varTypes Tryz.pinned.checked.prog).any (Tryz.pinned.checked.prog.ifacesRec ·)) = true := by kernel_rfl
theorem jf_mapsOut : (Rows.roadmapNearestUptoRow.mapsOut == Tryz.pinned.checked.prog.mapsAmong Tryz.f7.resultTypes.toList) = true := by kernel_rfl
theorem jf_loops : (Rows.roadmapNearestUptoRow.loops == (Tryz.f7.params.toList ++ (Rows.OpenSpec.upto Rows.roadmapNearestSpec).bare.plain.varTypes Tryz.pinned.checked.prog).any (Tryz.pinned.checked.prog.loopsFrom ·)) = true := by kernel_rfl
theorem jf_wide : (Rows.roadmapNearestUptoRow.wideKeys == (Tryz.f7.params.toList ++ (Rows.OpenSpec.upto Rows.roadmapNearestSpec).bare.plain.varTypes Tryz.pinned.checked.prog ++ Tryz.f7.resultTypes.toList).any (Tryz.pinned.checked.prog.wideKeysFrom ·)) = true := by kernel_rfl
theorem jf_varsR : (Rows.OpenSpec.upto Rows.roadmapNearestSpec).bare.vars.all (Tryz.pinned.checked.prog.varReadable ·) = true := by kernel_rfl
theorem jf_res : Tryz.f7.resultTypes.all (fun t => Tryz.pinned.checked.prog.readableRec t && decide (t < Tryz.pinned.checked.prog.types.size)) = true := by kernel_rfl
theorem jf_ifacesOut : (Rows.roadmapNearestUptoRow.ifacesOut == Tryz.f7.resultTypes.toList.any (Tryz.pinned.checked.prog.ifacesRec ·)) = true := by kernel_rfl
theorem jf_loopsOut : (Rows.roadmapNearestUptoRow.loopsOut == Tryz.f7.resultTypes.toList.any (Tryz.pinned.checked.prog.loopsFrom ·)) = true := by kernel_rfl
theorem jf_plainKeys : (Rows.roadmapNearestUptoRow.plainKeys == Tryz.pinned.checked.prog.plainKeys) = true := by kernel_rfl
theorem jf_short : Rows.roadmapNearestUptoRow.shortTexts.isNone = true := by kernel_rfl
theorem jf_heard : Tryz.pinned.checked.prog.stopsHeard = true := by kernel_rfl
theorem jf_mayEnter : Tryz.pinned.checked.prog.mayEnter = true := by kernel_rfl
theorem jf_lifted : (Rows.roadmapNearestUptoRow.lifted == Tryz.pinned.checked.prog.liftsFinal) = true := by kernel_rfl
theorem jf_make : (Tryz.pinned.checked.prog.make == some Rows.roadmapNearestUptoRow.make) = true := by kernel_rfl
theorem jf_kinds : (Rows.roadmapNearestUptoRow.kinds == (if Rows.roadmapNearestUptoRow.domain.isEmpty then [] else Tryz.f7.params.toList.map fun t => match Tryz.pinned.checked.prog.underlying t with | some (.int k) => some k | _ => none)) = true := by kernel_rfl
theorem jf_pinned : (Rows.roadmapNearestUptoRow.pinned == Rows.roadmapNearestUptoRow.pinnedBy) = true := by kernel_rfl
theorem jf_veiled : (Rows.roadmapNearestUptoRow.veiled == (Tryz.f7.params.toList ++ (Rows.OpenSpec.upto Rows.roadmapNearestSpec).bare.plain.varTypes Tryz.pinned.checked.prog ++ Tryz.f7.resultTypes.toList).any (Tryz.pinned.checked.prog.veiledRec ·)) = true := by kernel_rfl
theorem jf_fits : Rows.roadmapNearestUptoRow.veiledFits Tryz.pinned.checked.prog Tryz.f7.params.toList (Tryz.f7.params.toList ++ (Rows.OpenSpec.upto Rows.roadmapNearestSpec).bare.plain.varTypes Tryz.pinned.checked.prog ++ Tryz.f7.resultTypes.toList) = true := by kernel_rfl
end roadmapNearest
end Go.Abs
