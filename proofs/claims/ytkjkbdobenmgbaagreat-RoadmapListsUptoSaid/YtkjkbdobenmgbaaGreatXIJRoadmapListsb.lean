/-
  JRoadmapListsb (a part of a claim: our own text).
-/
import Derived.Test.YtkjkbdobenmgbaaGreatXIJRoadmapListsa
namespace Go.Abs
open Go.Proofs Go.Proofs.YtkjkbdobenmgbaaGreat Go.ChangeShapes Go.WideShapes Go.ChangeAt Go.RowKit
namespace roadmapLists
theorem jf_wf : Rows.roadmapListsUptoRow.wf (OpenSpec.ofChange (Rows.OpenSpec.upto Rows.roadmapListsSpec).bare) = true := by kernel_rfl
theorem jf_params : Tryz.f5.params.all (Tryz.pinned.checked.prog.readableRec ·) = true := by kernel_rfl
theorem jf_named : namedTie Tryz.pinned.checked.prog Rows.roadmapListsUptoRow.named (Rows.OpenSpec.upto Rows.roadmapListsSpec).bare.vars = true := by kernel_rfl
theorem jf_cstops : (Rows.roadmapListsUptoRow.stops == []) = true := by kernel_rfl
theorem jf_stops : (Tryz.pinned.checked.prog.stops == []) = true := by kernel_rfl
theorem jf_cknobs : (Rows.roadmapListsUptoRow.knobs == []) = true := by kernel_rfl
theorem jf_knobs : (Tryz.pinned.checked.prog.stopKnobs == []) = true := by kernel_rfl
theorem jf_maps : (Rows.roadmapListsUptoRow.maps == (Tryz.f5.params.toList ++ (Rows.OpenSpec.upto Rows.roadmapListsSpec).bare.plain.varTypes Tryz.pinned.checked.prog).any (Tryz.pinned.checked.prog.mapsRec ·)) = true := by kernel_rfl
theorem jf_ifaces : (Rows.roadmapListsUptoRow.ifaces == (Tryz.f5.params.toList ++ (Rows.OpenSpec.upto Rows.roadmapListsSpec).bare.plain.varTypes Tryz.pinned.checked.prog).any (Tryz.pinned.checked.prog.ifacesRec ·)) = true := by kernel_rfl
theorem jf_mapsOut : (Rows.roadmapListsUptoRow.mapsOut == Tryz.pinned.checked.prog.mapsAmong Tryz.f5.resultTypes.toList) = true := by kernel_rfl
theorem jf_loops : (Rows.roadmapListsUptoRow.loops == (Tryz.f5.params.toList ++ (Rows.OpenSpec.upto Rows.roadmapListsSpec).bare.plain.varTypes Tryz.pinned.checked.prog).any (Tryz.pinned.checked.prog.loopsFrom ·)) = true := by kernel_rfl
theorem jf_wide : (Rows.roadmapListsUptoRow.wideKeys == (Tryz.f5.params.toList ++ (Rows.OpenSpec.upto Rows.roadmapListsSpec).bare.plain.varTypes Tryz.pinned.checked.prog ++ Tryz.f5.resultTypes.toList).any (Tryz.pinned.checked.prog.wideKeysFrom ·)) = true := by kernel_rfl
theorem jf_varsR : (Rows.OpenSpec.upto Rows.roadmapListsSpec).bare.vars.all (Tryz.pinned.checked.prog.varReadable ·) = true := by kernel_rfl
theorem jf_res : Tryz.f5.resultTypes.all (fun t => Tryz.pinned.checked.prog.readableRec t && decide (t < Tryz.pinned.checked.prog.types.size)) = true := by kernel_rfl
theorem jf_ifacesOut : (Rows.roadmapListsUptoRow.ifacesOut == Tryz.f5.resultTypes.toList.any (Tryz.pinned.checked.prog.ifacesRec ·)) = true := by kernel_rfl
theorem jf_loopsOut : (Rows.roadmapListsUptoRow.loopsOut == Tryz.f5.resultTypes.toList.any (Tryz.pinned.checked.prog.loopsFrom ·)) = true := by kernel_rfl
theorem jf_plainKeys : (Rows.roadmapListsUptoRow.plainKeys == Tryz.pinned.checked.prog.plainKeys) = true := by kernel_rfl
theorem jf_short : Rows.roadmapListsUptoRow.shortTexts.isNone = true := by kernel_rfl
theorem jf_heard : Tryz.pinned.checked.prog.stopsHeard = true := by kernel_rfl
theorem jf_mayEnter : Tryz.pinned.checked.prog.mayEnter = true := by kernel_rfl
theorem jf_lifted : (Rows.roadmapListsUptoRow.lifted == Tryz.pinned.checked.prog.liftsFinal) = true := by kernel_rfl
theorem jf_make : (Tryz.pinned.checked.prog.make == some Rows.roadmapListsUptoRow.make) = true := by kernel_rfl
theorem jf_kinds : (Rows.roadmapListsUptoRow.kinds == (if Rows.roadmapListsUptoRow.domain.isEmpty then [] else Tryz.f5.params.toList.map fun t => match Tryz.pinned.checked.prog.underlying t with | some (.int k) => some k | _ => none)) = true := by kernel_rfl
theorem jf_pinned : (Rows.roadmapListsUptoRow.pinned == Rows.roadmapListsUptoRow.pinnedBy) = true := by kernel_rfl
theorem jf_veiled : (Rows.roadmapListsUptoRow.veiled == (Tryz.f5.params.toList ++ (Rows.OpenSpec.upto Rows.roadmapListsSpec).bare.plain.varTypes Tryz.pinned.checked.prog ++ Tryz.f5.resultTypes.toList).any (Tryz.pinned.checked.prog.veiledRec ·)) = true := by kernel_rfl
theorem jf_fits : Rows.roadmapListsUptoRow.veiledFits Tryz.pinned.checked.prog Tryz.f5.params.toList (Tryz.f5.params.toList ++ (Rows.OpenSpec.upto Rows.roadmapListsSpec).bare.plain.varTypes Tryz.pinned.checked.prog ++ Tryz.f5.resultTypes.toList) = true := by kernel_rfl
end roadmapLists
end Go.Abs
