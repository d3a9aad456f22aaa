/-
  JEdgeCollidesb (a part of a claim: our own text).
-/
import Derived.Test.YtnehaejghnoigaaGreatXAJEdgeCollidesa
namespace Go.Abs
open Go.Proofs Go.Proofs.YtnehaejghnoigaaGreat Go.ChangeShapes Go.WideShapes Go.ChangeAt Go.RowKit
namespace edgeCollides
theorem jf_wf : Rows.edgeCollidesUptoRow.wf (OpenSpec.ofChange (Rows.OpenSpec.upto Rows.edgeCollidesSpec).bare) = true := by kernel_rfl
theorem jf_params : Tryz.f11.params.all (Tryz.pinned.checked.prog.readableRec ·) = true := by kernel_rfl
theorem jf_named : namedTie Tryz.pinned.checked.prog Rows.edgeCollidesUptoRow.named (Rows.OpenSpec.upto Rows.edgeCollidesSpec).bare.vars = true := by kernel_rfl
theorem jf_cstops : (Rows.edgeCollidesUptoRow.stops == []) = true := by kernel_rfl
theorem jf_stops : (Tryz.pinned.checked.prog.stops == []) = true := by kernel_rfl
theorem jf_cknobs : (Rows.edgeCollidesUptoRow.knobs == []) = true := by kernel_rfl
theorem jf_knobs : (Tryz.pinned.checked.prog.stopKnobs == []) = true := by kernel_rfl
theorem jf_maps : (Rows.edgeCollidesUptoRow.maps == (Tryz.f11.params.toList ++ (Rows.OpenSpec.upto Rows.edgeCollidesSpec).bare.plain.varTypes Tryz.pinned.checked.prog).any (Tryz.pinned.checked.prog.mapsRec ·)) = true := by kernel_rfl
theorem jf_ifaces : (Rows.edgeCollidesUptoRow.ifaces == (Tryz.f11.params.toList ++ (Rows.OpenSpec.upto Rows.edgeCollidesSpec).bare.plain.varTypes Tryz.pinned.checked.prog).any (Tryz.pinned.checked.prog.ifacesRec ·)) = true := by kernel_rfl
theorem jf_mapsOut : (Rows.edgeCollidesUptoRow.mapsOut == Tryz.pinned.checked.prog.mapsAmong Tryz.f11.resultTypes.toList) = true := by kernel_rfl
theorem jf_loops : (Rows.edgeCollidesUptoRow.loops == (Tryz.f11.params.toList ++ (Rows.OpenSpec.upto Rows.edgeCollidesSpec).bare.plain.varTypes Tryz.pinned.checked.prog).any (Tryz.pinned.checked.prog.loopsFrom ·)) = true := by kernel_rfl
theorem jf_wide : (Rows.edgeCollidesUptoRow.wideKeys == (Tryz.f11.params.toList ++ (Rows.OpenSpec.upto Rows.edgeCollidesSpec).bare.plain.varTypes Tryz.pinned.checked.prog ++ Tryz.f11.resultTypes.toList).any (Tryz.pinned.checked.prog.wideKeysFrom ·)) = true := by kernel_rfl
theorem jf_varsR : (Rows.OpenSpec.upto Rows.edgeCollidesSpec).bare.vars.all (Tryz.pinned.checked.prog.varReadable ·) = true := by kernel_rfl
theorem jf_res : Tryz.f11.resultTypes.all (fun t => Tryz.pinned.checked.prog.readableRec t && decide (t < Tryz.pinned.checked.prog.types.size)) = true := by kernel_rfl
theorem jf_ifacesOut : (Rows.edgeCollidesUptoRow.ifacesOut == Tryz.f11.resultTypes.toList.any (Tryz.pinned.checked.prog.ifacesRec ·)) = true := by kernel_rfl
theorem jf_loopsOut : (Rows.edgeCollidesUptoRow.loopsOut == Tryz.f11.resultTypes.toList.any (Tryz.pinned.checked.prog.loopsFrom ·)) = true := by kernel_rfl
theorem jf_plainKeys : (Rows.edgeCollidesUptoRow.plainKeys == Tryz.pinned.checked.prog.plainKeys) = true := by kernel_rfl
theorem jf_short : Rows.edgeCollidesUptoRow.shortTexts.isNone = true := by kernel_rfl
theorem jf_heard : Tryz.pinned.checked.prog.stopsHeard = true := by kernel_rfl
theorem jf_mayEnter : Tryz.pinned.checked.prog.mayEnter = true := by kernel_rfl
theorem jf_lifted : (Rows.edgeCollidesUptoRow.lifted == Tryz.pinned.checked.prog.liftsFinal) = true := by kernel_rfl
theorem jf_make : (Tryz.pinned.checked.prog.make == some Rows.edgeCollidesUptoRow.make) = true := by kernel_rfl
theorem jf_kinds : (Rows.edgeCollidesUptoRow.kinds == (if Rows.edgeCollidesUptoRow.domain.isEmpty then [] else Tryz.f11.params.toList.map fun t => match Tryz.pinned.checked.prog.underlying t with | some (.int k) => some k | _ => none)) = true := by kernel_rfl
theorem jf_pinned : (Rows.edgeCollidesUptoRow.pinned == Rows.edgeCollidesUptoRow.pinnedBy) = true := by kernel_rfl
theorem jf_veiled : (Rows.edgeCollidesUptoRow.veiled == (Tryz.f11.params.toList ++ (Rows.OpenSpec.upto Rows.edgeCollidesSpec).bare.plain.varTypes Tryz.pinned.checked.prog ++ Tryz.f11.resultTypes.toList).any (Tryz.pinned.checked.prog.veiledRec ·)) = true := by kernel_rfl
theorem jf_fits : Rows.edgeCollidesUptoRow.veiledFits Tryz.pinned.checked.prog Tryz.f11.params.toList (Tryz.f11.params.toList ++ (Rows.OpenSpec.upto Rows.edgeCollidesSpec).bare.plain.varTypes Tryz.pinned.checked.prog ++ Tryz.f11.resultTypes.toList) = true := by kernel_rfl
end edgeCollides
end Go.Abs
