/-
  JEdgeCoversb (a part of a claim: our own text).
-/
import Derived.Test.YtnehaejghnoigaaGreatXAJEdgeCoversa
namespace Go.Abs
open Go.Proofs Go.Proofs.YtnehaejghnoigaaGreat Go.ChangeShapes Go.WideShapes Go.ChangeAt Go.RowKit
namespace edgeCovers
theorem jf_wf : Rows.edgeCoversUptoRow.wf (OpenSpec.ofChange (Rows.OpenSpec.upto Rows.edgeCoversSpec).bare) = true := by kernel_rfl
theorem jf_params : Tryz.f8.params.all (Tryz.pinned.checked.prog.readableRec ·) = true := by kernel_rfl
theorem jf_named : namedTie Tryz.pinned.checked.prog Rows.edgeCoversUptoRow.named (Rows.OpenSpec.upto Rows.edgeCoversSpec).bare.vars = true := by kernel_rfl
theorem jf_cstops : (Rows.edgeCoversUptoRow.stops == []) = true := by kernel_rfl
theorem jf_stops : (Tryz.pinned.checked.prog.stops == []) = true := by kernel_rfl
theorem jf_cknobs : (Rows.edgeCoversUptoRow.knobs == []) = true := by kernel_rfl
theorem jf_knobs : (Tryz.pinned.checked.prog.stopKnobs == []) = true := by kernel_rfl
theorem jf_maps : (Rows.edgeCoversUptoRow.maps == (Tryz.f8.params.toList ++ (Rows.OpenSpec.upto Rows.edgeCoversSpec).bare.plain.varTypes Tryz.pinned.checked.prog).any (Tryz.pinned.checked.prog.mapsRec ·)) = true := by kernel_rfl
theorem jf_ifaces : (Rows.edgeCoversUptoRow.ifaces == (Tryz.f8.params.toList ++ (Rows.OpenSpec.upto Rows.edgeCoversSpec).bare.plain.varTypes Tryz.pinned.checked.prog).any (Tryz.pinned.checked.prog.ifacesRec ·)) = true := by kernel_rfl
theorem jf_mapsOut : (Rows.edgeCoversUptoRow.mapsOut == Tryz.pinned.checked.prog.mapsAmong Tryz.f8.resultTypes.toList) = true := by kernel_rfl
theorem jf_loops : (Rows.edgeCoversUptoRow.loops == (Tryz.f8.params.toList ++ (Rows.OpenSpec.upto Rows.edgeCoversSpec).bare.plain.varTypes Tryz.pinned.checked.prog).any (Tryz.pinned.checked.prog.loopsFrom ·)) = true := by kernel_rfl
theorem jf_wide : (Rows.edgeCoversUptoRow.wideKeys == (Tryz.f8.params.toList ++ (Rows.OpenSpec.upto Rows.edgeCoversSpec).bare.plain.varTypes Tryz.pinned.checked.prog ++ Tryz.f8.resultTypes.toList).any (Tryz.pinned.checked.prog.wideKeysFrom ·)) = true := by kernel_rfl
theorem jf_varsR : (Rows.OpenSpec.upto Rows.edgeCoversSpec).bare.vars.all (Tryz.pinned.checked.prog.varReadable ·) = true := by kernel_rfl
theorem jf_res : Tryz.f8.resultTypes.all (fun t => Tryz.pinned.checked.prog.readableRec t && decide (t < Tryz.pinned.checked.prog.types.size)) = true := by kernel_rfl
theorem jf_ifacesOut : (Rows.edgeCoversUptoRow.ifacesOut == Tryz.f8.resultTypes.toList.any (Tryz.pinned.checked.prog.ifacesRec ·)) = true := by kernel_rfl
theorem jf_loopsOut : (Rows.edgeCoversUptoRow.loopsOut == Tryz.f8.resultTypes.toList.any (Tryz.pinned.checked.prog.loopsFrom ·)) = true := by kernel_rfl
theorem jf_plainKeys : (Rows.edgeCoversUptoRow.plainKeys == Tryz.pinned.checked.prog.plainKeys) = true := by kernel_rfl
theorem jf_short : Rows.edgeCoversUptoRow.shortTexts.isNone = true := by kernel_rfl
theorem jf_heard : Tryz.pinned.checked.prog.stopsHeard = true := by kernel_rfl
theorem jf_mayEnter : Tryz.pinned.checked.prog.mayEnter = true := by kernel_rfl
theorem jf_lifted : (Rows.edgeCoversUptoRow.lifted == Tryz.pinned.checked.prog.liftsFinal) = true := by kernel_rfl
theorem jf_make : (Tryz.pinned.checked.prog.make == some Rows.edgeCoversUptoRow.make) = true := by kernel_rfl
theorem jf_kinds : (Rows.edgeCoversUptoRow.kinds == (if Rows.edgeCoversUptoRow.domain.isEmpty then [] else Tryz.f8.params.toList.map fun t => match Tryz.pinned.checked.prog.underlying t with | some (.int k) => some k | _ => none)) = true := by kernel_rfl
theorem jf_pinned : (Rows.edgeCoversUptoRow.pinned == Rows.edgeCoversUptoRow.pinnedBy) = true := by kernel_rfl
theorem jf_veiled : (Rows.edgeCoversUptoRow.veiled == (Tryz.f8.params.toList ++ (Rows.OpenSpec.upto Rows.edgeCoversSpec).bare.plain.varTypes Tryz.pinned.checked.prog ++ Tryz.f8.resultTypes.toList).any (Tryz.pinned.checked.prog.veiledRec ·)) = true := by kernel_rfl
theorem jf_fits : Rows.edgeCoversUptoRow.veiledFits Tryz.pinned.checked.prog Tryz.f8.params.toList (Tryz.f8.params.toList ++ (Rows.OpenSpec.upto Rows.edgeCoversSpec).bare.plain.varTypes Tryz.pinned.checked.prog ++ Tryz.f8.resultTypes.toList) = true := by kernel_rfl
end edgeCovers
end Go.Abs
