/-
  JEdgecheckReversesb (a part of a claim: our own text).
-/
import Derived.Test.YtnehaejghnoigaaGreatXBJEdgecheckReversesa
namespace Go.Abs
open Go.Proofs Go.Proofs.YtnehaejghnoigaaGreat Go.ChangeShapes Go.WideShapes Go.ChangeAt Go.RowKit
namespace edgecheckReverses
theorem jf_wf : Rows.edgecheckReversesUptoRow.wf (OpenSpec.ofChange (Rows.OpenSpec.upto Rows.edgecheckReversesSpec).bare) = true := by kernel_rfl
theorem jf_params : Tryz.f12.params.all (Tryz.pinned.checked.prog.readableRec ·) = true := by kernel_rfl
theorem jf_named : namedTie Tryz.pinned.checked.prog Rows.edgecheckReversesUptoRow.named (Rows.OpenSpec.upto Rows.edgecheckReversesSpec).bare.vars = true := by kernel_rfl
theorem jf_cstops : (Rows.edgecheckReversesUptoRow.stops == []) = true := by kernel_rfl
theorem jf_stops : (Tryz.pinned.checked.prog.stops == []) = true := by kernel_rfl
theorem jf_cknobs : (Rows.edgecheckReversesUptoRow.knobs == []) = true := by kernel_rfl
theorem jf_knobs : (Tryz.pinned.checked.prog.stopKnobs == []) = true := by kernel_rfl
theorem jf_maps : (Rows.edgecheckReversesUptoRow.maps == (Tryz.f12.params.toList ++ (Rows.OpenSpec.upto Rows.edgecheckReversesSpec).bare.plain.varTypes Tryz.pinned.checked.prog).any (Tryz.pinned.checked.prog.mapsRec ·)) = true := by kernel_rfl
theorem jf_ifaces : (Rows.edgecheckReversesUptoRow.ifaces == (Tryz.f12.params.toList ++ (Rows.OpenSpec.upto Rows.edgecheckReversesSpec).bare.plain.varTypes Tryz.pinned.checked.prog).any (Tryz.pinned.checked.prog.ifacesRec ·)) = true := by kernel_rfl
theorem jf_mapsOut : (Rows.edgecheckReversesUptoRow.mapsOut == Tryz.pinned.checked.prog.mapsAmong Tryz.f12.resultTypes.toList) = true := by kernel_rfl
theorem jf_loops : (Rows.edgecheckReversesUptoRow.loops == (Tryz.f12.params.toList ++ (Rows.OpenSpec.upto Rows.edgecheckReversesSpec).bare.plain.varTypes Tryz.pinned.checked.prog).any (Tryz.pinned.checked.prog.loopsFrom ·)) = true := by kernel_rfl
theorem jf_wide : (Rows.edgecheckReversesUptoRow.wideKeys == (Tryz.f12.params.toList ++ (Rows.OpenSpec.upto Rows.edgecheckReversesSpec).bare.plain.varTypes Tryz.pinned.checked.prog ++ Tryz.f12.resultTypes.toList).any (Tryz.pinned.checked.prog.wideKeysFrom ·)) = true := by kernel_rfl
theorem jf_varsR : (Rows.OpenSpec.upto Rows.edgecheckReversesSpec).bare.vars.all (Tryz.pinned.checked.prog.varReadable ·) = true := by kernel_rfl
theorem jf_res : Tryz.f12.resultTypes.all (fun t => Tryz.pinned.checked.prog.readableRec t && decide (t < Tryz.pinned.checked.prog.types.size)) = true := by kernel_rfl
theorem jf_ifacesOut : (Rows.edgecheckReversesUptoRow.ifacesOut == Tryz.f12.resultTypes.toList.any (Tryz.pinned.checked.prog.ifacesRec ·)) = true := by kernel_rfl
theorem jf_loopsOut : (Rows.edgecheckReversesUptoRow.loopsOut == Tryz.f12.resultTypes.toList.any (Tryz.pinned.checked.prog.loopsFrom ·)) = true := by kernel_rfl
theorem jf_plainKeys : (Rows.edgecheckReversesUptoRow.plainKeys == Tryz.pinned.checked.prog.plainKeys) = true := by kernel_rfl
theorem jf_short : Rows.edgecheckReversesUptoRow.shortTexts.isNone = true := by kernel_rfl
theorem jf_heard : Tryz.pinned.checked.prog.stopsHeard = true := by kernel_rfl
theorem jf_mayEnter : Tryz.pinned.checked.prog.mayEnter = true := by kernel_rfl
theorem jf_lifted : (Rows.edgecheckReversesUptoRow.lifted == Tryz.pinned.checked.prog.liftsFinal) = true := by kernel_rfl
theorem jf_make : (Tryz.pinned.checked.prog.make == some Rows.edgecheckReversesUptoRow.make) = true := by kernel_rfl
theorem jf_kinds : (Rows.edgecheckReversesUptoRow.kinds == (if Rows.edgecheckReversesUptoRow.domain.isEmpty then [] else Tryz.f12.params.toList.map fun t => match Tryz.pinned.checked.prog.underlying t with | some (.int k) => some k | _ => none)) = true := by kernel_rfl
theorem jf_pinned : (Rows.edgecheckReversesUptoRow.pinned == Rows.edgecheckReversesUptoRow.pinnedBy) = true := by kernel_rfl
theorem jf_veiled : (Rows.edgecheckReversesUptoRow.veiled == (Tryz.f12.params.toList ++ (Rows.OpenSpec.upto Rows.edgecheckReversesSpec).bare.plain.varTypes Tryz.pinned.checked.prog ++ Tryz.f12.resultTypes.toList).any (Tryz.pinned.checked.prog.veiledRec ·)) = true := by kernel_rfl
theorem jf_fits : Rows.edgecheckReversesUptoRow.veiledFits Tryz.pinned.checked.prog Tryz.f12.params.toList (Tryz.f12.params.toList ++ (Rows.OpenSpec.upto Rows.edgecheckReversesSpec).bare.plain.varTypes Tryz.pinned.checked.prog ++ Tryz.f12.resultTypes.toList) = true := by kernel_rfl
end edgecheckReverses
end Go.Abs
