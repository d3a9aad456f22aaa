/-
  JEdgecheckInstantb (a part of a claim: our own text).
-/
import Derived.Test.YtnehaejghnoigaaGreatXBJEdgecheckInstanta
namespace Go.Abs
open Go.Proofs Go.Proofs.YtnehaejghnoigaaGreat Go.ChangeShapes Go.WideShapes Go.ChangeAt Go.RowKit
namespace edgecheckInstant
theorem jf_wf : Rows.edgecheckInstantUptoRow.wf (OpenSpec.ofChange (Rows.OpenSpec.upto Rows.edgecheckInstantSpec).bare) = true := by kernel_rfl
theorem jf_params : Tryz.f13.params.all (Tryz.pinned.checked.prog.readableRec ·) = true := by kernel_rfl
theorem jf_named : namedTie Tryz.pinned.checked.prog Rows.edgecheckInstantUptoRow.named (Rows.OpenSpec.upto Rows.edgecheckInstantSpec).bare.vars = true := by kernel_rfl
theorem jf_cstops : (Rows.edgecheckInstantUptoRow.stops == []) = true := by kernel_rfl
theorem jf_stops : (Tryz.pinned.checked.prog.stops == []) = true := by kernel_rfl
theorem jf_cknobs : (Rows.edgecheckInstantUptoRow.knobs == []) = true := by kernel_rfl
theorem jf_knobs : (Tryz.pinned.checked.prog.stopKnobs == []) = true := by kernel_rfl
theorem jf_maps : (Rows.edgecheckInstantUptoRow.maps == (Tryz.f13.params.toList ++ (Rows.OpenSpec.upto Rows.edgecheckInstantSpec).bare.plain.varTypes Tryz.pinned.checked.prog).any (Tryz.pinned.checked.prog.mapsRec ·)) = true := by kernel_rfl
theorem jf_ifaces : (Rows.edgecheckInstantUptoRow.ifaces == (Tryz.f13.params.toList ++ (Rows.OpenSpec.upto Rows.edgecheckInstantSpec).bare.plain.varTypes Tryz.pinned.checked.prog).any (Tryz.pinned.checked.prog.ifacesRec ·)) = true := by kernel_rfl
theorem jf_mapsOut : (Rows.edgecheckInstantUptoRow.mapsOut == Tryz.pinned.checked.prog.mapsAmong Tryz.f13.resultTypes.toList) = true := by kernel_rfl
theorem jf_loops : (Rows.edgecheckInstantUptoRow.loops == (Tryz.f13.params.toList ++ (Rows.OpenSpec.upto Rows.edgecheckInstantSpec).bare.plain.varTypes Tryz.pinned.checked.prog).any (Tryz.pinned.checked.prog.loopsFrom ·)) = true := by kernel_rfl
theorem jf_wide : (Rows.edgecheckInstantUptoRow.wideKeys == (Tryz.f13.params.toList ++ (Rows.OpenSpec.upto Rows.edgecheckInstantSpec).bare.plain.varTypes Tryz.pinned.checked.prog ++ Tryz.f13.resultTypes.toList).any (Tryz.pinned.checked.prog.wideKeysFrom ·)) = true := by kernel_rfl
theorem jf_varsR : (Rows.OpenSpec.upto Rows.edgecheckInstantSpec).bare.vars.all (Tryz.pinned.checked.prog.varReadable ·) = true := by kernel_rfl
theorem jf_res : Tryz.f13.resultTypes.all (fun t => Tryz.pinned.checked.prog.readableRec t && decide (t < Tryz.pinned.checked.prog.types.size)) = true := by kernel_rfl
theorem jf_ifacesOut : (Rows.edgecheckInstantUptoRow.ifacesOut == Tryz.f13.resultTypes.toList.any (Tryz.pinned.checked.prog.ifacesRec ·)) = true := by kernel_rfl
theorem jf_loopsOut : (Rows.edgecheckInstantUptoRow.loopsOut == Tryz.f13.resultTypes.toList.any (Tryz.pinned.checked.prog.loopsFrom ·)) = true := by kernel_rfl
theorem jf_plainKeys : (Rows.edgecheckInstantUptoRow.plainKeys == Tryz.pinned.checked.prog.plainKeys) = true := by kernel_rfl
theorem jf_short : Rows.edgecheckInstantUptoRow.shortTexts.isNone = true := by kernel_rfl
theorem jf_heard : Tryz.pinned.checked.prog.stopsHeard = true := by kernel_rfl
theorem jf_mayEnter : Tryz.pinned.checked.prog.mayEnter = true := by kernel_rfl
theorem jf_lifted : (Rows.edgecheckInstantUptoRow.lifted == Tryz.pinned.checked.prog.liftsFinal) = true := by kernel_rfl
theorem jf_make : (Tryz.pinned.checked.prog.make == some Rows.edgecheckInstantUptoRow.make) = true := by kernel_rfl
theorem jf_kinds : (Rows.edgecheckInstantUptoRow.kinds == (if Rows.edgecheckInstantUptoRow.domain.isEmpty then [] else Tryz.f13.params.toList.map fun t => match Tryz.pinned.checked.prog.underlying t with | some (.int k) => some k | _ => none)) = true := by kernel_rfl
theorem jf_pinned : (Rows.edgecheckInstantUptoRow.pinned == Rows.edgecheckInstantUptoRow.pinnedBy) = true := by kernel_rfl
theorem jf_veiled : (Rows.edgecheckInstantUptoRow.veiled == (Tryz.f13.params.toList ++ (Rows.OpenSpec.upto Rows.edgecheckInstantSpec).bare.plain.varTypes Tryz.pinned.checked.prog ++ Tryz.f13.resultTypes.toList).any (Tryz.pinned.checked.prog.veiledRec ·)) = true := by kernel_rfl
theorem jf_fits : Rows.edgecheckInstantUptoRow.veiledFits Tryz.pinned.checked.prog Tryz.f13.params.toList (Tryz.f13.params.toList ++ (Rows.OpenSpec.upto Rows.edgecheckInstantSpec).bare.plain.varTypes Tryz.pinned.checked.prog ++ Tryz.f13.resultTypes.toList) = true := by kernel_rfl
end edgecheckInstant
end Go.Abs
