/-
  The closed facts of the row of edgecheckAccepts, limb by limb (printed by jf.py).
-/
import Derived.Test.YtnehaejghnoigaaGreatJ20ba
namespace Go.Abs
open Go.Proofs Go.Proofs.YtnehaejghnoigaaGreat Go.ChangeShapes Go.WideShapes Go.ChangeAt Go.RowKit
namespace edgecheckAccepts
theorem jf_wf : Rows.edgecheckAcceptsUptoRow.wf (OpenSpec.ofChange (Rows.OpenSpec.upto Rows.edgecheckAcceptsSpec).bare) = true := by kernel_rfl
theorem jf_params : Tryz.f4.params.all (Tryz.pinned.checked.prog.readableRec ·) = true := by kernel_rfl
theorem jf_named : namedTie Tryz.pinned.checked.prog Rows.edgecheckAcceptsUptoRow.named (Rows.OpenSpec.upto Rows.edgecheckAcceptsSpec).bare.vars = true := by kernel_rfl
theorem jf_cstops : (Rows.edgecheckAcceptsUptoRow.stops == []) = true := by kernel_rfl
theorem jf_stops : (Tryz.pinned.checked.prog.stops == []) = true := by kernel_rfl
theorem jf_cknobs : (Rows.edgecheckAcceptsUptoRow.knobs == []) = true := by kernel_rfl
theorem jf_knobs : (Tryz.pinned.checked.prog.stopKnobs == []) = true := by kernel_rfl
theorem jf_maps : (Rows.edgecheckAcceptsUptoRow.maps == (Tryz.f4.params.toList ++ (Rows.OpenSpec.upto Rows.edgecheckAcceptsSpec).bare.plain.varTypes Tryz.pinned.checked.prog).any (Tryz.pinned.checked.prog.mapsRec ·)) = true := by kernel_rfl
theorem jf_ifaces : (Rows.edgecheckAcceptsUptoRow.ifaces == (Tryz.f4.params.toList ++ (Rows.OpenSpec.upto Rows.edgecheckAcceptsSpec).bare.plain.varTypes Tryz.pinned.checked.prog).any (Tryz.pinned.checked.prog.ifacesRec ·)) = true := by kernel_rfl
theorem jf_mapsOut : (Rows.edgecheckAcceptsUptoRow.mapsOut == Tryz.pinned.checked.prog.mapsAmong Tryz.f4.resultTypes.toList) = true := by kernel_rfl
theorem jf_loops : (Rows.edgecheckAcceptsUptoRow.loops == (Tryz.f4.params.toList ++ (Rows.OpenSpec.upto Rows.edgecheckAcceptsSpec).bare.plain.varTypes Tryz.pinned.checked.prog).any (Tryz.pinned.checked.prog.loopsFrom ·)) = true := by kernel_rfl
theorem jf_wide : (Rows.edgecheckAcceptsUptoRow.wideKeys == (Tryz.f4.params.toList ++ (Rows.OpenSpec.upto Rows.edgecheckAcceptsSpec).bare.plain.varTypes Tryz.pinned.checked.prog ++ Tryz.f4.resultTypes.toList).any (Tryz.pinned.checked.prog.wideKeysFrom ·)) = true := by kernel_rfl
theorem jf_varsR : (Rows.OpenSpec.upto Rows.edgecheckAcceptsSpec).bare.vars.all (Tryz.pinned.checked.prog.varReadable ·) = true := by kernel_rfl
theorem jf_res : Tryz.f4.resultTypes.all (fun t => Tryz.pinned.checked.prog.readableRec t && decide (t < Tryz.pinned.checked.prog.types.size)) = true := by kernel_rfl
theorem jf_ifacesOut : (Rows.edgecheckAcceptsUptoRow.ifacesOut == Tryz.f4.resultTypes.toList.any (Tryz.pinned.checked.prog.ifacesRec ·)) = true := by kernel_rfl
theorem jf_loopsOut : (Rows.edgecheckAcceptsUptoRow.loopsOut == Tryz.f4.resultTypes.toList.any (Tryz.pinned.checked.prog.loopsFrom ·)) = true := by kernel_rfl
theorem jf_plainKeys : (Rows.edgecheckAcceptsUptoRow.plainKeys == Tryz.pinned.checked.prog.plainKeys) = true := by kernel_rfl
theorem jf_short : Rows.edgecheckAcceptsUptoRow.shortTexts.isNone = true := by kernel_rfl
theorem jf_heard : Tryz.pinned.checked.prog.stopsHeard = true := by kernel_rfl
theorem jf_mayEnter : Tryz.pinned.checked.prog.mayEnter = true := by kernel_rfl
theorem jf_lifted : (Rows.edgecheckAcceptsUptoRow.lifted == Tryz.pinned.checked.prog.liftsFinal) = true := by kernel_rfl
theorem jf_make : (Tryz.pinned.checked.prog.make == some Rows.edgecheckAcceptsUptoRow.make) = true := by kernel_rfl
theorem jf_kinds : (Rows.edgecheckAcceptsUptoRow.kinds == (if Rows.edgecheckAcceptsUptoRow.domain.isEmpty then [] else Tryz.f4.params.toList.map fun t => match Tryz.pinned.checked.prog.underlying t with | some (.int k) => some k | _ => none)) = true := by kernel_rfl
theorem jf_pinned : (Rows.edgecheckAcceptsUptoRow.pinned == Rows.edgecheckAcceptsUptoRow.pinnedBy) = true := by kernel_rfl
theorem jf_veiled : (Rows.edgecheckAcceptsUptoRow.veiled == (Tryz.f4.params.toList ++ (Rows.OpenSpec.upto Rows.edgecheckAcceptsSpec).bare.plain.varTypes Tryz.pinned.checked.prog ++ Tryz.f4.resultTypes.toList).any (Tryz.pinned.checked.prog.veiledRec ·)) = true := by kernel_rfl
theorem jf_fits : Rows.edgecheckAcceptsUptoRow.veiledFits Tryz.pinned.checked.prog Tryz.f4.params.toList (Tryz.f4.params.toList ++ (Rows.OpenSpec.upto Rows.edgecheckAcceptsSpec).bare.plain.varTypes Tryz.pinned.checked.prog ++ Tryz.f4.resultTypes.toList) = true := by kernel_rfl
end edgecheckAccepts
end Go.Abs
