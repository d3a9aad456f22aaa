/-
  JEdgecheckExclusiveb (a part of a claim: our own text).
-/
import Derived.Test.YtnehaejghnoigaaGreatXGJEdgecheckExclusivea
namespace Go.Abs
open Go.Proofs Go.Proofs.YtnehaejghnoigaaGreat Go.ChangeShapes Go.WideShapes Go.ChangeAt Go.RowKit
namespace edgecheckExclusive
theorem jf_wf : Rows.edgecheckExclusiveUptoRow.wf (OpenSpec.ofChange (Rows.OpenSpec.upto Rows.edgecheckExclusiveSpec).bare) = true := by kernel_rfl
theorem jf_params : Tryz.f14.params.all (Tryz.pinned.checked.prog.readableRec ·) = true := by kernel_rfl
theorem jf_named : namedTie Tryz.pinned.checked.prog Rows.edgecheckExclusiveUptoRow.named (Rows.OpenSpec.upto Rows.edgecheckExclusiveSpec).bare.vars = true := by kernel_rfl
theorem jf_cstops : (Rows.edgecheckExclusiveUptoRow.stops == []) = true := by kernel_rfl
theorem jf_stops : (Tryz.pinned.checked.prog.stops == []) = true := by kernel_rfl
theorem jf_cknobs : (Rows.edgecheckExclusiveUptoRow.knobs == []) = true := by kernel_rfl
theorem jf_knobs : (Tryz.pinned.checked.prog.stopKnobs == []) = true := by kernel_rfl
theorem jf_maps : (Rows.edgecheckExclusiveUptoRow.maps == (Tryz.f14.params.toList ++ (Rows.OpenSpec.upto Rows.edgecheckExclusiveSpec).bare.plain.varTypes Tryz.pinned.checked.prog).any (Tryz.pinned.checked.prog.mapsRec ·)) = true := by kernel_rfl
theorem jf_ifaces : (Rows.edgecheckExclusiveUptoRow.ifaces == (Tryz.f14.params.toList ++ (Rows.OpenSpec.upto Rows.edgecheckExclusiveSpec).bare.plain.varTypes Tryz.pinned.checked.prog).any (Tryz.pinned.checked.prog.ifacesRec ·)) = true := by kernel_rfl
theorem jf_mapsOut : (Rows.edgecheckExclusiveUptoRow.mapsOut == Tryz.pinned.checked.prog.mapsAmong Tryz.f14.resultTypes.toList) = true := by kernel_rfl
theorem jf_loops : (Rows.edgecheckExclusiveUptoRow.loops == (Tryz.f14.params.toList ++ (Rows.OpenSpec.upto Rows.edgecheckExclusiveSpec).bare.plain.varTypes Tryz.pinned.checked.prog).any (Tryz.pinned.checked.prog.loopsFrom ·)) = true := by kernel_rfl
theorem jf_wide : (Rows.edgecheckExclusiveUptoRow.wideKeys == (Tryz.f14.params.toList ++ (Rows.OpenSpec.upto Rows.edgecheckExclusiveSpec).bare.plain.varTypes Tryz.pinned.checked.prog ++ Tryz.f14.resultTypes.toList).any (Tryz.pinned.checked.prog.wideKeysFrom ·)) = true := by kernel_rfl
theorem jf_varsR : (Rows.OpenSpec.upto Rows.edgecheckExclusiveSpec).bare.vars.all (Tryz.pinned.checked.prog.varReadable ·) = true := by kernel_rfl
theorem jf_res : Tryz.f14.resultTypes.all (fun t => Tryz.pinned.checked.prog.readableRec t && decide (t < Tryz.pinned.checked.prog.types.size)) = true := by kernel_rfl
theorem jf_ifacesOut : (Rows.edgecheckExclusiveUptoRow.ifacesOut == Tryz.f14.resultTypes.toList.any (Tryz.pinned.checked.prog.ifacesRec ·)) = true := by kernel_rfl
theorem jf_loopsOut : (Rows.edgecheckExclusiveUptoRow.loopsOut == Tryz.f14.resultTypes.toList.any (Tryz.pinned.checked.prog.loopsFrom ·)) = true := by kernel_rfl
theorem jf_plainKeys : (Rows.edgecheckExclusiveUptoRow.plainKeys == Tryz.pinned.checked.prog.plainKeys) = true := by kernel_rfl
theorem jf_short : Rows.edgecheckExclusiveUptoRow.shortTexts.isNone = true := by kernel_rfl
theorem jf_heard : Tryz.pinned.checked.prog.stopsHeard = true := by kernel_rfl
theorem jf_mayEnter : Tryz.pinned.checked.prog.mayEnter = true := by kernel_rfl
theorem jf_lifted : (Rows.edgecheckExclusiveUptoRow.lifted == Tryz.pinned.checked.prog.liftsFinal) = true := by kernel_rfl
theorem jf_make : (Tryz.pinned.checked.prog.make == some Rows.edgecheckExclusiveUptoRow.make) = true := by kernel_rfl
theorem jf_kinds : (Rows.edgecheckExclusiveUptoRow.kinds == (if Rows.edgecheckExclusiveUptoRow.domain.isEmpty then [] else Tryz.f14.params.toList.map fun t => match Tryz.pinned.checked.prog.underlying t with | some (.int k) => some k | _ => none)) = true := by kernel_rfl
theorem jf_pinned : (Rows.edgecheckExclusiveUptoRow.pinned == Rows.edgecheckExclusiveUptoRow.pinnedBy) = true := by kernel_rfl
theorem jf_veiled : (Rows.edgecheckExclusiveUptoRow.veiled == (Tryz.f14.params.toList ++ (Rows.OpenSpec.upto Rows.edgecheckExclusiveSpec).bare.plain.varTypes Tryz.pinned.checked.prog ++ Tryz.f14.resultTypes.toList).any (Tryz.pinned.checked.prog.veiledRec ·)) = true := by kernel_rfl
theorem jf_fits : Rows.edgecheckExclusiveUptoRow.veiledFits Tryz.pinned.checked.prog Tryz.f14.params.toList (Tryz.f14.params.toList ++ (Rows.OpenSpec.upto Rows.edgecheckExclusiveSpec).bare.plain.varTypes Tryz.pinned.checked.prog ++ Tryz.f14.resultTypes.toList) = true := by kernel_rfl
end edgecheckExclusive
end Go.Abs
