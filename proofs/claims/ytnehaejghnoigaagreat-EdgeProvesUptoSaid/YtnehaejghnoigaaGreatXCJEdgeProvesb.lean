/-
  JEdgeProvesb (a part of a claim: our own text).
-/
import Derived.Test.YtnehaejghnoigaaGreatXCJEdgeProvesa
namespace Go.Abs
open Go.Proofs Go.Proofs.YtnehaejghnoigaaGreat Go.ChangeShapes Go.WideShapes Go.ChangeAt Go.RowKit
namespace edgeProves
theorem Wzf : Rows.edgeProvesUptoRow.wf (OpenSpec.ofChange (Rows.OpenSpec.upto Rows.edgeProvesSpec).bare) = true := by kernel_rfl
theorem Pz4 : Tryz.f6.params.all (Tryz.pinned.checked.prog.readableRec ·) = true := by kernel_rfl
theorem Rzd : namedTie Tryz.pinned.checked.prog Rows.edgeProvesUptoRow.named (Rows.OpenSpec.upto Rows.edgeProvesSpec).bare.vars = true := by kernel_rfl
theorem Pz1 : (Rows.edgeProvesUptoRow.stops == []) = true := by kernel_rfl
theorem Rzf : (Tryz.pinned.checked.prog.stops == []) = true := by kernel_rfl
theorem Pz0 : (Rows.edgeProvesUptoRow.knobs == []) = true := by kernel_rfl
theorem Rzb : (Tryz.pinned.checked.prog.stopKnobs == []) = true := by kernel_rfl
theorem Tzu : (Rows.edgeProvesUptoRow.maps == (Tryz.f6.params.toList ++ (Rows.OpenSpec.upto Rows.edgeProvesSpec).bare.plain.varTypes Tryz.pinned.checked.prog).any (Tryz.pinned.checked.prog.mapsRec ·)) = true := by kernel_rfl
theorem Pz2 : (Rows.edgeProvesUptoRow.ifaces == (Tryz.f6.params.toList ++ (Rows.OpenSpec.upto Rows.edgeProvesSpec).bare.plain.varTypes Tryz.pinned.checked.prog).any (Tryz.pinned.checked.prog.ifacesRec ·)) = true := by kernel_rfl
theorem Nzd : (Rows.edgeProvesUptoRow.mapsOut == Tryz.pinned.checked.prog.mapsAmong Tryz.f6.resultTypes.toList) = true := by kernel_rfl
theorem Rzc : (Rows.edgeProvesUptoRow.loops == (Tryz.f6.params.toList ++ (Rows.OpenSpec.upto Rows.edgeProvesSpec).bare.plain.varTypes Tryz.pinned.checked.prog).any (Tryz.pinned.checked.prog.loopsFrom ·)) = true := by kernel_rfl
theorem Tzw : (Rows.edgeProvesUptoRow.wideKeys == (Tryz.f6.params.toList ++ (Rows.OpenSpec.upto Rows.edgeProvesSpec).bare.plain.varTypes Tryz.pinned.checked.prog ++ Tryz.f6.resultTypes.toList).any (Tryz.pinned.checked.prog.wideKeysFrom ·)) = true := by kernel_rfl
theorem Rzg : (Rows.OpenSpec.upto Rows.edgeProvesSpec).bare.vars.all (Tryz.pinned.checked.prog.varReadable ·) = true := by kernel_rfl
theorem Vzk : Tryz.f6.resultTypes.all (fun t => Tryz.pinned.checked.prog.readableRec t && decide (t < Tryz.pinned.checked.prog.types.size)) = true := by kernel_rfl
theorem Izw : (Rows.edgeProvesUptoRow.ifacesOut == Tryz.f6.resultTypes.toList.any (Tryz.pinned.checked.prog.ifacesRec ·)) = true := by kernel_rfl
theorem Kzx : (Rows.edgeProvesUptoRow.loopsOut == Tryz.f6.resultTypes.toList.any (Tryz.pinned.checked.prog.loopsFrom ·)) = true := by kernel_rfl
theorem Izy : (Rows.edgeProvesUptoRow.plainKeys == Tryz.pinned.checked.prog.plainKeys) = true := by kernel_rfl
theorem Rze : Rows.edgeProvesUptoRow.shortTexts.isNone = true := by kernel_rfl
theorem Rz9 : Tryz.pinned.checked.prog.stopsHeard = true := by kernel_rfl
theorem Kzy : Tryz.pinned.checked.prog.mayEnter = true := by kernel_rfl
theorem Pz3 : (Rows.edgeProvesUptoRow.lifted == Tryz.pinned.checked.prog.liftsFinal) = true := by kernel_rfl
theorem Tzt : (Tryz.pinned.checked.prog.make == some Rows.edgeProvesUptoRow.make) = true := by kernel_rfl
theorem Rza : (Rows.edgeProvesUptoRow.kinds == (if Rows.edgeProvesUptoRow.domain.isEmpty then [] else Tryz.f6.params.toList.map fun t => match Tryz.pinned.checked.prog.underlying t with | some (.int k) => some k | _ => none)) = true := by kernel_rfl
theorem Pz5 : (Rows.edgeProvesUptoRow.pinned == Rows.edgeProvesUptoRow.pinnedBy) = true := by kernel_rfl
theorem Pz6 : (Rows.edgeProvesUptoRow.veiled == (Tryz.f6.params.toList ++ (Rows.OpenSpec.upto Rows.edgeProvesSpec).bare.plain.varTypes Tryz.pinned.checked.prog ++ Tryz.f6.resultTypes.toList).any (Tryz.pinned.checked.prog.veiledRec ·)) = true := by kernel_rfl
theorem Tzr : Rows.edgeProvesUptoRow.veiledFits Tryz.pinned.checked.prog Tryz.f6.params.toList (Tryz.f6.params.toList ++ (Rows.OpenSpec.upto Rows.edgeProvesSpec).bare.plain.varTypes Tryz.pinned.checked.prog ++ Tryz.f6.resultTypes.toList) = true := by kernel_rfl
end edgeProves
end Go.Abs
