/-
  JTaskPlanReadyb (a part of a claim: our own text).
-/
import Derived.Test.YtlmicknhpllbdaaGreatDoorYMJTaskPlanReadya
namespace Go.Abs
open Go.Proofs Go.Proofs.YtlmicknhpllbdaaGreatDoor Go.ChangeShapes Go.WideShapes Go.ChangeAt Go.RowKit
namespace taskPlanReady
theorem azh4:Rows.taskPlanReadyUptoRow.wf (OpenSpec.ofChange (Rows.OpenSpec.upto Rows.taskPlanReadySpec).bare)=true:=by kernel_rfl
theorem az6f:Tryz.f4.params.all (Tryz.pinned.checked.prog.readableRec ·)=true:=by kernel_rfl
theorem az9y:namedTie Tryz.pinned.checked.prog Rows.taskPlanReadyUptoRow.named (Rows.OpenSpec.upto Rows.taskPlanReadySpec).bare.vars=true:=by kernel_rfl
theorem az6c:(Rows.taskPlanReadyUptoRow.stops==[])=true:=by kernel_rfl
theorem aza0:(Tryz.pinned.checked.prog.stops==[])=true:=by kernel_rfl
theorem az6b:(Rows.taskPlanReadyUptoRow.knobs==[])=true:=by kernel_rfl
theorem az9w:(Tryz.pinned.checked.prog.stopKnobs==[])=true:=by kernel_rfl
theorem azdp:(Rows.taskPlanReadyUptoRow.maps==(Tryz.f4.params.toList++(Rows.OpenSpec.upto Rows.taskPlanReadySpec).bare.plain.varTypes Tryz.pinned.checked.prog).any (Tryz.pinned.checked.prog.mapsRec ·))=true:=by kernel_rfl
theorem az6d:(Rows.taskPlanReadyUptoRow.ifaces==(Tryz.f4.params.toList++(Rows.OpenSpec.upto Rows.taskPlanReadySpec).bare.plain.varTypes Tryz.pinned.checked.prog).any (Tryz.pinned.checked.prog.ifacesRec ·))=true:=by kernel_rfl
theorem az3z:(Rows.taskPlanReadyUptoRow.mapsOut==Tryz.pinned.checked.prog.mapsAmong Tryz.f4.resultTypes.toList)=true:=by kernel_rfl
theorem az9x:(Rows.taskPlanReadyUptoRow.loops==(Tryz.f4.params.toList++(Rows.OpenSpec.upto Rows.taskPlanReadySpec).bare.plain.varTypes Tryz.pinned.checked.prog).any (Tryz.pinned.checked.prog.loopsFrom ·))=true:=by kernel_rfl
theorem azdr:(Rows.taskPlanReadyUptoRow.wideKeys==(Tryz.f4.params.toList++(Rows.OpenSpec.upto Rows.taskPlanReadySpec).bare.plain.varTypes Tryz.pinned.checked.prog++Tryz.f4.resultTypes.toList).any (Tryz.pinned.checked.prog.wideKeysFrom ·))=true:=by kernel_rfl
theorem aza1:(Rows.OpenSpec.upto Rows.taskPlanReadySpec).bare.vars.all (Tryz.pinned.checked.prog.varReadable ·)=true:=by kernel_rfl
theorem azfy:Tryz.f4.resultTypes.all (fun t=>Tryz.pinned.checked.prog.readableRec t&&decide (t<Tryz.pinned.checked.prog.types.size))=true:=by kernel_rfl
theorem Yz4:(Rows.taskPlanReadyUptoRow.ifacesOut==Tryz.f4.resultTypes.toList.any (Tryz.pinned.checked.prog.ifacesRec ·))=true:=by kernel_rfl
theorem az0y:(Rows.taskPlanReadyUptoRow.loopsOut==Tryz.f4.resultTypes.toList.any (Tryz.pinned.checked.prog.loopsFrom ·))=true:=by kernel_rfl
theorem Yz6:(Rows.taskPlanReadyUptoRow.plainKeys==Tryz.pinned.checked.prog.plainKeys)=true:=by kernel_rfl
theorem az9z:Rows.taskPlanReadyUptoRow.shortTexts.isNone=true:=by kernel_rfl
theorem az9u:Tryz.pinned.checked.prog.stopsHeard=true:=by kernel_rfl
theorem az0z:Tryz.pinned.checked.prog.mayEnter=true:=by kernel_rfl
theorem az6e:(Rows.taskPlanReadyUptoRow.lifted==Tryz.pinned.checked.prog.liftsFinal)=true:=by kernel_rfl
theorem azdo:(Tryz.pinned.checked.prog.make==some Rows.taskPlanReadyUptoRow.make)=true:=by kernel_rfl
theorem az9v:(Rows.taskPlanReadyUptoRow.kinds==(if Rows.taskPlanReadyUptoRow.domain.isEmpty then []else Tryz.f4.params.toList.map fun t=>match Tryz.pinned.checked.prog.underlying t with|some (.int k)=>some k|_=>none))=true:=by kernel_rfl
theorem az6g:(Rows.taskPlanReadyUptoRow.pinned==Rows.taskPlanReadyUptoRow.pinnedBy)=true:=by kernel_rfl
theorem az6h:(Rows.taskPlanReadyUptoRow.veiled==(Tryz.f4.params.toList++(Rows.OpenSpec.upto Rows.taskPlanReadySpec).bare.plain.varTypes Tryz.pinned.checked.prog++Tryz.f4.resultTypes.toList).any (Tryz.pinned.checked.prog.veiledRec ·))=true:=by kernel_rfl
theorem azdm:Rows.taskPlanReadyUptoRow.veiledFits Tryz.pinned.checked.prog Tryz.f4.params.toList (Tryz.f4.params.toList++(Rows.OpenSpec.upto Rows.taskPlanReadySpec).bare.plain.varTypes Tryz.pinned.checked.prog++Tryz.f4.resultTypes.toList)=true:=by kernel_rfl
end taskPlanReady
end Go.Abs
