import Derived.Test.YtagmfmidaochlaaGreatDoorZIJTaskPlanAccepteda
namespace Go.Abs
open Go.Proofs Go.Proofs.YtagmfmidaochlaaGreatDoor Go.ChangeShapes Go.WideShapes Go.ChangeAt Go.RowKit
open Go.Proofs.YtagmfmidaochlaaGreatDoor.Rows renaming taskPlanAcceptedUptoRow ->RowU,taskPlanAcceptedSpec ->SpeU
namespace taskPlanAccepted
theorem ajl:RowU.wf (OpenSpec.ofChange (Rows.OpenSpec.upto SpeU).bare)=true:=by kernel_rfl
theorem adv:Tryz.f5.params.all (ppg.readableRec ·)=true:=by kernel_rfl
theorem afd:namedTie ppg RowU.named (Rows.OpenSpec.upto SpeU).bare.vars=true:=by kernel_rfl
theorem ads:(RowU.stops==[])=true:=by kernel_rfl
theorem aff:(ppg.stops==[])=true:=by kernel_rfl
theorem adq:(RowU.knobs==[])=true:=by kernel_rfl
theorem afb:(ppg.stopKnobs==[])=true:=by kernel_rfl
theorem aha:(RowU.maps==(Tryz.f5.params.toList++(Rows.OpenSpec.upto SpeU).bare.plain.varTypes ppg).any (ppg.mapsRec ·))=true:=by kernel_rfl
theorem adt:(RowU.ifaces==(Tryz.f5.params.toList++(Rows.OpenSpec.upto SpeU).bare.plain.varTypes ppg).any (ppg.ifacesRec ·))=true:=by kernel_rfl
theorem acv:(RowU.mapsOut==ppg.mapsAmong Tryz.f5.resultTypes.toList)=true:=by kernel_rfl
theorem afc:(RowU.loops==(Tryz.f5.params.toList++(Rows.OpenSpec.upto SpeU).bare.plain.varTypes ppg).any (ppg.loopsFrom ·))=true:=by kernel_rfl
theorem ahc:(RowU.wideKeys==(Tryz.f5.params.toList++(Rows.OpenSpec.upto SpeU).bare.plain.varTypes ppg++Tryz.f5.resultTypes.toList).any (ppg.wideKeysFrom ·))=true:=by kernel_rfl
theorem afg:(Rows.OpenSpec.upto SpeU).bare.vars.all (ppg.varReadable ·)=true:=by kernel_rfl
theorem aiw:Tryz.f5.resultTypes.all (λt=>ppg.readableRec t&&decide (t<ppg.types.size))=true:=by kernel_rfl
theorem aaC:(RowU.ifacesOut==Tryz.f5.resultTypes.toList.any (ppg.ifacesRec ·))=true:=by kernel_rfl
theorem abw:(RowU.loopsOut==Tryz.f5.resultTypes.toList.any (ppg.loopsFrom ·))=true:=by kernel_rfl
theorem aaE:(RowU.plainKeys==ppg.plainKeys)=true:=by kernel_rfl
theorem afe:RowU.shortTexts.isNone=true:=by kernel_rfl
theorem af9:ppg.stopsHeard=true:=by kernel_rfl
theorem abx:ppg.mayEnter=true:=by kernel_rfl
theorem adu:(RowU.lifted==ppg.liftsFinal)=true:=by kernel_rfl
theorem ah9:(ppg.make==some RowU.make)=true:=by kernel_rfl
theorem afa:(RowU.kinds==(if RowU.domain.isEmpty then []else Tryz.f5.params.toList.map λt=>match ppg.underlying t with|some (.int k)=>some k|_=>none))=true:=by kernel_rfl
theorem adw:(RowU.pinned==RowU.pinnedBy)=true:=by kernel_rfl
theorem adx:(RowU.veiled==(Tryz.f5.params.toList++(Rows.OpenSpec.upto SpeU).bare.plain.varTypes ppg++Tryz.f5.resultTypes.toList).any (ppg.veiledRec ·))=true:=by kernel_rfl
theorem ah7:RowU.veiledFits ppg Tryz.f5.params.toList (Tryz.f5.params.toList++(Rows.OpenSpec.upto SpeU).bare.plain.varTypes ppg++Tryz.f5.resultTypes.toList)=true:=by kernel_rfl
end taskPlanAccepted
end Go.Abs
