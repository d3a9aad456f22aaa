import Derived.Test.YtagmfmidaochlaaGreatDoorZGJTaskPlanMotionsa
namespace Go.Abs
open Go.Proofs Go.Proofs.YtagmfmidaochlaaGreatDoor Go.ChangeShapes Go.WideShapes Go.ChangeAt Go.RowKit
open Go.Proofs.YtagmfmidaochlaaGreatDoor.Rows renaming taskPlanMotionsUptoRow ->RowU,taskPlanMotionsSpec ->SpeU
namespace taskPlanMotions
theorem ak4:RowU.wf (OpenSpec.ofChange (Rows.OpenSpec.upto SpeU).bare)=true:=by kernel_rfl
theorem aeD:Tryz.f3.params.all (ppg.readableRec ·)=true:=by kernel_rfl
theorem agu:namedTie ppg RowU.named (Rows.OpenSpec.upto SpeU).bare.vars=true:=by kernel_rfl
theorem aeA:(RowU.stops==[])=true:=by kernel_rfl
theorem agw:(ppg.stops==[])=true:=by kernel_rfl
theorem aez:(RowU.knobs==[])=true:=by kernel_rfl
theorem ags:(ppg.stopKnobs==[])=true:=by kernel_rfl
theorem ai3:(RowU.maps==(Tryz.f3.params.toList++(Rows.OpenSpec.upto SpeU).bare.plain.varTypes ppg).any (ppg.mapsRec ·))=true:=by kernel_rfl
theorem aeB:(RowU.ifaces==(Tryz.f3.params.toList++(Rows.OpenSpec.upto SpeU).bare.plain.varTypes ppg).any (ppg.ifacesRec ·))=true:=by kernel_rfl
theorem adA:(RowU.mapsOut==ppg.mapsAmong Tryz.f3.resultTypes.toList)=true:=by kernel_rfl
theorem agt:(RowU.loops==(Tryz.f3.params.toList++(Rows.OpenSpec.upto SpeU).bare.plain.varTypes ppg).any (ppg.loopsFrom ·))=true:=by kernel_rfl
theorem ai5:(RowU.wideKeys==(Tryz.f3.params.toList++(Rows.OpenSpec.upto SpeU).bare.plain.varTypes ppg++Tryz.f3.resultTypes.toList).any (ppg.wideKeysFrom ·))=true:=by kernel_rfl
theorem agx:(Rows.OpenSpec.upto SpeU).bare.vars.all (ppg.varReadable ·)=true:=by kernel_rfl
theorem ajd:Tryz.f3.resultTypes.all (λt=>ppg.readableRec t&&decide (t<ppg.types.size))=true:=by kernel_rfl
theorem abq:(RowU.ifacesOut==Tryz.f3.resultTypes.toList.any (ppg.ifacesRec ·))=true:=by kernel_rfl
theorem acy:(RowU.loopsOut==Tryz.f3.resultTypes.toList.any (ppg.loopsFrom ·))=true:=by kernel_rfl
theorem abs:(RowU.plainKeys==ppg.plainKeys)=true:=by kernel_rfl
theorem agv:RowU.shortTexts.isNone=true:=by kernel_rfl
theorem agq:ppg.stopsHeard=true:=by kernel_rfl
theorem acz:ppg.mayEnter=true:=by kernel_rfl
theorem aeC:(RowU.lifted==ppg.liftsFinal)=true:=by kernel_rfl
theorem ai2:(ppg.make==some RowU.make)=true:=by kernel_rfl
theorem agr:(RowU.kinds==(if RowU.domain.isEmpty then []else Tryz.f3.params.toList.map λt=>match ppg.underlying t with|some (.int k)=>some k|_=>none))=true:=by kernel_rfl
theorem aeE:(RowU.pinned==RowU.pinnedBy)=true:=by kernel_rfl
theorem aeF:(RowU.veiled==(Tryz.f3.params.toList++(Rows.OpenSpec.upto SpeU).bare.plain.varTypes ppg++Tryz.f3.resultTypes.toList).any (ppg.veiledRec ·))=true:=by kernel_rfl
theorem ai0:RowU.veiledFits ppg Tryz.f3.params.toList (Tryz.f3.params.toList++(Rows.OpenSpec.upto SpeU).bare.plain.varTypes ppg++Tryz.f3.resultTypes.toList)=true:=by kernel_rfl
end taskPlanMotions
end Go.Abs
