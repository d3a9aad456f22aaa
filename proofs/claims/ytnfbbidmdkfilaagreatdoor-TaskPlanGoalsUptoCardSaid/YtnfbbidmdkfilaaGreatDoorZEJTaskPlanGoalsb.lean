import Derived.Test.YtnfbbidmdkfilaaGreatDoorZEJTaskPlanGoalsa
namespace Go.Abs
open Go.Proofs Go.Proofs.YtnfbbidmdkfilaaGreatDoor Go.ChangeShapes Go.WideShapes Go.ChangeAt Go.RowKit
namespace taskPlanGoals
theorem azmp:Rows.taskPlanGoalsUptoRow.wf (OpenSpec.ofChange (Rows.OpenSpec.upto Rows.taskPlanGoalsSpec).bare)=true:=by kernel_rfl
theorem aza0:Tryz.f5.params.all (Tryz.pinned.checked.prog.readableRec ·)=true:=by kernel_rfl
theorem azej:namedTie Tryz.pinned.checked.prog Rows.taskPlanGoalsUptoRow.named (Rows.OpenSpec.upto Rows.taskPlanGoalsSpec).bare.vars=true:=by kernel_rfl
theorem az9x:(Rows.taskPlanGoalsUptoRow.stops==[])=true:=by kernel_rfl
theorem azel:(Tryz.pinned.checked.prog.stops==[])=true:=by kernel_rfl
theorem az9w:(Rows.taskPlanGoalsUptoRow.knobs==[])=true:=by kernel_rfl
theorem azeh:(Tryz.pinned.checked.prog.stopKnobs==[])=true:=by kernel_rfl
theorem azii:(Rows.taskPlanGoalsUptoRow.maps==(Tryz.f5.params.toList++(Rows.OpenSpec.upto Rows.taskPlanGoalsSpec).bare.plain.varTypes Tryz.pinned.checked.prog).any (Tryz.pinned.checked.prog.mapsRec ·))=true:=by kernel_rfl
theorem az9y:(Rows.taskPlanGoalsUptoRow.ifaces==(Tryz.f5.params.toList++(Rows.OpenSpec.upto Rows.taskPlanGoalsSpec).bare.plain.varTypes Tryz.pinned.checked.prog).any (Tryz.pinned.checked.prog.ifacesRec ·))=true:=by kernel_rfl
theorem az6y:(Rows.taskPlanGoalsUptoRow.mapsOut==Tryz.pinned.checked.prog.mapsAmong Tryz.f5.resultTypes.toList)=true:=by kernel_rfl
theorem azei:(Rows.taskPlanGoalsUptoRow.loops==(Tryz.f5.params.toList++(Rows.OpenSpec.upto Rows.taskPlanGoalsSpec).bare.plain.varTypes Tryz.pinned.checked.prog).any (Tryz.pinned.checked.prog.loopsFrom ·))=true:=by kernel_rfl
theorem azik:(Rows.taskPlanGoalsUptoRow.wideKeys==(Tryz.f5.params.toList++(Rows.OpenSpec.upto Rows.taskPlanGoalsSpec).bare.plain.varTypes Tryz.pinned.checked.prog++Tryz.f5.resultTypes.toList).any (Tryz.pinned.checked.prog.wideKeysFrom ·))=true:=by kernel_rfl
theorem azem:(Rows.OpenSpec.upto Rows.taskPlanGoalsSpec).bare.vars.all (Tryz.pinned.checked.prog.varReadable ·)=true:=by kernel_rfl
theorem azla:Tryz.f5.resultTypes.all (λt=>Tryz.pinned.checked.prog.readableRec t&&decide (t<Tryz.pinned.checked.prog.types.size))=true:=by kernel_rfl
theorem Zzx:(Rows.taskPlanGoalsUptoRow.ifacesOut==Tryz.f5.resultTypes.toList.any (Tryz.pinned.checked.prog.ifacesRec ·))=true:=by kernel_rfl
theorem az38:(Rows.taskPlanGoalsUptoRow.loopsOut==Tryz.f5.resultTypes.toList.any (Tryz.pinned.checked.prog.loopsFrom ·))=true:=by kernel_rfl
theorem Zzz:(Rows.taskPlanGoalsUptoRow.plainKeys==Tryz.pinned.checked.prog.plainKeys)=true:=by kernel_rfl
theorem azek:Rows.taskPlanGoalsUptoRow.shortTexts.isNone=true:=by kernel_rfl
theorem azef:Tryz.pinned.checked.prog.stopsHeard=true:=by kernel_rfl
theorem az39:Tryz.pinned.checked.prog.mayEnter=true:=by kernel_rfl
theorem az9z:(Rows.taskPlanGoalsUptoRow.lifted==Tryz.pinned.checked.prog.liftsFinal)=true:=by kernel_rfl
theorem azih:(Tryz.pinned.checked.prog.make==some Rows.taskPlanGoalsUptoRow.make)=true:=by kernel_rfl
theorem azeg:(Rows.taskPlanGoalsUptoRow.kinds==(if Rows.taskPlanGoalsUptoRow.domain.isEmpty then []else Tryz.f5.params.toList.map λt=>match Tryz.pinned.checked.prog.underlying t with|some (.int k)=>some k|_=>none))=true:=by kernel_rfl
theorem aza1:(Rows.taskPlanGoalsUptoRow.pinned==Rows.taskPlanGoalsUptoRow.pinnedBy)=true:=by kernel_rfl
theorem aza2:(Rows.taskPlanGoalsUptoRow.veiled==(Tryz.f5.params.toList++(Rows.OpenSpec.upto Rows.taskPlanGoalsSpec).bare.plain.varTypes Tryz.pinned.checked.prog++Tryz.f5.resultTypes.toList).any (Tryz.pinned.checked.prog.veiledRec ·))=true:=by kernel_rfl
theorem azif:Rows.taskPlanGoalsUptoRow.veiledFits Tryz.pinned.checked.prog Tryz.f5.params.toList (Tryz.f5.params.toList++(Rows.OpenSpec.upto Rows.taskPlanGoalsSpec).bare.plain.varTypes Tryz.pinned.checked.prog++Tryz.f5.resultTypes.toList)=true:=by kernel_rfl
end taskPlanGoals
end Go.Abs
