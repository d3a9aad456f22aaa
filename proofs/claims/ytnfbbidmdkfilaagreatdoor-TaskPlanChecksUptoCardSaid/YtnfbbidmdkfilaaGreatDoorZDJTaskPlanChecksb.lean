import Derived.Test.YtnfbbidmdkfilaaGreatDoorZDJTaskPlanChecksa
namespace Go.Abs
open Go.Proofs Go.Proofs.YtnfbbidmdkfilaaGreatDoor Go.ChangeShapes Go.WideShapes Go.ChangeAt Go.RowKit
namespace taskPlanChecks
theorem azq3:Rows.taskPlanChecksUptoRow.wf (OpenSpec.ofChange (Rows.OpenSpec.upto Rows.taskPlanChecksSpec).bare)=true:=by kernel_rfl
theorem azcb:Tryz.f3.params.all (Tryz.pinned.checked.prog.readableRec ·)=true:=by kernel_rfl
theorem azh3:namedTie Tryz.pinned.checked.prog Rows.taskPlanChecksUptoRow.named (Rows.OpenSpec.upto Rows.taskPlanChecksSpec).bare.vars=true:=by kernel_rfl
theorem azc8:(Rows.taskPlanChecksUptoRow.stops==[])=true:=by kernel_rfl
theorem azh5:(Tryz.pinned.checked.prog.stops==[])=true:=by kernel_rfl
theorem azc7:(Rows.taskPlanChecksUptoRow.knobs==[])=true:=by kernel_rfl
theorem azh1:(Tryz.pinned.checked.prog.stopKnobs==[])=true:=by kernel_rfl
theorem azlo:(Rows.taskPlanChecksUptoRow.maps==(Tryz.f3.params.toList++(Rows.OpenSpec.upto Rows.taskPlanChecksSpec).bare.plain.varTypes Tryz.pinned.checked.prog).any (Tryz.pinned.checked.prog.mapsRec ·))=true:=by kernel_rfl
theorem azc9:(Rows.taskPlanChecksUptoRow.ifaces==(Tryz.f3.params.toList++(Rows.OpenSpec.upto Rows.taskPlanChecksSpec).bare.plain.varTypes Tryz.pinned.checked.prog).any (Tryz.pinned.checked.prog.ifacesRec ·))=true:=by kernel_rfl
theorem az8x:(Rows.taskPlanChecksUptoRow.mapsOut==Tryz.pinned.checked.prog.mapsAmong Tryz.f3.resultTypes.toList)=true:=by kernel_rfl
theorem azh2:(Rows.taskPlanChecksUptoRow.loops==(Tryz.f3.params.toList++(Rows.OpenSpec.upto Rows.taskPlanChecksSpec).bare.plain.varTypes Tryz.pinned.checked.prog).any (Tryz.pinned.checked.prog.loopsFrom ·))=true:=by kernel_rfl
theorem azlq:(Rows.taskPlanChecksUptoRow.wideKeys==(Tryz.f3.params.toList++(Rows.OpenSpec.upto Rows.taskPlanChecksSpec).bare.plain.varTypes Tryz.pinned.checked.prog++Tryz.f3.resultTypes.toList).any (Tryz.pinned.checked.prog.wideKeysFrom ·))=true:=by kernel_rfl
theorem azh6:(Rows.OpenSpec.upto Rows.taskPlanChecksSpec).bare.vars.all (Tryz.pinned.checked.prog.varReadable ·)=true:=by kernel_rfl
theorem azor:Tryz.f3.resultTypes.all (λt=>Tryz.pinned.checked.prog.readableRec t&&decide (t<Tryz.pinned.checked.prog.types.size))=true:=by kernel_rfl
theorem az1m:(Rows.taskPlanChecksUptoRow.ifacesOut==Tryz.f3.resultTypes.toList.any (Tryz.pinned.checked.prog.ifacesRec ·))=true:=by kernel_rfl
theorem az51:(Rows.taskPlanChecksUptoRow.loopsOut==Tryz.f3.resultTypes.toList.any (Tryz.pinned.checked.prog.loopsFrom ·))=true:=by kernel_rfl
theorem az1o:(Rows.taskPlanChecksUptoRow.plainKeys==Tryz.pinned.checked.prog.plainKeys)=true:=by kernel_rfl
theorem azh4:Rows.taskPlanChecksUptoRow.shortTexts.isNone=true:=by kernel_rfl
theorem azgz:Tryz.pinned.checked.prog.stopsHeard=true:=by kernel_rfl
theorem az52:Tryz.pinned.checked.prog.mayEnter=true:=by kernel_rfl
theorem azca:(Rows.taskPlanChecksUptoRow.lifted==Tryz.pinned.checked.prog.liftsFinal)=true:=by kernel_rfl
theorem azln:(Tryz.pinned.checked.prog.make==some Rows.taskPlanChecksUptoRow.make)=true:=by kernel_rfl
theorem azh0:(Rows.taskPlanChecksUptoRow.kinds==(if Rows.taskPlanChecksUptoRow.domain.isEmpty then []else Tryz.f3.params.toList.map λt=>match Tryz.pinned.checked.prog.underlying t with|some (.int k)=>some k|_=>none))=true:=by kernel_rfl
theorem azcc:(Rows.taskPlanChecksUptoRow.pinned==Rows.taskPlanChecksUptoRow.pinnedBy)=true:=by kernel_rfl
theorem azcd:(Rows.taskPlanChecksUptoRow.veiled==(Tryz.f3.params.toList++(Rows.OpenSpec.upto Rows.taskPlanChecksSpec).bare.plain.varTypes Tryz.pinned.checked.prog++Tryz.f3.resultTypes.toList).any (Tryz.pinned.checked.prog.veiledRec ·))=true:=by kernel_rfl
theorem azll:Rows.taskPlanChecksUptoRow.veiledFits Tryz.pinned.checked.prog Tryz.f3.params.toList (Tryz.f3.params.toList++(Rows.OpenSpec.upto Rows.taskPlanChecksSpec).bare.plain.varTypes Tryz.pinned.checked.prog++Tryz.f3.resultTypes.toList)=true:=by kernel_rfl
end taskPlanChecks
end Go.Abs
