import Derived.Test.YtnfbbidmdkfilaaGreatDoorZFJTaskPlanCarriesa
namespace Go.Abs
open Go.Proofs Go.Proofs.YtnfbbidmdkfilaaGreatDoor Go.ChangeShapes Go.WideShapes Go.ChangeAt Go.RowKit
namespace taskPlanCarries
theorem azo9:Rows.taskPlanCarriesUptoRow.wf (OpenSpec.ofChange (Rows.OpenSpec.upto Rows.taskPlanCarriesSpec).bare)=true:=by kernel_rfl
theorem azb5:Tryz.f4.params.all (Tryz.pinned.checked.prog.readableRec ·)=true:=by kernel_rfl
theorem azfr:namedTie Tryz.pinned.checked.prog Rows.taskPlanCarriesUptoRow.named (Rows.OpenSpec.upto Rows.taskPlanCarriesSpec).bare.vars=true:=by kernel_rfl
theorem azb2:(Rows.taskPlanCarriesUptoRow.stops==[])=true:=by kernel_rfl
theorem azft:(Tryz.pinned.checked.prog.stops==[])=true:=by kernel_rfl
theorem azb1:(Rows.taskPlanCarriesUptoRow.knobs==[])=true:=by kernel_rfl
theorem azfp:(Tryz.pinned.checked.prog.stopKnobs==[])=true:=by kernel_rfl
theorem azjx:(Rows.taskPlanCarriesUptoRow.maps==(Tryz.f4.params.toList++(Rows.OpenSpec.upto Rows.taskPlanCarriesSpec).bare.plain.varTypes Tryz.pinned.checked.prog).any (Tryz.pinned.checked.prog.mapsRec ·))=true:=by kernel_rfl
theorem azb3:(Rows.taskPlanCarriesUptoRow.ifaces==(Tryz.f4.params.toList++(Rows.OpenSpec.upto Rows.taskPlanCarriesSpec).bare.plain.varTypes Tryz.pinned.checked.prog).any (Tryz.pinned.checked.prog.ifacesRec ·))=true:=by kernel_rfl
theorem az7y:(Rows.taskPlanCarriesUptoRow.mapsOut==Tryz.pinned.checked.prog.mapsAmong Tryz.f4.resultTypes.toList)=true:=by kernel_rfl
theorem azfq:(Rows.taskPlanCarriesUptoRow.loops==(Tryz.f4.params.toList++(Rows.OpenSpec.upto Rows.taskPlanCarriesSpec).bare.plain.varTypes Tryz.pinned.checked.prog).any (Tryz.pinned.checked.prog.loopsFrom ·))=true:=by kernel_rfl
theorem azjz:(Rows.taskPlanCarriesUptoRow.wideKeys==(Tryz.f4.params.toList++(Rows.OpenSpec.upto Rows.taskPlanCarriesSpec).bare.plain.varTypes Tryz.pinned.checked.prog++Tryz.f4.resultTypes.toList).any (Tryz.pinned.checked.prog.wideKeysFrom ·))=true:=by kernel_rfl
theorem azfu:(Rows.OpenSpec.upto Rows.taskPlanCarriesSpec).bare.vars.all (Tryz.pinned.checked.prog.varReadable ·)=true:=by kernel_rfl
theorem azmt:Tryz.f4.resultTypes.all (λt=>Tryz.pinned.checked.prog.readableRec t&&decide (t<Tryz.pinned.checked.prog.types.size))=true:=by kernel_rfl
theorem az11:(Rows.taskPlanCarriesUptoRow.ifacesOut==Tryz.f4.resultTypes.toList.any (Tryz.pinned.checked.prog.ifacesRec ·))=true:=by kernel_rfl
theorem az47:(Rows.taskPlanCarriesUptoRow.loopsOut==Tryz.f4.resultTypes.toList.any (Tryz.pinned.checked.prog.loopsFrom ·))=true:=by kernel_rfl
theorem az13:(Rows.taskPlanCarriesUptoRow.plainKeys==Tryz.pinned.checked.prog.plainKeys)=true:=by kernel_rfl
theorem azfs:Rows.taskPlanCarriesUptoRow.shortTexts.isNone=true:=by kernel_rfl
theorem azfn:Tryz.pinned.checked.prog.stopsHeard=true:=by kernel_rfl
theorem az48:Tryz.pinned.checked.prog.mayEnter=true:=by kernel_rfl
theorem azb4:(Rows.taskPlanCarriesUptoRow.lifted==Tryz.pinned.checked.prog.liftsFinal)=true:=by kernel_rfl
theorem azjw:(Tryz.pinned.checked.prog.make==some Rows.taskPlanCarriesUptoRow.make)=true:=by kernel_rfl
theorem azfo:(Rows.taskPlanCarriesUptoRow.kinds==(if Rows.taskPlanCarriesUptoRow.domain.isEmpty then []else Tryz.f4.params.toList.map λt=>match Tryz.pinned.checked.prog.underlying t with|some (.int k)=>some k|_=>none))=true:=by kernel_rfl
theorem azb6:(Rows.taskPlanCarriesUptoRow.pinned==Rows.taskPlanCarriesUptoRow.pinnedBy)=true:=by kernel_rfl
theorem azb7:(Rows.taskPlanCarriesUptoRow.veiled==(Tryz.f4.params.toList++(Rows.OpenSpec.upto Rows.taskPlanCarriesSpec).bare.plain.varTypes Tryz.pinned.checked.prog++Tryz.f4.resultTypes.toList).any (Tryz.pinned.checked.prog.veiledRec ·))=true:=by kernel_rfl
theorem azju:Rows.taskPlanCarriesUptoRow.veiledFits Tryz.pinned.checked.prog Tryz.f4.params.toList (Tryz.f4.params.toList++(Rows.OpenSpec.upto Rows.taskPlanCarriesSpec).bare.plain.varTypes Tryz.pinned.checked.prog++Tryz.f4.resultTypes.toList)=true:=by kernel_rfl
end taskPlanCarries
end Go.Abs
