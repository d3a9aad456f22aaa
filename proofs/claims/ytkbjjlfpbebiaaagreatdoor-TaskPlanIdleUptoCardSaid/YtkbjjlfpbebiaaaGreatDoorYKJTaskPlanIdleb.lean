/-
  JTaskPlanIdleb (a part of a claim: our own text).
-/
import Derived.Test.YtkbjjlfpbebiaaaGreatDoorYKJTaskPlanIdlea
namespace Go.Abs
open Go.Proofs Go.Proofs.YtkbjjlfpbebiaaaGreatDoor Go.ChangeShapes Go.WideShapes Go.ChangeAt Go.RowKit
namespace taskPlanIdle
theorem Vzy:Rows.taskPlanIdleUptoRow.wf (OpenSpec.ofChange (Rows.OpenSpec.upto Rows.taskPlanIdleSpec).bare)=true:=by kernel_rfl
theorem Ozp:Tryz.f4.params.all (Tryz.pinned.checked.prog.readableRec ·)=true:=by kernel_rfl
theorem Rz6:namedTie Tryz.pinned.checked.prog Rows.taskPlanIdleUptoRow.named (Rows.OpenSpec.upto Rows.taskPlanIdleSpec).bare.vars=true:=by kernel_rfl
theorem Ozm:(Rows.taskPlanIdleUptoRow.stops==[])=true:=by kernel_rfl
theorem Rz8:(Tryz.pinned.checked.prog.stops==[])=true:=by kernel_rfl
theorem Ozl:(Rows.taskPlanIdleUptoRow.knobs==[])=true:=by kernel_rfl
theorem Rz4:(Tryz.pinned.checked.prog.stopKnobs==[])=true:=by kernel_rfl
theorem Tzs:(Rows.taskPlanIdleUptoRow.maps==(Tryz.f4.params.toList++(Rows.OpenSpec.upto Rows.taskPlanIdleSpec).bare.plain.varTypes Tryz.pinned.checked.prog).any (Tryz.pinned.checked.prog.mapsRec ·))=true:=by kernel_rfl
theorem Ozn:(Rows.taskPlanIdleUptoRow.ifaces==(Tryz.f4.params.toList++(Rows.OpenSpec.upto Rows.taskPlanIdleSpec).bare.plain.varTypes Tryz.pinned.checked.prog).any (Tryz.pinned.checked.prog.ifacesRec ·))=true:=by kernel_rfl
theorem Nz8:(Rows.taskPlanIdleUptoRow.mapsOut==Tryz.pinned.checked.prog.mapsAmong Tryz.f4.resultTypes.toList)=true:=by kernel_rfl
theorem Rz5:(Rows.taskPlanIdleUptoRow.loops==(Tryz.f4.params.toList++(Rows.OpenSpec.upto Rows.taskPlanIdleSpec).bare.plain.varTypes Tryz.pinned.checked.prog).any (Tryz.pinned.checked.prog.loopsFrom ·))=true:=by kernel_rfl
theorem Tzu:(Rows.taskPlanIdleUptoRow.wideKeys==(Tryz.f4.params.toList++(Rows.OpenSpec.upto Rows.taskPlanIdleSpec).bare.plain.varTypes Tryz.pinned.checked.prog++Tryz.f4.resultTypes.toList).any (Tryz.pinned.checked.prog.wideKeysFrom ·))=true:=by kernel_rfl
theorem Rz9:(Rows.OpenSpec.upto Rows.taskPlanIdleSpec).bare.vars.all (Tryz.pinned.checked.prog.varReadable ·)=true:=by kernel_rfl
theorem Vz2:Tryz.f4.resultTypes.all (fun t=>Tryz.pinned.checked.prog.readableRec t&&decide (t<Tryz.pinned.checked.prog.types.size))=true:=by kernel_rfl
theorem Jz8:(Rows.taskPlanIdleUptoRow.ifacesOut==Tryz.f4.resultTypes.toList.any (Tryz.pinned.checked.prog.ifacesRec ·))=true:=by kernel_rfl
theorem Lza:(Rows.taskPlanIdleUptoRow.loopsOut==Tryz.f4.resultTypes.toList.any (Tryz.pinned.checked.prog.loopsFrom ·))=true:=by kernel_rfl
theorem Jza:(Rows.taskPlanIdleUptoRow.plainKeys==Tryz.pinned.checked.prog.plainKeys)=true:=by kernel_rfl
theorem Rz7:Rows.taskPlanIdleUptoRow.shortTexts.isNone=true:=by kernel_rfl
theorem Rz2:Tryz.pinned.checked.prog.stopsHeard=true:=by kernel_rfl
theorem Lzb:Tryz.pinned.checked.prog.mayEnter=true:=by kernel_rfl
theorem Ozo:(Rows.taskPlanIdleUptoRow.lifted==Tryz.pinned.checked.prog.liftsFinal)=true:=by kernel_rfl
theorem Tzr:(Tryz.pinned.checked.prog.make==some Rows.taskPlanIdleUptoRow.make)=true:=by kernel_rfl
theorem Rz3:(Rows.taskPlanIdleUptoRow.kinds==(if Rows.taskPlanIdleUptoRow.domain.isEmpty then []else Tryz.f4.params.toList.map fun t=>match Tryz.pinned.checked.prog.underlying t with|some (.int k)=>some k|_=>none))=true:=by kernel_rfl
theorem Ozq:(Rows.taskPlanIdleUptoRow.pinned==Rows.taskPlanIdleUptoRow.pinnedBy)=true:=by kernel_rfl
theorem Ozr:(Rows.taskPlanIdleUptoRow.veiled==(Tryz.f4.params.toList++(Rows.OpenSpec.upto Rows.taskPlanIdleSpec).bare.plain.varTypes Tryz.pinned.checked.prog++Tryz.f4.resultTypes.toList).any (Tryz.pinned.checked.prog.veiledRec ·))=true:=by kernel_rfl
theorem Tzp:Rows.taskPlanIdleUptoRow.veiledFits Tryz.pinned.checked.prog Tryz.f4.params.toList (Tryz.f4.params.toList++(Rows.OpenSpec.upto Rows.taskPlanIdleSpec).bare.plain.varTypes Tryz.pinned.checked.prog++Tryz.f4.resultTypes.toList)=true:=by kernel_rfl
end taskPlanIdle
end Go.Abs
