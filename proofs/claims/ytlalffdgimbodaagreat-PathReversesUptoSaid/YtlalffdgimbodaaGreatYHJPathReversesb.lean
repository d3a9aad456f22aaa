/-
  JPathReversesb (a part of a claim: our own text).
-/
import Derived.Test.YtlalffdgimbodaaGreatYHJPathReversesa
namespace Go.Abs
open Go.Proofs Go.Proofs.YtlalffdgimbodaaGreat Go.ChangeShapes Go.WideShapes Go.ChangeAt Go.RowKit
namespace pathReverses
theorem az71:Rows.pathReversesUptoRow.wf (OpenSpec.ofChange (Rows.OpenSpec.upto Rows.pathReversesSpec).bare)=true:=by kernel_rfl
theorem Xz2:Tryz.f4.params.all (Tryz.pinned.checked.prog.readableRec ·)=true:=by kernel_rfl
theorem az08:namedTie Tryz.pinned.checked.prog Rows.pathReversesUptoRow.named (Rows.OpenSpec.upto Rows.pathReversesSpec).bare.vars=true:=by kernel_rfl
theorem Wzz:(Rows.pathReversesUptoRow.stops==[])=true:=by kernel_rfl
theorem az0a:(Tryz.pinned.checked.prog.stops==[])=true:=by kernel_rfl
theorem Wzy:(Rows.pathReversesUptoRow.knobs==[])=true:=by kernel_rfl
theorem az06:(Tryz.pinned.checked.prog.stopKnobs==[])=true:=by kernel_rfl
theorem az3n:(Rows.pathReversesUptoRow.maps==(Tryz.f4.params.toList++(Rows.OpenSpec.upto Rows.pathReversesSpec).bare.plain.varTypes Tryz.pinned.checked.prog).any (Tryz.pinned.checked.prog.mapsRec ·))=true:=by kernel_rfl
theorem Xz0:(Rows.pathReversesUptoRow.ifaces==(Tryz.f4.params.toList++(Rows.OpenSpec.upto Rows.pathReversesSpec).bare.plain.varTypes Tryz.pinned.checked.prog).any (Tryz.pinned.checked.prog.ifacesRec ·))=true:=by kernel_rfl
theorem Uzm:(Rows.pathReversesUptoRow.mapsOut==Tryz.pinned.checked.prog.mapsAmong Tryz.f4.resultTypes.toList)=true:=by kernel_rfl
theorem az07:(Rows.pathReversesUptoRow.loops==(Tryz.f4.params.toList++(Rows.OpenSpec.upto Rows.pathReversesSpec).bare.plain.varTypes Tryz.pinned.checked.prog).any (Tryz.pinned.checked.prog.loopsFrom ·))=true:=by kernel_rfl
theorem az3p:(Rows.pathReversesUptoRow.wideKeys==(Tryz.f4.params.toList++(Rows.OpenSpec.upto Rows.pathReversesSpec).bare.plain.varTypes Tryz.pinned.checked.prog++Tryz.f4.resultTypes.toList).any (Tryz.pinned.checked.prog.wideKeysFrom ·))=true:=by kernel_rfl
theorem az0b:(Rows.OpenSpec.upto Rows.pathReversesSpec).bare.vars.all (Tryz.pinned.checked.prog.varReadable ·)=true:=by kernel_rfl
theorem az5w:Tryz.f4.resultTypes.all (fun t=>Tryz.pinned.checked.prog.readableRec t&&decide (t<Tryz.pinned.checked.prog.types.size))=true:=by kernel_rfl
theorem Pz0:(Rows.pathReversesUptoRow.ifacesOut==Tryz.f4.resultTypes.toList.any (Tryz.pinned.checked.prog.ifacesRec ·))=true:=by kernel_rfl
theorem Rzl:(Rows.pathReversesUptoRow.loopsOut==Tryz.f4.resultTypes.toList.any (Tryz.pinned.checked.prog.loopsFrom ·))=true:=by kernel_rfl
theorem Pz2:(Rows.pathReversesUptoRow.plainKeys==Tryz.pinned.checked.prog.plainKeys)=true:=by kernel_rfl
theorem az09:Rows.pathReversesUptoRow.shortTexts.isNone=true:=by kernel_rfl
theorem az04:Tryz.pinned.checked.prog.stopsHeard=true:=by kernel_rfl
theorem Rzm:Tryz.pinned.checked.prog.mayEnter=true:=by kernel_rfl
theorem Xz1:(Rows.pathReversesUptoRow.lifted==Tryz.pinned.checked.prog.liftsFinal)=true:=by kernel_rfl
theorem az3m:(Tryz.pinned.checked.prog.make==some Rows.pathReversesUptoRow.make)=true:=by kernel_rfl
theorem az05:(Rows.pathReversesUptoRow.kinds==(if Rows.pathReversesUptoRow.domain.isEmpty then []else Tryz.f4.params.toList.map fun t=>match Tryz.pinned.checked.prog.underlying t with|some (.int k)=>some k|_=>none))=true:=by kernel_rfl
theorem Xz3:(Rows.pathReversesUptoRow.pinned==Rows.pathReversesUptoRow.pinnedBy)=true:=by kernel_rfl
theorem Xz4:(Rows.pathReversesUptoRow.veiled==(Tryz.f4.params.toList++(Rows.OpenSpec.upto Rows.pathReversesSpec).bare.plain.varTypes Tryz.pinned.checked.prog++Tryz.f4.resultTypes.toList).any (Tryz.pinned.checked.prog.veiledRec ·))=true:=by kernel_rfl
theorem az3k:Rows.pathReversesUptoRow.veiledFits Tryz.pinned.checked.prog Tryz.f4.params.toList (Tryz.f4.params.toList++(Rows.OpenSpec.upto Rows.pathReversesSpec).bare.plain.varTypes Tryz.pinned.checked.prog++Tryz.f4.resultTypes.toList)=true:=by kernel_rfl
end pathReverses
end Go.Abs
