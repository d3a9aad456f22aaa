/-
  JPathShortensb (a part of a claim: our own text).
-/
import Derived.Test.YtlalffdgimbodaaGreatYGJPathShortensa
namespace Go.Abs
open Go.Proofs Go.Proofs.YtlalffdgimbodaaGreat Go.ChangeShapes Go.WideShapes Go.ChangeAt Go.RowKit
namespace pathShortens
theorem az7m:Rows.pathShortensUptoRow.wf (OpenSpec.ofChange (Rows.OpenSpec.upto Rows.pathShortensSpec).bare)=true:=by kernel_rfl
theorem Xzw:Tryz.f5.params.all (Tryz.pinned.checked.prog.readableRec ·)=true:=by kernel_rfl
theorem az0v:namedTie Tryz.pinned.checked.prog Rows.pathShortensUptoRow.named (Rows.OpenSpec.upto Rows.pathShortensSpec).bare.vars=true:=by kernel_rfl
theorem Xzt:(Rows.pathShortensUptoRow.stops==[])=true:=by kernel_rfl
theorem az0x:(Tryz.pinned.checked.prog.stops==[])=true:=by kernel_rfl
theorem Xzs:(Rows.pathShortensUptoRow.knobs==[])=true:=by kernel_rfl
theorem az0t:(Tryz.pinned.checked.prog.stopKnobs==[])=true:=by kernel_rfl
theorem az49:(Rows.pathShortensUptoRow.maps==(Tryz.f5.params.toList++(Rows.OpenSpec.upto Rows.pathShortensSpec).bare.plain.varTypes Tryz.pinned.checked.prog).any (Tryz.pinned.checked.prog.mapsRec ·))=true:=by kernel_rfl
theorem Xzu:(Rows.pathShortensUptoRow.ifaces==(Tryz.f5.params.toList++(Rows.OpenSpec.upto Rows.pathShortensSpec).bare.plain.varTypes Tryz.pinned.checked.prog).any (Tryz.pinned.checked.prog.ifacesRec ·))=true:=by kernel_rfl
theorem Vzc:(Rows.pathShortensUptoRow.mapsOut==Tryz.pinned.checked.prog.mapsAmong Tryz.f5.resultTypes.toList)=true:=by kernel_rfl
theorem az0u:(Rows.pathShortensUptoRow.loops==(Tryz.f5.params.toList++(Rows.OpenSpec.upto Rows.pathShortensSpec).bare.plain.varTypes Tryz.pinned.checked.prog).any (Tryz.pinned.checked.prog.loopsFrom ·))=true:=by kernel_rfl
theorem az4b:(Rows.pathShortensUptoRow.wideKeys==(Tryz.f5.params.toList++(Rows.OpenSpec.upto Rows.pathShortensSpec).bare.plain.varTypes Tryz.pinned.checked.prog++Tryz.f5.resultTypes.toList).any (Tryz.pinned.checked.prog.wideKeysFrom ·))=true:=by kernel_rfl
theorem az0y:(Rows.OpenSpec.upto Rows.pathShortensSpec).bare.vars.all (Tryz.pinned.checked.prog.varReadable ·)=true:=by kernel_rfl
theorem az6g:Tryz.f5.resultTypes.all (fun t=>Tryz.pinned.checked.prog.readableRec t&&decide (t<Tryz.pinned.checked.prog.types.size))=true:=by kernel_rfl
theorem Pzp:(Rows.pathShortensUptoRow.ifacesOut==Tryz.f5.resultTypes.toList.any (Tryz.pinned.checked.prog.ifacesRec ·))=true:=by kernel_rfl
theorem Sz8:(Rows.pathShortensUptoRow.loopsOut==Tryz.f5.resultTypes.toList.any (Tryz.pinned.checked.prog.loopsFrom ·))=true:=by kernel_rfl
theorem Pzr:(Rows.pathShortensUptoRow.plainKeys==Tryz.pinned.checked.prog.plainKeys)=true:=by kernel_rfl
theorem az0w:Rows.pathShortensUptoRow.shortTexts.isNone=true:=by kernel_rfl
theorem az0r:Tryz.pinned.checked.prog.stopsHeard=true:=by kernel_rfl
theorem Sz9:Tryz.pinned.checked.prog.mayEnter=true:=by kernel_rfl
theorem Xzv:(Rows.pathShortensUptoRow.lifted==Tryz.pinned.checked.prog.liftsFinal)=true:=by kernel_rfl
theorem az48:(Tryz.pinned.checked.prog.make==some Rows.pathShortensUptoRow.make)=true:=by kernel_rfl
theorem az0s:(Rows.pathShortensUptoRow.kinds==(if Rows.pathShortensUptoRow.domain.isEmpty then []else Tryz.f5.params.toList.map fun t=>match Tryz.pinned.checked.prog.underlying t with|some (.int k)=>some k|_=>none))=true:=by kernel_rfl
theorem Xzx:(Rows.pathShortensUptoRow.pinned==Rows.pathShortensUptoRow.pinnedBy)=true:=by kernel_rfl
theorem Xzy:(Rows.pathShortensUptoRow.veiled==(Tryz.f5.params.toList++(Rows.OpenSpec.upto Rows.pathShortensSpec).bare.plain.varTypes Tryz.pinned.checked.prog++Tryz.f5.resultTypes.toList).any (Tryz.pinned.checked.prog.veiledRec ·))=true:=by kernel_rfl
theorem az46:Rows.pathShortensUptoRow.veiledFits Tryz.pinned.checked.prog Tryz.f5.params.toList (Tryz.f5.params.toList++(Rows.OpenSpec.upto Rows.pathShortensSpec).bare.plain.varTypes Tryz.pinned.checked.prog++Tryz.f5.resultTypes.toList)=true:=by kernel_rfl
end pathShortens
end Go.Abs
