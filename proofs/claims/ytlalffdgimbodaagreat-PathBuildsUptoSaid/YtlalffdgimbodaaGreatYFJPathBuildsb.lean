/-
  JPathBuildsb (a part of a claim: our own text).
-/
import Derived.Test.YtlalffdgimbodaaGreatYFJPathBuildsa
namespace Go.Abs
open Go.Proofs Go.Proofs.YtlalffdgimbodaaGreat Go.ChangeShapes Go.WideShapes Go.ChangeAt Go.RowKit
namespace pathBuilds
theorem az4s:Rows.pathBuildsUptoRow.wf (OpenSpec.ofChange (Rows.OpenSpec.upto Rows.pathBuildsSpec).bare)=true:=by kernel_rfl
theorem Vzn:Tryz.f3.params.all (Tryz.pinned.checked.prog.readableRec ·)=true:=by kernel_rfl
theorem Yzk:namedTie Tryz.pinned.checked.prog Rows.pathBuildsUptoRow.named (Rows.OpenSpec.upto Rows.pathBuildsSpec).bare.vars=true:=by kernel_rfl
theorem Vzk:(Rows.pathBuildsUptoRow.stops==[])=true:=by kernel_rfl
theorem Yzm:(Tryz.pinned.checked.prog.stops==[])=true:=by kernel_rfl
theorem Vzj:(Rows.pathBuildsUptoRow.knobs==[])=true:=by kernel_rfl
theorem Yzi:(Tryz.pinned.checked.prog.stopKnobs==[])=true:=by kernel_rfl
theorem az1r:(Rows.pathBuildsUptoRow.maps==(Tryz.f3.params.toList++(Rows.OpenSpec.upto Rows.pathBuildsSpec).bare.plain.varTypes Tryz.pinned.checked.prog).any (Tryz.pinned.checked.prog.mapsRec ·))=true:=by kernel_rfl
theorem Vzl:(Rows.pathBuildsUptoRow.ifaces==(Tryz.f3.params.toList++(Rows.OpenSpec.upto Rows.pathBuildsSpec).bare.plain.varTypes Tryz.pinned.checked.prog).any (Tryz.pinned.checked.prog.ifacesRec ·))=true:=by kernel_rfl
theorem Tzg:(Rows.pathBuildsUptoRow.mapsOut==Tryz.pinned.checked.prog.mapsAmong Tryz.f3.resultTypes.toList)=true:=by kernel_rfl
theorem Yzj:(Rows.pathBuildsUptoRow.loops==(Tryz.f3.params.toList++(Rows.OpenSpec.upto Rows.pathBuildsSpec).bare.plain.varTypes Tryz.pinned.checked.prog).any (Tryz.pinned.checked.prog.loopsFrom ·))=true:=by kernel_rfl
theorem az1t:(Rows.pathBuildsUptoRow.wideKeys==(Tryz.f3.params.toList++(Rows.OpenSpec.upto Rows.pathBuildsSpec).bare.plain.varTypes Tryz.pinned.checked.prog++Tryz.f3.resultTypes.toList).any (Tryz.pinned.checked.prog.wideKeysFrom ·))=true:=by kernel_rfl
theorem Yzn:(Rows.OpenSpec.upto Rows.pathBuildsSpec).bare.vars.all (Tryz.pinned.checked.prog.varReadable ·)=true:=by kernel_rfl
theorem az3q:Tryz.f3.resultTypes.all (fun t=>Tryz.pinned.checked.prog.readableRec t&&decide (t<Tryz.pinned.checked.prog.types.size))=true:=by kernel_rfl
theorem Oz4:(Rows.pathBuildsUptoRow.ifacesOut==Tryz.f3.resultTypes.toList.any (Tryz.pinned.checked.prog.ifacesRec ·))=true:=by kernel_rfl
theorem Qzg:(Rows.pathBuildsUptoRow.loopsOut==Tryz.f3.resultTypes.toList.any (Tryz.pinned.checked.prog.loopsFrom ·))=true:=by kernel_rfl
theorem Oz6:(Rows.pathBuildsUptoRow.plainKeys==Tryz.pinned.checked.prog.plainKeys)=true:=by kernel_rfl
theorem Yzl:Rows.pathBuildsUptoRow.shortTexts.isNone=true:=by kernel_rfl
theorem Yzg:Tryz.pinned.checked.prog.stopsHeard=true:=by kernel_rfl
theorem Qzh:Tryz.pinned.checked.prog.mayEnter=true:=by kernel_rfl
theorem Vzm:(Rows.pathBuildsUptoRow.lifted==Tryz.pinned.checked.prog.liftsFinal)=true:=by kernel_rfl
theorem az1q:(Tryz.pinned.checked.prog.make==some Rows.pathBuildsUptoRow.make)=true:=by kernel_rfl
theorem Yzh:(Rows.pathBuildsUptoRow.kinds==(if Rows.pathBuildsUptoRow.domain.isEmpty then []else Tryz.f3.params.toList.map fun t=>match Tryz.pinned.checked.prog.underlying t with|some (.int k)=>some k|_=>none))=true:=by kernel_rfl
theorem Vzo:(Rows.pathBuildsUptoRow.pinned==Rows.pathBuildsUptoRow.pinnedBy)=true:=by kernel_rfl
theorem Vzp:(Rows.pathBuildsUptoRow.veiled==(Tryz.f3.params.toList++(Rows.OpenSpec.upto Rows.pathBuildsSpec).bare.plain.varTypes Tryz.pinned.checked.prog++Tryz.f3.resultTypes.toList).any (Tryz.pinned.checked.prog.veiledRec ·))=true:=by kernel_rfl
theorem az1o:Rows.pathBuildsUptoRow.veiledFits Tryz.pinned.checked.prog Tryz.f3.params.toList (Tryz.f3.params.toList++(Rows.OpenSpec.upto Rows.pathBuildsSpec).bare.plain.varTypes Tryz.pinned.checked.prog++Tryz.f3.resultTypes.toList)=true:=by kernel_rfl
end pathBuilds
end Go.Abs
