/-
  JRoadmapProofsb (a part of a claim: our own text).
-/
import Derived.Test.YtciomjhdpbiaeaaGreatYEJRoadmapProofsa
namespace Go.Abs
open Go.Proofs Go.Proofs.YtciomjhdpbiaeaaGreat Go.ChangeShapes Go.WideShapes Go.ChangeAt Go.RowKit
namespace roadmapProofs
theorem az45:Rows.roadmapProofsUptoRow.wf (OpenSpec.ofChange (Rows.OpenSpec.upto Rows.roadmapProofsSpec).bare)=true:=by kernel_rfl
theorem Vzj:Tryz.f3.params.all (Tryz.pinned.checked.prog.readableRec ·)=true:=by kernel_rfl
theorem Yzf:namedTie Tryz.pinned.checked.prog Rows.roadmapProofsUptoRow.named (Rows.OpenSpec.upto Rows.roadmapProofsSpec).bare.vars=true:=by kernel_rfl
theorem Vzg:(Rows.roadmapProofsUptoRow.stops==[])=true:=by kernel_rfl
theorem Yzh:(Tryz.pinned.checked.prog.stops==[])=true:=by kernel_rfl
theorem Vzf:(Rows.roadmapProofsUptoRow.knobs==[])=true:=by kernel_rfl
theorem Yzd:(Tryz.pinned.checked.prog.stopKnobs==[])=true:=by kernel_rfl
theorem az15:(Rows.roadmapProofsUptoRow.maps==(Tryz.f3.params.toList++(Rows.OpenSpec.upto Rows.roadmapProofsSpec).bare.plain.varTypes Tryz.pinned.checked.prog).any (Tryz.pinned.checked.prog.mapsRec ·))=true:=by kernel_rfl
theorem Vzh:(Rows.roadmapProofsUptoRow.ifaces==(Tryz.f3.params.toList++(Rows.OpenSpec.upto Rows.roadmapProofsSpec).bare.plain.varTypes Tryz.pinned.checked.prog).any (Tryz.pinned.checked.prog.ifacesRec ·))=true:=by kernel_rfl
theorem Tzd:(Rows.roadmapProofsUptoRow.mapsOut==Tryz.pinned.checked.prog.mapsAmong Tryz.f3.resultTypes.toList)=true:=by kernel_rfl
theorem Yze:(Rows.roadmapProofsUptoRow.loops==(Tryz.f3.params.toList++(Rows.OpenSpec.upto Rows.roadmapProofsSpec).bare.plain.varTypes Tryz.pinned.checked.prog).any (Tryz.pinned.checked.prog.loopsFrom ·))=true:=by kernel_rfl
theorem az17:(Rows.roadmapProofsUptoRow.wideKeys==(Tryz.f3.params.toList++(Rows.OpenSpec.upto Rows.roadmapProofsSpec).bare.plain.varTypes Tryz.pinned.checked.prog++Tryz.f3.resultTypes.toList).any (Tryz.pinned.checked.prog.wideKeysFrom ·))=true:=by kernel_rfl
theorem Yzi:(Rows.OpenSpec.upto Rows.roadmapProofsSpec).bare.vars.all (Tryz.pinned.checked.prog.varReadable ·)=true:=by kernel_rfl
theorem az2x:Tryz.f3.resultTypes.all (fun t=>Tryz.pinned.checked.prog.readableRec t&&decide (t<Tryz.pinned.checked.prog.types.size))=true:=by kernel_rfl
theorem Ozk:(Rows.roadmapProofsUptoRow.ifacesOut==Tryz.f3.resultTypes.toList.any (Tryz.pinned.checked.prog.ifacesRec ·))=true:=by kernel_rfl
theorem Rz2:(Rows.roadmapProofsUptoRow.loopsOut==Tryz.f3.resultTypes.toList.any (Tryz.pinned.checked.prog.loopsFrom ·))=true:=by kernel_rfl
theorem Ozm:(Rows.roadmapProofsUptoRow.plainKeys==Tryz.pinned.checked.prog.plainKeys)=true:=by kernel_rfl
theorem Yzg:Rows.roadmapProofsUptoRow.shortTexts.isNone=true:=by kernel_rfl
theorem Yzb:Tryz.pinned.checked.prog.stopsHeard=true:=by kernel_rfl
theorem Rz3:Tryz.pinned.checked.prog.mayEnter=true:=by kernel_rfl
theorem Vzi:(Rows.roadmapProofsUptoRow.lifted==Tryz.pinned.checked.prog.liftsFinal)=true:=by kernel_rfl
theorem az14:(Tryz.pinned.checked.prog.make==some Rows.roadmapProofsUptoRow.make)=true:=by kernel_rfl
theorem Yzc:(Rows.roadmapProofsUptoRow.kinds==(if Rows.roadmapProofsUptoRow.domain.isEmpty then []else Tryz.f3.params.toList.map fun t=>match Tryz.pinned.checked.prog.underlying t with|some (.int k)=>some k|_=>none))=true:=by kernel_rfl
theorem Vzk:(Rows.roadmapProofsUptoRow.pinned==Rows.roadmapProofsUptoRow.pinnedBy)=true:=by kernel_rfl
theorem Vzl:(Rows.roadmapProofsUptoRow.veiled==(Tryz.f3.params.toList++(Rows.OpenSpec.upto Rows.roadmapProofsSpec).bare.plain.varTypes Tryz.pinned.checked.prog++Tryz.f3.resultTypes.toList).any (Tryz.pinned.checked.prog.veiledRec ·))=true:=by kernel_rfl
theorem az12:Rows.roadmapProofsUptoRow.veiledFits Tryz.pinned.checked.prog Tryz.f3.params.toList (Tryz.f3.params.toList++(Rows.OpenSpec.upto Rows.roadmapProofsSpec).bare.plain.varTypes Tryz.pinned.checked.prog++Tryz.f3.resultTypes.toList)=true:=by kernel_rfl
end roadmapProofs
end Go.Abs
