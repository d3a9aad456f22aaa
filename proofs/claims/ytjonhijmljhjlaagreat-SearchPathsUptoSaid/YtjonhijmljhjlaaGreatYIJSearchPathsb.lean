import Derived.Test.YtjonhijmljhjlaaGreatYIJSearchPathsa
namespace Go.Abs
open Go.Proofs Go.Proofs.YtjonhijmljhjlaaGreat Go.ChangeShapes Go.WideShapes Go.ChangeAt Go.RowKit
namespace searchPaths
theorem azdz:Rows.searchPathsUptoRow.wf (OpenSpec.ofChange (Rows.OpenSpec.upto Rows.searchPathsSpec).bare)=true:=by kernel_rfl
theorem az2p:Tryz.f3.params.all (Tryz.pinned.checked.prog.readableRec ·)=true:=by kernel_rfl
theorem az6m:namedTie Tryz.pinned.checked.prog Rows.searchPathsUptoRow.named (Rows.OpenSpec.upto Rows.searchPathsSpec).bare.vars=true:=by kernel_rfl
theorem az2m:(Rows.searchPathsUptoRow.stops==[])=true:=by kernel_rfl
theorem az6o:(Tryz.pinned.checked.prog.stops==[])=true:=by kernel_rfl
theorem az2l:(Rows.searchPathsUptoRow.knobs==[])=true:=by kernel_rfl
theorem az6k:(Tryz.pinned.checked.prog.stopKnobs==[])=true:=by kernel_rfl
theorem aza3:(Rows.searchPathsUptoRow.maps==(Tryz.f3.params.toList++(Rows.OpenSpec.upto Rows.searchPathsSpec).bare.plain.varTypes Tryz.pinned.checked.prog).any (Tryz.pinned.checked.prog.mapsRec ·))=true:=by kernel_rfl
theorem az2n:(Rows.searchPathsUptoRow.ifaces==(Tryz.f3.params.toList++(Rows.OpenSpec.upto Rows.searchPathsSpec).bare.plain.varTypes Tryz.pinned.checked.prog).any (Tryz.pinned.checked.prog.ifacesRec ·))=true:=by kernel_rfl
theorem az00:(Rows.searchPathsUptoRow.mapsOut==Tryz.pinned.checked.prog.mapsAmong Tryz.f3.resultTypes.toList)=true:=by kernel_rfl
theorem az6l:(Rows.searchPathsUptoRow.loops==(Tryz.f3.params.toList++(Rows.OpenSpec.upto Rows.searchPathsSpec).bare.plain.varTypes Tryz.pinned.checked.prog).any (Tryz.pinned.checked.prog.loopsFrom ·))=true:=by kernel_rfl
theorem aza5:(Rows.searchPathsUptoRow.wideKeys==(Tryz.f3.params.toList++(Rows.OpenSpec.upto Rows.searchPathsSpec).bare.plain.varTypes Tryz.pinned.checked.prog++Tryz.f3.resultTypes.toList).any (Tryz.pinned.checked.prog.wideKeysFrom ·))=true:=by kernel_rfl
theorem az6p:(Rows.OpenSpec.upto Rows.searchPathsSpec).bare.vars.all (Tryz.pinned.checked.prog.varReadable ·)=true:=by kernel_rfl
theorem azcp:Tryz.f3.resultTypes.all (λt=>Tryz.pinned.checked.prog.readableRec t&&decide (t<Tryz.pinned.checked.prog.types.size))=true:=by kernel_rfl
theorem Tzk:(Rows.searchPathsUptoRow.ifacesOut==Tryz.f3.resultTypes.toList.any (Tryz.pinned.checked.prog.ifacesRec ·))=true:=by kernel_rfl
theorem Wzb:(Rows.searchPathsUptoRow.loopsOut==Tryz.f3.resultTypes.toList.any (Tryz.pinned.checked.prog.loopsFrom ·))=true:=by kernel_rfl
theorem Tzm:(Rows.searchPathsUptoRow.plainKeys==Tryz.pinned.checked.prog.plainKeys)=true:=by kernel_rfl
theorem az6n:Rows.searchPathsUptoRow.shortTexts.isNone=true:=by kernel_rfl
theorem az6i:Tryz.pinned.checked.prog.stopsHeard=true:=by kernel_rfl
theorem Wzc:Tryz.pinned.checked.prog.mayEnter=true:=by kernel_rfl
theorem az2o:(Rows.searchPathsUptoRow.lifted==Tryz.pinned.checked.prog.liftsFinal)=true:=by kernel_rfl
theorem aza2:(Tryz.pinned.checked.prog.make==some Rows.searchPathsUptoRow.make)=true:=by kernel_rfl
theorem az6j:(Rows.searchPathsUptoRow.kinds==(if Rows.searchPathsUptoRow.domain.isEmpty then []else Tryz.f3.params.toList.map λt=>match Tryz.pinned.checked.prog.underlying t with|some (.int k)=>some k|_=>none))=true:=by kernel_rfl
theorem az2q:(Rows.searchPathsUptoRow.pinned==Rows.searchPathsUptoRow.pinnedBy)=true:=by kernel_rfl
theorem az2r:(Rows.searchPathsUptoRow.veiled==(Tryz.f3.params.toList++(Rows.OpenSpec.upto Rows.searchPathsSpec).bare.plain.varTypes Tryz.pinned.checked.prog++Tryz.f3.resultTypes.toList).any (Tryz.pinned.checked.prog.veiledRec ·))=true:=by kernel_rfl
theorem aza0:Rows.searchPathsUptoRow.veiledFits Tryz.pinned.checked.prog Tryz.f3.params.toList (Tryz.f3.params.toList++(Rows.OpenSpec.upto Rows.searchPathsSpec).bare.plain.varTypes Tryz.pinned.checked.prog++Tryz.f3.resultTypes.toList)=true:=by kernel_rfl
end searchPaths
end Go.Abs
