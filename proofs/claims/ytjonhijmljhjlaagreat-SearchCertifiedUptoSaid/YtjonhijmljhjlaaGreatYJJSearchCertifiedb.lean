import Derived.Test.YtjonhijmljhjlaaGreatYJJSearchCertifieda
namespace Go.Abs
open Go.Proofs Go.Proofs.YtjonhijmljhjlaaGreat Go.ChangeShapes Go.WideShapes Go.ChangeAt Go.RowKit
namespace searchCertified
theorem azcj:Rows.searchCertifiedUptoRow.wf (OpenSpec.ofChange (Rows.OpenSpec.upto Rows.searchCertifiedSpec).bare)=true:=by kernel_rfl
theorem az1n:Tryz.f4.params.all (Tryz.pinned.checked.prog.readableRec ·)=true:=by kernel_rfl
theorem az5c:namedTie Tryz.pinned.checked.prog Rows.searchCertifiedUptoRow.named (Rows.OpenSpec.upto Rows.searchCertifiedSpec).bare.vars=true:=by kernel_rfl
theorem az1k:(Rows.searchCertifiedUptoRow.stops==[])=true:=by kernel_rfl
theorem az5e:(Tryz.pinned.checked.prog.stops==[])=true:=by kernel_rfl
theorem az1j:(Rows.searchCertifiedUptoRow.knobs==[])=true:=by kernel_rfl
theorem az5a:(Tryz.pinned.checked.prog.stopKnobs==[])=true:=by kernel_rfl
theorem az8q:(Rows.searchCertifiedUptoRow.maps==(Tryz.f4.params.toList++(Rows.OpenSpec.upto Rows.searchCertifiedSpec).bare.plain.varTypes Tryz.pinned.checked.prog).any (Tryz.pinned.checked.prog.mapsRec ·))=true:=by kernel_rfl
theorem az1l:(Rows.searchCertifiedUptoRow.ifaces==(Tryz.f4.params.toList++(Rows.OpenSpec.upto Rows.searchCertifiedSpec).bare.plain.varTypes Tryz.pinned.checked.prog).any (Tryz.pinned.checked.prog.ifacesRec ·))=true:=by kernel_rfl
theorem Zzf:(Rows.searchCertifiedUptoRow.mapsOut==Tryz.pinned.checked.prog.mapsAmong Tryz.f4.resultTypes.toList)=true:=by kernel_rfl
theorem az5b:(Rows.searchCertifiedUptoRow.loops==(Tryz.f4.params.toList++(Rows.OpenSpec.upto Rows.searchCertifiedSpec).bare.plain.varTypes Tryz.pinned.checked.prog).any (Tryz.pinned.checked.prog.loopsFrom ·))=true:=by kernel_rfl
theorem az8s:(Rows.searchCertifiedUptoRow.wideKeys==(Tryz.f4.params.toList++(Rows.OpenSpec.upto Rows.searchCertifiedSpec).bare.plain.varTypes Tryz.pinned.checked.prog++Tryz.f4.resultTypes.toList).any (Tryz.pinned.checked.prog.wideKeysFrom ·))=true:=by kernel_rfl
theorem az5f:(Rows.OpenSpec.upto Rows.searchCertifiedSpec).bare.vars.all (Tryz.pinned.checked.prog.varReadable ·)=true:=by kernel_rfl
theorem azb5:Tryz.f4.resultTypes.all (λt=>Tryz.pinned.checked.prog.readableRec t&&decide (t<Tryz.pinned.checked.prog.types.size))=true:=by kernel_rfl
theorem Szz:(Rows.searchCertifiedUptoRow.ifacesOut==Tryz.f4.resultTypes.toList.any (Tryz.pinned.checked.prog.ifacesRec ·))=true:=by kernel_rfl
theorem Vzw:(Rows.searchCertifiedUptoRow.loopsOut==Tryz.f4.resultTypes.toList.any (Tryz.pinned.checked.prog.loopsFrom ·))=true:=by kernel_rfl
theorem Tz1:(Rows.searchCertifiedUptoRow.plainKeys==Tryz.pinned.checked.prog.plainKeys)=true:=by kernel_rfl
theorem az5d:Rows.searchCertifiedUptoRow.shortTexts.isNone=true:=by kernel_rfl
theorem az58:Tryz.pinned.checked.prog.stopsHeard=true:=by kernel_rfl
theorem Vzx:Tryz.pinned.checked.prog.mayEnter=true:=by kernel_rfl
theorem az1m:(Rows.searchCertifiedUptoRow.lifted==Tryz.pinned.checked.prog.liftsFinal)=true:=by kernel_rfl
theorem az8p:(Tryz.pinned.checked.prog.make==some Rows.searchCertifiedUptoRow.make)=true:=by kernel_rfl
theorem az59:(Rows.searchCertifiedUptoRow.kinds==(if Rows.searchCertifiedUptoRow.domain.isEmpty then []else Tryz.f4.params.toList.map λt=>match Tryz.pinned.checked.prog.underlying t with|some (.int k)=>some k|_=>none))=true:=by kernel_rfl
theorem az1o:(Rows.searchCertifiedUptoRow.pinned==Rows.searchCertifiedUptoRow.pinnedBy)=true:=by kernel_rfl
theorem az1p:(Rows.searchCertifiedUptoRow.veiled==(Tryz.f4.params.toList++(Rows.OpenSpec.upto Rows.searchCertifiedSpec).bare.plain.varTypes Tryz.pinned.checked.prog++Tryz.f4.resultTypes.toList).any (Tryz.pinned.checked.prog.veiledRec ·))=true:=by kernel_rfl
theorem az8n:Rows.searchCertifiedUptoRow.veiledFits Tryz.pinned.checked.prog Tryz.f4.params.toList (Tryz.f4.params.toList++(Rows.OpenSpec.upto Rows.searchCertifiedSpec).bare.plain.varTypes Tryz.pinned.checked.prog++Tryz.f4.resultTypes.toList)=true:=by kernel_rfl
end searchCertified
end Go.Abs
