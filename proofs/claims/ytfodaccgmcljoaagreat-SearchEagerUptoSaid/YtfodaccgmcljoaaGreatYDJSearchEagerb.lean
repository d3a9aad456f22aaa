/-
  JSearchEagerb (a part of a claim: our own text).
-/
import Derived.Test.YtfodaccgmcljoaaGreatYDJSearchEagera
namespace Go.Abs
open Go.Proofs Go.Proofs.YtfodaccgmcljoaaGreat Go.ChangeShapes Go.WideShapes Go.ChangeAt Go.RowKit
namespace searchEager
theorem az3o:Rows.searchEagerUptoRow.wf (OpenSpec.ofChange (Rows.OpenSpec.upto Rows.searchEagerSpec).bare)=true:=by kernel_rfl
theorem Iz7:Tryz.f4.params.all (Tryz.pinned.checked.prog.readableRec ·)=true:=by kernel_rfl
theorem Nz2:namedTie Tryz.pinned.checked.prog Rows.searchEagerUptoRow.named (Rows.OpenSpec.upto Rows.searchEagerSpec).bare.vars=true:=by kernel_rfl
theorem Iz4:(Rows.searchEagerUptoRow.stops==[])=true:=by kernel_rfl
theorem Nz4:(Tryz.pinned.checked.prog.stops==[])=true:=by kernel_rfl
theorem Iz3:(Rows.searchEagerUptoRow.knobs==[])=true:=by kernel_rfl
theorem Nz0:(Tryz.pinned.checked.prog.stopKnobs==[])=true:=by kernel_rfl
theorem Szk:(Rows.searchEagerUptoRow.maps==(Tryz.f4.params.toList++(Rows.OpenSpec.upto Rows.searchEagerSpec).bare.plain.varTypes Tryz.pinned.checked.prog).any (Tryz.pinned.checked.prog.mapsRec ·))=true:=by kernel_rfl
theorem Iz5:(Rows.searchEagerUptoRow.ifaces==(Tryz.f4.params.toList++(Rows.OpenSpec.upto Rows.searchEagerSpec).bare.plain.varTypes Tryz.pinned.checked.prog).any (Tryz.pinned.checked.prog.ifacesRec ·))=true:=by kernel_rfl
theorem Ezj:(Rows.searchEagerUptoRow.mapsOut==Tryz.pinned.checked.prog.mapsAmong Tryz.f4.resultTypes.toList)=true:=by kernel_rfl
theorem Nz1:(Rows.searchEagerUptoRow.loops==(Tryz.f4.params.toList++(Rows.OpenSpec.upto Rows.searchEagerSpec).bare.plain.varTypes Tryz.pinned.checked.prog).any (Tryz.pinned.checked.prog.loopsFrom ·))=true:=by kernel_rfl
theorem Szm:(Rows.searchEagerUptoRow.wideKeys==(Tryz.f4.params.toList++(Rows.OpenSpec.upto Rows.searchEagerSpec).bare.plain.varTypes Tryz.pinned.checked.prog++Tryz.f4.resultTypes.toList).any (Tryz.pinned.checked.prog.wideKeysFrom ·))=true:=by kernel_rfl
theorem Nz5:(Rows.OpenSpec.upto Rows.searchEagerSpec).bare.vars.all (Tryz.pinned.checked.prog.varReadable ·)=true:=by kernel_rfl
theorem Xzv:Tryz.f4.resultTypes.all (fun t=>Tryz.pinned.checked.prog.readableRec t&&decide (t<Tryz.pinned.checked.prog.types.size))=true:=by kernel_rfl
theorem wzv:(Rows.searchEagerUptoRow.ifacesOut==Tryz.f4.resultTypes.toList.any (Tryz.pinned.checked.prog.ifacesRec ·))=true:=by kernel_rfl
theorem Azx:(Rows.searchEagerUptoRow.loopsOut==Tryz.f4.resultTypes.toList.any (Tryz.pinned.checked.prog.loopsFrom ·))=true:=by kernel_rfl
theorem wzx:(Rows.searchEagerUptoRow.plainKeys==Tryz.pinned.checked.prog.plainKeys)=true:=by kernel_rfl
theorem Nz3:Rows.searchEagerUptoRow.shortTexts.isNone=true:=by kernel_rfl
theorem Mzy:Tryz.pinned.checked.prog.stopsHeard=true:=by kernel_rfl
theorem Azy:Tryz.pinned.checked.prog.mayEnter=true:=by kernel_rfl
theorem Iz6:(Rows.searchEagerUptoRow.lifted==Tryz.pinned.checked.prog.liftsFinal)=true:=by kernel_rfl
theorem Szj:(Tryz.pinned.checked.prog.make==some Rows.searchEagerUptoRow.make)=true:=by kernel_rfl
theorem Mzz:(Rows.searchEagerUptoRow.kinds==(if Rows.searchEagerUptoRow.domain.isEmpty then []else Tryz.f4.params.toList.map fun t=>match Tryz.pinned.checked.prog.underlying t with|some (.int k)=>some k|_=>none))=true:=by kernel_rfl
theorem Iz8:(Rows.searchEagerUptoRow.pinned==Rows.searchEagerUptoRow.pinnedBy)=true:=by kernel_rfl
theorem Iz9:(Rows.searchEagerUptoRow.veiled==(Tryz.f4.params.toList++(Rows.OpenSpec.upto Rows.searchEagerSpec).bare.plain.varTypes Tryz.pinned.checked.prog++Tryz.f4.resultTypes.toList).any (Tryz.pinned.checked.prog.veiledRec ·))=true:=by kernel_rfl
theorem Szh:Rows.searchEagerUptoRow.veiledFits Tryz.pinned.checked.prog Tryz.f4.params.toList (Tryz.f4.params.toList++(Rows.OpenSpec.upto Rows.searchEagerSpec).bare.plain.varTypes Tryz.pinned.checked.prog++Tryz.f4.resultTypes.toList)=true:=by kernel_rfl
end searchEager
end Go.Abs
