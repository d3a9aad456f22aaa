/-
  JSearchLazyb (a part of a claim: our own text).
-/
import Derived.Test.YtfodaccgmcljoaaGreatYDJSearchLazya
namespace Go.Abs
open Go.Proofs Go.Proofs.YtfodaccgmcljoaaGreat Go.ChangeShapes Go.WideShapes Go.ChangeAt Go.RowKit
namespace searchLazy
theorem az3o:Rows.searchLazyUptoRow.wf (OpenSpec.ofChange (Rows.OpenSpec.upto Rows.searchLazySpec).bare)=true:=by kernel_rfl
theorem Iz7:Tryz.f3.params.all (Tryz.pinned.checked.prog.readableRec ·)=true:=by kernel_rfl
theorem Nz2:namedTie Tryz.pinned.checked.prog Rows.searchLazyUptoRow.named (Rows.OpenSpec.upto Rows.searchLazySpec).bare.vars=true:=by kernel_rfl
theorem Iz4:(Rows.searchLazyUptoRow.stops==[])=true:=by kernel_rfl
theorem Nz4:(Tryz.pinned.checked.prog.stops==[])=true:=by kernel_rfl
theorem Iz3:(Rows.searchLazyUptoRow.knobs==[])=true:=by kernel_rfl
theorem Nz0:(Tryz.pinned.checked.prog.stopKnobs==[])=true:=by kernel_rfl
theorem Szk:(Rows.searchLazyUptoRow.maps==(Tryz.f3.params.toList++(Rows.OpenSpec.upto Rows.searchLazySpec).bare.plain.varTypes Tryz.pinned.checked.prog).any (Tryz.pinned.checked.prog.mapsRec ·))=true:=by kernel_rfl
theorem Iz5:(Rows.searchLazyUptoRow.ifaces==(Tryz.f3.params.toList++(Rows.OpenSpec.upto Rows.searchLazySpec).bare.plain.varTypes Tryz.pinned.checked.prog).any (Tryz.pinned.checked.prog.ifacesRec ·))=true:=by kernel_rfl
theorem Ezj:(Rows.searchLazyUptoRow.mapsOut==Tryz.pinned.checked.prog.mapsAmong Tryz.f3.resultTypes.toList)=true:=by kernel_rfl
theorem Nz1:(Rows.searchLazyUptoRow.loops==(Tryz.f3.params.toList++(Rows.OpenSpec.upto Rows.searchLazySpec).bare.plain.varTypes Tryz.pinned.checked.prog).any (Tryz.pinned.checked.prog.loopsFrom ·))=true:=by kernel_rfl
theorem Szm:(Rows.searchLazyUptoRow.wideKeys==(Tryz.f3.params.toList++(Rows.OpenSpec.upto Rows.searchLazySpec).bare.plain.varTypes Tryz.pinned.checked.prog++Tryz.f3.resultTypes.toList).any (Tryz.pinned.checked.prog.wideKeysFrom ·))=true:=by kernel_rfl
theorem Nz5:(Rows.OpenSpec.upto Rows.searchLazySpec).bare.vars.all (Tryz.pinned.checked.prog.varReadable ·)=true:=by kernel_rfl
theorem Xzv:Tryz.f3.resultTypes.all (fun t=>Tryz.pinned.checked.prog.readableRec t&&decide (t<Tryz.pinned.checked.prog.types.size))=true:=by kernel_rfl
theorem wzv:(Rows.searchLazyUptoRow.ifacesOut==Tryz.f3.resultTypes.toList.any (Tryz.pinned.checked.prog.ifacesRec ·))=true:=by kernel_rfl
theorem Azx:(Rows.searchLazyUptoRow.loopsOut==Tryz.f3.resultTypes.toList.any (Tryz.pinned.checked.prog.loopsFrom ·))=true:=by kernel_rfl
theorem wzx:(Rows.searchLazyUptoRow.plainKeys==Tryz.pinned.checked.prog.plainKeys)=true:=by kernel_rfl
theorem Nz3:Rows.searchLazyUptoRow.shortTexts.isNone=true:=by kernel_rfl
theorem Mzy:Tryz.pinned.checked.prog.stopsHeard=true:=by kernel_rfl
theorem Azy:Tryz.pinned.checked.prog.mayEnter=true:=by kernel_rfl
theorem Iz6:(Rows.searchLazyUptoRow.lifted==Tryz.pinned.checked.prog.liftsFinal)=true:=by kernel_rfl
theorem Szj:(Tryz.pinned.checked.prog.make==some Rows.searchLazyUptoRow.make)=true:=by kernel_rfl
theorem Mzz:(Rows.searchLazyUptoRow.kinds==(if Rows.searchLazyUptoRow.domain.isEmpty then []else Tryz.f3.params.toList.map fun t=>match Tryz.pinned.checked.prog.underlying t with|some (.int k)=>some k|_=>none))=true:=by kernel_rfl
theorem Iz8:(Rows.searchLazyUptoRow.pinned==Rows.searchLazyUptoRow.pinnedBy)=true:=by kernel_rfl
theorem Iz9:(Rows.searchLazyUptoRow.veiled==(Tryz.f3.params.toList++(Rows.OpenSpec.upto Rows.searchLazySpec).bare.plain.varTypes Tryz.pinned.checked.prog++Tryz.f3.resultTypes.toList).any (Tryz.pinned.checked.prog.veiledRec ·))=true:=by kernel_rfl
theorem Szh:Rows.searchLazyUptoRow.veiledFits Tryz.pinned.checked.prog Tryz.f3.params.toList (Tryz.f3.params.toList++(Rows.OpenSpec.upto Rows.searchLazySpec).bare.plain.varTypes Tryz.pinned.checked.prog++Tryz.f3.resultTypes.toList)=true:=by kernel_rfl
end searchLazy
end Go.Abs
