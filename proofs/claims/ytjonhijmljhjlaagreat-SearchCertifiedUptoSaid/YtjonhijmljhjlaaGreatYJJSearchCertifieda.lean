import Derived.Test.YtjonhijmljhjlaaGreatYJTop
namespace Go.Abs
open Go.Proofs Go.Proofs.YtjonhijmljhjlaaGreat Go.ChangeShapes Go.WideShapes Go.ChangeAt Go.RowKit
namespace searchCertified
theorem az8o:laidOutB Tryz.pinned.checked.prog=true:=by kernel_rfl
theorem Tz0:mapsRowed Tryz.pinned.checked.prog=true:=by kernel_rfl
theorem Zze:(Rows.searchCertifiedUptoRow.inPlace==Tryz.pinned.checked.prog.inPlace 4)=true:=by kernel_rfl
theorem azb6:(Rows.searchCertifiedUptoRow.unfollowed==Tryz.pinned.checked.prog.unfollowed 4)=true:=by kernel_rfl
theorem azb4:(Rows.searchCertifiedUptoRow.recurses==Tryz.pinned.checked.prog.recurses 4)=true:=by kernel_rfl
theorem az8r:(Rows.searchCertifiedUptoRow.named==Tryz.pinned.checked.prog.varsNamed 4)=true:=by kernel_rfl
end searchCertified
end Go.Abs
