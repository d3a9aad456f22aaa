import Derived.Test.YtjonhijmljhjlaaGreatYITop
namespace Go.Abs
open Go.Proofs Go.Proofs.YtjonhijmljhjlaaGreat Go.ChangeShapes Go.WideShapes Go.ChangeAt Go.RowKit
namespace searchPaths
theorem aza1:laidOutB Tryz.pinned.checked.prog=true:=by kernel_rfl
theorem Tzl:mapsRowed Tryz.pinned.checked.prog=true:=by kernel_rfl
theorem Zzz:(Rows.searchPathsUptoRow.inPlace==Tryz.pinned.checked.prog.inPlace 3)=true:=by kernel_rfl
theorem azcq:(Rows.searchPathsUptoRow.unfollowed==Tryz.pinned.checked.prog.unfollowed 3)=true:=by kernel_rfl
theorem azco:(Rows.searchPathsUptoRow.recurses==Tryz.pinned.checked.prog.recurses 3)=true:=by kernel_rfl
theorem aza4:(Rows.searchPathsUptoRow.named==Tryz.pinned.checked.prog.varsNamed 3)=true:=by kernel_rfl
end searchPaths
end Go.Abs
