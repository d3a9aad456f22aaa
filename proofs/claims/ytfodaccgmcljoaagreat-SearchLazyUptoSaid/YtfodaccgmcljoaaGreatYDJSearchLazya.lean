/-
  JSearchLazya (a part of a claim: our own text).
-/
import Derived.Test.YtfodaccgmcljoaaGreatYDTop
namespace Go.Abs
open Go.Proofs Go.Proofs.YtfodaccgmcljoaaGreat Go.ChangeShapes Go.WideShapes Go.ChangeAt Go.RowKit
namespace searchLazy
theorem Szi:laidOutB Tryz.pinned.checked.prog=true:=by kernel_rfl
theorem wzw:mapsRowed Tryz.pinned.checked.prog=true:=by kernel_rfl
theorem Ezi:(Rows.searchLazyUptoRow.inPlace==Tryz.pinned.checked.prog.inPlace 3)=true:=by kernel_rfl
theorem Xzw:(Rows.searchLazyUptoRow.unfollowed==Tryz.pinned.checked.prog.unfollowed 3)=true:=by kernel_rfl
theorem Xzu:(Rows.searchLazyUptoRow.recurses==Tryz.pinned.checked.prog.recurses 3)=true:=by kernel_rfl
theorem Szl:(Rows.searchLazyUptoRow.named==Tryz.pinned.checked.prog.varsNamed 3)=true:=by kernel_rfl
end searchLazy
end Go.Abs
