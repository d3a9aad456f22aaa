/-
  JSearchEagera (a part of a claim: our own text).
-/
import Derived.Test.YtfodaccgmcljoaaGreatYDTop
namespace Go.Abs
open Go.Proofs Go.Proofs.YtfodaccgmcljoaaGreat Go.ChangeShapes Go.WideShapes Go.ChangeAt Go.RowKit
namespace searchEager
theorem Szi:laidOutB Tryz.pinned.checked.prog=true:=by kernel_rfl
theorem wzw:mapsRowed Tryz.pinned.checked.prog=true:=by kernel_rfl
theorem Ezi:(Rows.searchEagerUptoRow.inPlace==Tryz.pinned.checked.prog.inPlace 4)=true:=by kernel_rfl
theorem Xzw:(Rows.searchEagerUptoRow.unfollowed==Tryz.pinned.checked.prog.unfollowed 4)=true:=by kernel_rfl
theorem Xzu:(Rows.searchEagerUptoRow.recurses==Tryz.pinned.checked.prog.recurses 4)=true:=by kernel_rfl
theorem Szl:(Rows.searchEagerUptoRow.named==Tryz.pinned.checked.prog.varsNamed 4)=true:=by kernel_rfl
end searchEager
end Go.Abs
