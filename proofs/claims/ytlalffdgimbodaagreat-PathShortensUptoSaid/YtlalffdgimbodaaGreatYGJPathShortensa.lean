/-
  JPathShortensa (a part of a claim: our own text).
-/
import Derived.Test.YtlalffdgimbodaaGreatYGTop
namespace Go.Abs
open Go.Proofs Go.Proofs.YtlalffdgimbodaaGreat Go.ChangeShapes Go.WideShapes Go.ChangeAt Go.RowKit
namespace pathShortens
theorem az47:laidOutB Tryz.pinned.checked.prog=true:=by kernel_rfl
theorem Pzq:mapsRowed Tryz.pinned.checked.prog=true:=by kernel_rfl
theorem Vzb:(Rows.pathShortensUptoRow.inPlace==Tryz.pinned.checked.prog.inPlace 5)=true:=by kernel_rfl
theorem az6h:(Rows.pathShortensUptoRow.unfollowed==Tryz.pinned.checked.prog.unfollowed 5)=true:=by kernel_rfl
theorem az6f:(Rows.pathShortensUptoRow.recurses==Tryz.pinned.checked.prog.recurses 5)=true:=by kernel_rfl
theorem az4a:(Rows.pathShortensUptoRow.named==Tryz.pinned.checked.prog.varsNamed 5)=true:=by kernel_rfl
end pathShortens
end Go.Abs
