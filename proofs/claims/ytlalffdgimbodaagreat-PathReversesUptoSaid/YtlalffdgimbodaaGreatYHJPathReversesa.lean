/-
  JPathReversesa (a part of a claim: our own text).
-/
import Derived.Test.YtlalffdgimbodaaGreatYHTop
namespace Go.Abs
open Go.Proofs Go.Proofs.YtlalffdgimbodaaGreat Go.ChangeShapes Go.WideShapes Go.ChangeAt Go.RowKit
namespace pathReverses
theorem az3l:laidOutB Tryz.pinned.checked.prog=true:=by kernel_rfl
theorem Pz1:mapsRowed Tryz.pinned.checked.prog=true:=by kernel_rfl
theorem Uzl:(Rows.pathReversesUptoRow.inPlace==Tryz.pinned.checked.prog.inPlace 4)=true:=by kernel_rfl
theorem az5x:(Rows.pathReversesUptoRow.unfollowed==Tryz.pinned.checked.prog.unfollowed 4)=true:=by kernel_rfl
theorem az5v:(Rows.pathReversesUptoRow.recurses==Tryz.pinned.checked.prog.recurses 4)=true:=by kernel_rfl
theorem az3o:(Rows.pathReversesUptoRow.named==Tryz.pinned.checked.prog.varsNamed 4)=true:=by kernel_rfl
end pathReverses
end Go.Abs
