/-
  JEdgeProvesa (a part of a claim: our own text).
-/
import Derived.Test.YtnehaejghnoigaaGreatXCTop
namespace Go.Abs
open Go.Proofs Go.Proofs.YtnehaejghnoigaaGreat Go.ChangeShapes Go.WideShapes Go.ChangeAt Go.RowKit
namespace edgeProves
theorem Tzs : laidOutB Tryz.pinned.checked.prog = true := by kernel_rfl
theorem Izx : mapsRowed Tryz.pinned.checked.prog = true := by kernel_rfl
theorem Nzc : (Rows.edgeProvesUptoRow.inPlace == Tryz.pinned.checked.prog.inPlace 6) = true := by kernel_rfl
theorem Vzl : (Rows.edgeProvesUptoRow.unfollowed == Tryz.pinned.checked.prog.unfollowed 6) = true := by kernel_rfl
theorem Vzj : (Rows.edgeProvesUptoRow.recurses == Tryz.pinned.checked.prog.recurses 6) = true := by kernel_rfl
theorem Tzv : (Rows.edgeProvesUptoRow.named == Tryz.pinned.checked.prog.varsNamed 6) = true := by kernel_rfl
end edgeProves
end Go.Abs
