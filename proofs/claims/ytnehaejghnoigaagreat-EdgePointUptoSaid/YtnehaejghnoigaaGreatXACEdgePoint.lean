/-
  EdgePoint: for every input whose bulk is at most 2^20, the law 'armplanlaw19.EdgePoint' returns true and leaves its arguments as they were.
-/
import Derived.Test.YtnehaejghnoigaaGreatXATEdgePoint
import Derived.Test.YtnehaejghnoigaaGreatXADL4
import Derived.Test.YtnehaejghnoigaaGreatXASums
namespace Go.Abs
open Go.Proofs
namespace edgePoint
theorem plain (a0 : (List Int)) (a1 : (List Int)) (a2 : Int) (h : bulk_t32 a0 + bulk_t32 a1 + bulk_t3 a2 ≤ 1048576) : (law19_EdgePoint_C a0 a1 a2).o = some true := by
  have e0 : a0.length ≤ (a0.map bulk_t3).sum := sum_ge (fun _ => Nat.le_refl _) a0
  have e1 : a1.length ≤ (a1.map bulk_t3).sum := sum_ge (fun _ => Nat.le_refl _) a1
  unfold bulk_t32 at h
  exact edgePoint_true a0 a1 a2 (by omega) (by omega)
end edgePoint
end Go.Abs

namespace Go.Proofs.YtnehaejghnoigaaGreat
theorem edgePoint_holds : Rows.EdgePointUptoSaid := Go.Abs.edgePoint.over fun a0 a1 a2 _ _ _ h => Go.Abs.edgePoint.plain a0 a1 a2 h
end Go.Proofs.YtnehaejghnoigaaGreat
