/-
  EdgeCovers: for every input whose bulk is at most 2^20, the law 'armplanlaw19.EdgeCovers' returns true and leaves its arguments as they were.
-/
import Derived.Test.YtnehaejghnoigaaGreatXATEdgeCovers
import Derived.Test.YtnehaejghnoigaaGreatXADL3
import Derived.Test.YtnehaejghnoigaaGreatXASums
namespace Go.Abs
open Go.Proofs
namespace edgeCovers
theorem plain (a0 : (List Int)) (a1 : (List Int)) (a2 : (List Int)) (a3 : Int) (h : bulk_t32 a0 + bulk_t32 a1 + bulk_t32 a2 + bulk_t3 a3 ≤ 1048576) : (law19_EdgeCovers_C a0 a1 a2 a3).o = some true := by
  have e0 : a0.length ≤ (a0.map bulk_t3).sum := sum_ge (fun _ => Nat.le_refl _) a0
  have e1 : a1.length ≤ (a1.map bulk_t3).sum := sum_ge (fun _ => Nat.le_refl _) a1
  have e2 : a2.length ≤ (a2.map bulk_t3).sum := sum_ge (fun _ => Nat.le_refl _) a2
  unfold bulk_t32 at h
  exact edgeCovers_true a0 a1 a2 a3 (by omega) (by omega) (by omega)
end edgeCovers
end Go.Abs

namespace Go.Proofs.YtnehaejghnoigaaGreat
theorem edgeCovers_holds : Rows.EdgeCoversUptoSaid := Go.Abs.edgeCovers.over fun a0 a1 a2 a3 _ _ _ _ h => Go.Abs.edgeCovers.plain a0 a1 a2 a3 h
end Go.Proofs.YtnehaejghnoigaaGreat
