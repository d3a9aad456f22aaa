/-
  EdgeDeeper: for every input whose bulk is at most 2^20, the law 'armplanlaw19.EdgeDeeper' returns true and leaves its arguments as they were.
-/
import Derived.Test.YtnehaejghnoigaaGreatT19b
import Derived.Test.YtnehaejghnoigaaGreatDL2
import Derived.Test.YtnehaejghnoigaaGreatSums
namespace Go.Abs
open Go.Proofs
namespace edgeDeeper
theorem plain (a0 a1 a2 : List Int) (a3 a4 : Int) (h : bulk_t32 a0 + bulk_t32 a1 + bulk_t32 a2 + bulk_t3 a3 + bulk_t3 a4 ≤ 1048576) : (law19_EdgeDeeper_C a0 a1 a2 a3 a4).o = some true := by
  have e0 : a0.length ≤ (a0.map bulk_t3).sum := sum_ge (fun _ => Nat.le_refl _) a0
  have e1 : a1.length ≤ (a1.map bulk_t3).sum := sum_ge (fun _ => Nat.le_refl _) a1
  have e2 : a2.length ≤ (a2.map bulk_t3).sum := sum_ge (fun _ => Nat.le_refl _) a2
  unfold bulk_t32 at h
  exact edgeDeeper_true a0 a1 a2 a3 a4 (by omega) (by omega) (by omega)
end edgeDeeper
end Go.Abs

namespace Go.Proofs.YtnehaejghnoigaaGreat
theorem edgeDeeper_holds : Rows.EdgeDeeperUptoSaid := Go.Abs.edgeDeeper.over fun a0 a1 a2 a3 a4 _ _ _ _ _ h => Go.Abs.edgeDeeper.plain a0 a1 a2 a3 a4 h
end Go.Proofs.YtnehaejghnoigaaGreat
