/-
  EdgecheckExclusive: for every input whose bulk is at most 2^20, the law 'armplanlaw20.EdgecheckExclusive' returns true and leaves its arguments as they were.
-/
import Derived.Test.YtnehaejghnoigaaGreatXGTEdgecheckExclusive
import Derived.Test.YtnehaejghnoigaaGreatXGDL4
import Derived.Test.YtnehaejghnoigaaGreatXGSums
namespace Go.Abs
open Go.Proofs
namespace edgecheckExclusive
theorem plain (a0 : (List Int)) (a1 : (List Int)) (a2 : (List Int)) (a3 : (List Int)) (a4 : Int) (a5 : S_Piece) (a6 : S_Witness) (a7 : Int) (a8 : Int) (a9 : Int) (h : bulk_t32 a0 + bulk_t32 a1 + bulk_t32 a2 + bulk_t32 a3 + bulk_t3 a4 + bulk_t37 a5 + bulk_t39 a6 + bulk_t3 a7 + bulk_t3 a8 + bulk_t3 a9 ≤ 1048576) : (law20_EdgecheckExclusive_C a0 a1 a2 a3 a4 a5 a6 a7 a8 a9).o = some true := by
  have ea0 : a0.length ≤ (a0.map bulk_t3).sum := sum_ge (fun _ => Nat.le_refl _) a0
  have ea1 : a1.length ≤ (a1.map bulk_t3).sum := sum_ge (fun _ => Nat.le_refl _) a1
  have ea2 : a2.length ≤ (a2.map bulk_t3).sum := sum_ge (fun _ => Nat.le_refl _) a2
  have ea3 : a3.length ≤ (a3.map bulk_t3).sum := sum_ge (fun _ => Nat.le_refl _) a3
  unfold bulk_t32 at h
  exact edgecheckExclusive_true a0 a1 a2 a3 a4 a5 a6 a7 a8 a9 (by omega) (by omega) (by omega) (by omega)
end edgecheckExclusive
end Go.Abs

namespace Go.Proofs.YtnehaejghnoigaaGreat
theorem edgecheckExclusive_holds : Rows.EdgecheckExclusiveUptoSaid := Go.Abs.edgecheckExclusive.over fun a0 a1 a2 a3 a4 a5 a6 a7 a8 a9 _ _ _ _ _ _ _ _ _ _ h => Go.Abs.edgecheckExclusive.plain a0 a1 a2 a3 a4 a5 a6 a7 a8 a9 h
end Go.Proofs.YtnehaejghnoigaaGreat
