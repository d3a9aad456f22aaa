/-
  EdgecheckInstant: for every input whose bulk is at most 2^20, the law 'armplanlaw20.EdgecheckInstant' returns true and leaves its arguments as they were.
-/
import Derived.Test.YtnehaejghnoigaaGreatXBTEdgecheckInstant
import Derived.Test.YtnehaejghnoigaaGreatXBDL4
import Derived.Test.YtnehaejghnoigaaGreatXBSums
namespace Go.Abs
open Go.Proofs
namespace edgecheckInstant
theorem plain (a0 : (List Int)) (a1 : (List Int)) (a2 : (List Int)) (a3 : Int) (a4 : Int) (a5 : Int) (a6 : S_Witness) (h : bulk_t32 a0 + bulk_t32 a1 + bulk_t32 a2 + bulk_t3 a3 + bulk_t3 a4 + bulk_t3 a5 + bulk_t39 a6 ≤ 1048576) : (law20_EdgecheckInstant_C a0 a1 a2 a3 a4 a5 a6).o = some true := by
  have ea0 : a0.length ≤ (a0.map bulk_t3).sum := sum_ge (fun _ => Nat.le_refl _) a0
  have ea1 : a1.length ≤ (a1.map bulk_t3).sum := sum_ge (fun _ => Nat.le_refl _) a1
  have ea2 : a2.length ≤ (a2.map bulk_t3).sum := sum_ge (fun _ => Nat.le_refl _) a2
  unfold bulk_t32 at h
  exact edgecheckInstant_true a0 a1 a2 a3 a4 a5 a6 (by omega) (by omega) (by omega)
end edgecheckInstant
end Go.Abs

namespace Go.Proofs.YtnehaejghnoigaaGreat
theorem edgecheckInstant_holds : Rows.EdgecheckInstantUptoSaid := Go.Abs.edgecheckInstant.over fun a0 a1 a2 a3 a4 a5 a6 _ _ _ _ _ _ _ h => Go.Abs.edgecheckInstant.plain a0 a1 a2 a3 a4 a5 a6 h
end Go.Proofs.YtnehaejghnoigaaGreat
