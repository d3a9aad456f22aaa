/-
  EdgecheckAccepts: for every input whose bulk is at most 2^20, the law 'armplanlaw20.EdgecheckAccepts' returns true and leaves its arguments as they were.
-/
import Derived.Test.YtnehaejghnoigaaGreatT20b
import Derived.Test.YtnehaejghnoigaaGreatTB5
import Derived.Test.YtnehaejghnoigaaGreatSums
namespace Go.Abs
open Go.Proofs
namespace edgecheckAccepts
theorem plain (a0 : S_Scene) (a1 a2 : List Int) (a3 : S_EdgeResult) (a4 a5 a6 : List Int) (a7 a8 a9 a10 : Int) (h : bulk_t29 a0 + bulk_t30 a1 + bulk_t30 a2 + bulk_t41 a3 + bulk_t32 a4 + bulk_t32 a5 + bulk_t32 a6 + bulk_t3 a7 + bulk_t3 a8 + bulk_t3 a9 + bulk_t3 a10 ≤ 1048576) : (law20_EdgecheckAccepts_C a0 a1 a2 a3 a4 a5 a6 a7 a8 a9 a10).o = some true := by
  have e1 : a1.length ≤ (a1.map bulk_t2).sum := sum_ge (fun _ => Nat.le_refl _) a1
  have e2 : a2.length ≤ (a2.map bulk_t2).sum := sum_ge (fun _ => Nat.le_refl _) a2
  have e4 : a4.length ≤ (a4.map bulk_t3).sum := sum_ge (fun _ => Nat.le_refl _) a4
  have e5 : a5.length ≤ (a5.map bulk_t3).sum := sum_ge (fun _ => Nat.le_refl _) a5
  have e6 : a6.length ≤ (a6.map bulk_t3).sum := sum_ge (fun _ => Nat.le_refl _) a6
  unfold bulk_t30 bulk_t32 at h
  exact edgecheckAccepts_true a0 a1 a2 a3 a4 a5 a6 a7 a8 a9 a10 (by omega) (by omega) (by omega) (by omega) (by omega)
end edgecheckAccepts
end Go.Abs

namespace Go.Proofs.YtnehaejghnoigaaGreat
theorem edgecheckAccepts_holds : Rows.EdgecheckAcceptsUptoSaid := Go.Abs.edgecheckAccepts.over fun a0 a1 a2 a3 a4 a5 a6 a7 a8 a9 a10 _ _ _ _ _ _ _ _ _ _ _ h => Go.Abs.edgecheckAccepts.plain a0 a1 a2 a3 a4 a5 a6 a7 a8 a9 a10 h
end Go.Proofs.YtnehaejghnoigaaGreat
