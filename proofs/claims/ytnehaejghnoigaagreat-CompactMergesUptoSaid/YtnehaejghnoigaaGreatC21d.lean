/-
  CompactMerges: for every input whose bulk is at most 2^20, the law 'armplanlaw21.CompactMerges' returns true and leaves its arguments as they were.
-/
import Derived.Test.YtnehaejghnoigaaGreatT21d
import Derived.Test.YtnehaejghnoigaaGreatLD
import Derived.Test.YtnehaejghnoigaaGreatSums
namespace Go.Abs
open Go.Proofs
namespace compactMerges
theorem plain (a0 : S_Scene) (a1 a2 : List Int) (a3 : List S_Piece) (a4 a5 a6 : List Int) (a7 : Int) (h : bulk_t29 a0 + bulk_t30 a1 + bulk_t30 a2 + bulk_t31 a3 + bulk_t32 a4 + bulk_t32 a5 + bulk_t32 a6 + bulk_t3 a7 ≤ 1048576) : (law21_CompactMerges_C a0 a1 a2 a3 a4 a5 a6 a7).o = some true := by
  have e1 : a1.length ≤ (a1.map bulk_t2).sum := sum_ge (fun _ => Nat.le_refl _) a1
  have e2 : a2.length ≤ (a2.map bulk_t2).sum := sum_ge (fun _ => Nat.le_refl _) a2
  have e3 : a3.length ≤ (a3.map bulk_t37).sum := sum_ge (fun _ => Nat.le_add_left 1 _) a3
  have e4 : a4.length ≤ (a4.map bulk_t3).sum := sum_ge (fun _ => Nat.le_refl _) a4
  have e5 : a5.length ≤ (a5.map bulk_t3).sum := sum_ge (fun _ => Nat.le_refl _) a5
  have e6 : a6.length ≤ (a6.map bulk_t3).sum := sum_ge (fun _ => Nat.le_refl _) a6
  unfold bulk_t30 bulk_t31 bulk_t32 at h
  refine compactMerges_true a0 a1 a2 a3 a4 a5 a6 a7 (by omega) (by omega) (by omega) (fun x hx => ?_) (by omega) (by omega) (by omega)
  have k1 : bulk_t37 x ≤ (a3.map bulk_t37).sum := sum_mem hx
  have k2 : x.Normals.length ≤ (x.Normals.map bulk_t49).sum := sum_ge (fun _ => Nat.le_add_left 1 _) x.Normals
  have k3 : (x.Normals.map bulk_t49).sum ≤ bulk_t37 x := by unfold bulk_t37 bulk_t35; omega
  omega
end compactMerges
end Go.Abs

namespace Go.Proofs.YtnehaejghnoigaaGreat
theorem compactMerges_holds : Rows.CompactMergesUptoSaid := Go.Abs.compactMerges.over fun a0 a1 a2 a3 a4 a5 a6 a7 _ _ _ _ _ _ _ _ h => Go.Abs.compactMerges.plain a0 a1 a2 a3 a4 a5 a6 a7 h
end Go.Proofs.YtnehaejghnoigaaGreat
