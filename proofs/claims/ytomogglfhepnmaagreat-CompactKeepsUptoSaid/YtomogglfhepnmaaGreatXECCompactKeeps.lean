/-
  CompactKeeps: for every input whose bulk is at most 2^20, the law 'armplanlaw21.CompactKeeps' returns true and leaves its arguments as they were.
-/
import Derived.Test.YtomogglfhepnmaaGreatXETCompactKeeps
import Derived.Test.YtomogglfhepnmaaGreatXEDL4
import Derived.Test.YtomogglfhepnmaaGreatXESums
namespace Go.Abs
open Go.Proofs
namespace compactKeeps
theorem plain (a0 : (List Int)) (a1 : (List Int)) (a2 : (List Int)) (a3 : Int) (h : bulk_t22 a0 + bulk_t22 a1 + bulk_t22 a2 + bulk_t3 a3 ≤ 1048576) : (law21_CompactKeeps_C a0 a1 a2 a3).o = some true := by
  have ea0 : a0.length ≤ (a0.map bulk_t3).sum := sum_ge (fun _ => Nat.le_refl _) a0
  have ea1 : a1.length ≤ (a1.map bulk_t3).sum := sum_ge (fun _ => Nat.le_refl _) a1
  have ea2 : a2.length ≤ (a2.map bulk_t3).sum := sum_ge (fun _ => Nat.le_refl _) a2
  unfold bulk_t22 at h
  exact compactKeeps_true a0 a1 a2 a3 (by omega) (by omega) (by omega)
end compactKeeps
end Go.Abs

namespace Go.Proofs.YtomogglfhepnmaaGreat
theorem compactKeeps_holds : Rows.CompactKeepsUptoSaid := Go.Abs.compactKeeps.over fun a0 a1 a2 a3 _ _ _ _ h => Go.Abs.compactKeeps.plain a0 a1 a2 a3 h
end Go.Proofs.YtomogglfhepnmaaGreat
