/-
  CompactUndoes: for every input whose bulk is at most 2^20, the law 'armplanlaw21.CompactUndoes' returns true and leaves its arguments as they were.
-/
import Derived.Test.YtomogglfhepnmaaGreatXETCompactUndoes
import Derived.Test.YtomogglfhepnmaaGreatXEDL4
import Derived.Test.YtomogglfhepnmaaGreatXESums
namespace Go.Abs
open Go.Proofs
namespace compactUndoes
theorem plain (a0 : (List Int)) (a1 : (List Int)) (a2 : (List Int)) (a3 : Int) (h : bulk_t22 a0 + bulk_t22 a1 + bulk_t22 a2 + bulk_t3 a3 ≤ 1048576) : (law21_CompactUndoes_C a0 a1 a2 a3).o = some true := by
  have ea0 : a0.length ≤ (a0.map bulk_t3).sum := sum_ge (fun _ => Nat.le_refl _) a0
  have ea1 : a1.length ≤ (a1.map bulk_t3).sum := sum_ge (fun _ => Nat.le_refl _) a1
  have ea2 : a2.length ≤ (a2.map bulk_t3).sum := sum_ge (fun _ => Nat.le_refl _) a2
  unfold bulk_t22 at h
  exact compactUndoes_true a0 a1 a2 a3 (by omega) (by omega) (by omega)
end compactUndoes
end Go.Abs

namespace Go.Proofs.YtomogglfhepnmaaGreat
theorem compactUndoes_holds : Rows.CompactUndoesUptoSaid := Go.Abs.compactUndoes.over fun a0 a1 a2 a3 _ _ _ _ h => Go.Abs.compactUndoes.plain a0 a1 a2 a3 h
end Go.Proofs.YtomogglfhepnmaaGreat
