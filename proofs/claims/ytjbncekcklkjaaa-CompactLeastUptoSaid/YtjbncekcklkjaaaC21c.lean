/-
  CompactLeast: for every input whose bulk is at most 2^20, the law 'armplanlaw21.CompactLeast' returns true and leaves its arguments as they were.
-/
import Derived.Test.YtjbncekcklkjaaaT21c
import Derived.Test.YtjbncekcklkjaaaLaw21c
import Derived.Test.YtjbncekcklkjaaaSums
namespace Go.Abs
open Go.Proofs
namespace compactLeast
theorem plain (a0 a1 : List Int) (h : bulk_t27 a0 + bulk_t27 a1 ≤ 1048576) : law21_CompactLeast_F 4294967296 a0 a1 = some true := by
  have e1 : a0.length ≤ (a0.map bulk_t3).sum := sum_ge (fun _ => Nat.le_refl _) a0
  have e2 : a1.length ≤ (a1.map bulk_t3).sum := sum_ge (fun _ => Nat.le_refl _) a1
  unfold bulk_t27 at h
  exact compactLeast_true _ a0 a1 (by omega) (by omega) (by omega)
end compactLeast
end Go.Abs

namespace Go.Proofs.Ytjbncekcklkjaaa
theorem compactLeast_holds : Rows.CompactLeastUptoSaid := Go.Abs.compactLeast.over fun a0 a1 _ _ h => Go.Abs.compactLeast.plain a0 a1 h
end Go.Proofs.Ytjbncekcklkjaaa
