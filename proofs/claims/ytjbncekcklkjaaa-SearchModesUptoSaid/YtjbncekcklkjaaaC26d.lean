/-
  SearchModes: for every input whose bulk is at most 2^20, the law 'armplanlaw26.SearchModes' returns true and leaves its arguments as they were.
-/
import Derived.Test.YtjbncekcklkjaaaT26d
import Derived.Test.YtjbncekcklkjaaaGr10
import Derived.Test.YtjbncekcklkjaaaSums
namespace Go.Abs
open Go.Proofs
namespace searchModes
theorem plain (a0 : List Int) (a1 a2 : Int) (h : bulk_t27 a0 + bulk_t3 a1 + bulk_t3 a2 ≤ 1048576) : law26_SearchModes_F 4294967296 a0 a1 a2 = some true := by
  have e2 : a0.length ≤ (a0.map bulk_t3).sum := sum_ge (fun _ => Nat.le_refl _) a0
  unfold bulk_t27 at h
  exact searchModes_true a0 a1 a2 (by omega)
end searchModes
end Go.Abs

namespace Go.Proofs.Ytjbncekcklkjaaa
theorem searchModes_holds : Rows.SearchModesUptoSaid := Go.Abs.searchModes.over fun a0 a1 a2 _ _ _ h => Go.Abs.searchModes.plain a0 a1 a2 h
end Go.Proofs.Ytjbncekcklkjaaa
