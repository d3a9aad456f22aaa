/-
  SearchWalks: for every input whose bulk is at most 2^20, the law 'armplanlaw26.SearchWalks' returns true and leaves its arguments as they were.
-/
import Derived.Test.YtjbncekcklkjaaaT26c
import Derived.Test.YtjbncekcklkjaaaGr11
import Derived.Test.YtjbncekcklkjaaaSums
namespace Go.Abs
open Go.Proofs
namespace searchWalks
theorem plain (a0 a1 : List Int) (a2 a3 a4 : Int) (h : bulk_t27 a0 + bulk_t27 a1 + bulk_t3 a2 + bulk_t3 a3 + bulk_t3 a4 ≤ 1048576) : law26_SearchWalks_F 4294967296 a0 a1 a2 a3 a4 = some true := by
  have e2 : a0.length ≤ (a0.map bulk_t3).sum := sum_ge (fun _ => Nat.le_refl _) a0
  unfold bulk_t27 at h
  exact searchWalks_true a0 a1 a2 a3 a4 (by omega)
end searchWalks
end Go.Abs

namespace Go.Proofs.Ytjbncekcklkjaaa
theorem searchWalks_holds : Rows.SearchWalksUptoSaid := Go.Abs.searchWalks.over fun a0 a1 a2 a3 a4 _ _ _ _ _ h => Go.Abs.searchWalks.plain a0 a1 a2 a3 a4 h
end Go.Proofs.Ytjbncekcklkjaaa
