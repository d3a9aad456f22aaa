/-
  SearchNext: for every input whose bulk is at most 2^20, the law 'armplanlaw26.SearchNext' returns true and leaves its arguments as they were.
-/
import Derived.Test.YtjbncekcklkjaaaT26b
import Derived.Test.YtjbncekcklkjaaaGr9
import Derived.Test.YtjbncekcklkjaaaSums
namespace Go.Abs
open Go.Proofs
namespace searchNext
theorem plain (a0 : S_Roadmap) (a1 a2 : Int) (a4 : List Int) (h : bulk_t52 a0 + bulk_t3 a1 + bulk_t3 a2 + bulk_t27 a4 ≤ 1048576) : law26_SearchNext_F 4294967296 a0 a1 a2 a4 = some true := by
  have e2 : a4.length ≤ (a4.map bulk_t3).sum := sum_ge (fun _ => Nat.le_refl _) a4
  unfold bulk_t27 at h
  exact searchNext_true a0 a1 a2 a4 (by omega)
end searchNext
end Go.Abs

namespace Go.Proofs.Ytjbncekcklkjaaa
theorem searchNext_holds : Rows.SearchNextUptoSaid := Go.Abs.searchNext.over fun a0 a1 a2 a3 _ _ _ _ h => Go.Abs.searchNext.plain a0 a1 a2 a3 h
end Go.Proofs.Ytjbncekcklkjaaa
