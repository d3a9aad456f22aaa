/-
  RoadmapLists: for every input whose bulk is at most 2^20, the law 'armplanlaw25.RoadmapLists' returns true and leaves its arguments as they were.
-/
import Derived.Test.YtkjkbdobenmgbaaGreatXITRoadmapLists
import Derived.Test.YtkjkbdobenmgbaaGreatXIDL2
import Derived.Test.YtkjkbdobenmgbaaGreatXISums
namespace Go.Abs
open Go.Proofs
namespace roadmapLists
theorem plain (a0 : S_Roadmap) (a1 : Int) (a2 : Int) (a3 : (List Int)) (h : bulk_t29 a0 + bulk_t3 a1 + bulk_t3 a2 + bulk_t30 a3 ≤ 1048576) : (law25_RoadmapLists_C a0 a1 a2 a3).o = some true := by
  have ea3 : a3.length ≤ (a3.map bulk_t3).sum := sum_ge (fun _ => Nat.le_refl _) a3
  unfold bulk_t30 at h
  exact roadmapLists_true a0 a1 a2 a3 (by omega)
end roadmapLists
end Go.Abs

namespace Go.Proofs.YtkjkbdobenmgbaaGreat
theorem roadmapLists_holds : Rows.RoadmapListsUptoSaid := Go.Abs.roadmapLists.over fun a0 a1 a2 a3 _ _ _ _ h => Go.Abs.roadmapLists.plain a0 a1 a2 a3 h
end Go.Proofs.YtkjkbdobenmgbaaGreat
