/-
  RoadmapNested: for every input whose bulk is at most 2^20, the law 'armplanlaw25.RoadmapNested' returns true and leaves its arguments as they were.
-/
import Derived.Test.YtkjkbdobenmgbaaGreatXITRoadmapNested
import Derived.Test.YtkjkbdobenmgbaaGreatXIDL2
import Derived.Test.YtkjkbdobenmgbaaGreatXISums
namespace Go.Abs
open Go.Proofs
namespace roadmapNested
theorem plain (a0 : (List Int)) (h : bulk_t30 a0 ≤ 1048576) : (law25_RoadmapNested_C a0).o = some true := by
  have ea0 : a0.length ≤ (a0.map bulk_t3).sum := sum_ge (fun _ => Nat.le_refl _) a0
  unfold bulk_t30 at h
  exact roadmapNested_true a0 (by omega)
end roadmapNested
end Go.Abs

namespace Go.Proofs.YtkjkbdobenmgbaaGreat
theorem roadmapNested_holds : Rows.RoadmapNestedUptoSaid := Go.Abs.roadmapNested.over fun a0 _ h => Go.Abs.roadmapNested.plain a0 h
end Go.Proofs.YtkjkbdobenmgbaaGreat
