/-
  RoadmapNearest: for every input whose bulk is at most 2^20, the law 'armplanlaw25.RoadmapNearest' returns true and leaves its arguments as they were.
-/
import Derived.Test.YtkjkbdobenmgbaaGreatXLTRoadmapNearest
import Derived.Test.YtkjkbdobenmgbaaGreatXLDT
import Derived.Test.YtkjkbdobenmgbaaGreatXLSums
namespace Go.Abs
open Go.Proofs
namespace roadmapNearest
theorem plain (a0 : (List Int)) (a1 : (List Int)) (a2 : Int) (a3 : Int) (h : bulk_t30 a0 + bulk_t30 a1 + bulk_t3 a2 + bulk_t3 a3 ≤ 1048576) : (law25_RoadmapNearest_C a0 a1 a2 a3).o = some true := by
  have ea0 : a0.length ≤ (a0.map bulk_t3).sum := sum_ge (fun _ => Nat.le_refl _) a0
  have ea1 : a1.length ≤ (a1.map bulk_t3).sum := sum_ge (fun _ => Nat.le_refl _) a1
  unfold bulk_t30 at h
  exact roadmapNearest_true a0 a1 a2 a3 (by omega) (by omega)
end roadmapNearest
end Go.Abs

namespace Go.Proofs.YtkjkbdobenmgbaaGreat
theorem roadmapNearest_holds : Rows.RoadmapNearestUptoSaid := Go.Abs.roadmapNearest.over fun a0 a1 a2 a3 _ _ _ _ h => Go.Abs.roadmapNearest.plain a0 a1 a2 a3 h
end Go.Proofs.YtkjkbdobenmgbaaGreat
