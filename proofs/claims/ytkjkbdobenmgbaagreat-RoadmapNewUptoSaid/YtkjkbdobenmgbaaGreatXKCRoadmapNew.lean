/-
  RoadmapNew: for every input whose bulk is at most 2^20, the law 'armplanlaw25.RoadmapNew' returns true and leaves its arguments as they were.
-/
import Derived.Test.YtkjkbdobenmgbaaGreatXKTRoadmapNew
import Derived.Test.YtkjkbdobenmgbaaGreatXKDT
import Derived.Test.YtkjkbdobenmgbaaGreatXKSums
namespace Go.Abs
open Go.Proofs
namespace roadmapNew
theorem points (x : List (List Int)) (h : bulk_t26 x ≤ 1048576) : ∀ c ∈ x, c.length < 4294967296 := fun c hc => by
  unfold bulk_t26 at h
  have h3 : bulk_t40 c ≤ (x.map bulk_t40).sum := sum_mem hc
  have h4 : c.length ≤ (c.map bulk_t2).sum := sum_ge (fun _ => Nat.le_refl _) c
  have h5 : bulk_t40 c = (c.map bulk_t2).sum + 1 := rfl
  omega
theorem plain (a0 : S_Robot) (a1 : (List (List Int))) (a2 : (List Int)) (a3 : (List Int)) (a4 : Int) (a5 : Int) (h : bulk_t25 a0 + bulk_t26 a1 + bulk_t30 a2 + bulk_t30 a3 + bulk_t3 a4 + bulk_t3 a5 ≤ 1048576) : (law25_RoadmapNew_C a0 a1 a2 a3 a4 a5).o = some true := by
  have ea2 : a2.length ≤ (a2.map bulk_t3).sum := sum_ge (fun _ => Nat.le_refl _) a2
  have ea3 : a3.length ≤ (a3.map bulk_t3).sum := sum_ge (fun _ => Nat.le_refl _) a3
  have e1 := points a1 (by omega)
  unfold bulk_t30 at h
  exact roadmapNew_true a0 a1 a2 a3 a4 a5 (by omega) (by omega) e1
end roadmapNew
end Go.Abs

namespace Go.Proofs.YtkjkbdobenmgbaaGreat
theorem roadmapNew_holds : Rows.RoadmapNewUptoSaid := Go.Abs.roadmapNew.over fun a0 a1 a2 a3 a4 a5 _ _ _ _ _ _ h => Go.Abs.roadmapNew.plain a0 a1 a2 a3 a4 a5 h
end Go.Proofs.YtkjkbdobenmgbaaGreat
