/-
  RoadmapKeeps: for every input whose bulk is at most 2^20, the law 'armplanlaw25.RoadmapKeeps' returns true and leaves its arguments as they were.
-/
import Derived.Test.YtkjkbdobenmgbaaGreatXNTRoadmapKeeps
import Derived.Test.YtkjkbdobenmgbaaGreatXNDT
import Derived.Test.YtkjkbdobenmgbaaGreatXNSums
namespace Go.Abs
open Go.Proofs
namespace roadmapKeeps
theorem plain (a0 : (List Int)) (a1 : (List Int)) (a2 : (List Int)) (a3 : Int) (a4 : Int) (a5 : Int) (h : gz3 a0 + gz3 a1 + gz3 a2 + gzc a3 + gzc a4 + gzc a5 ≤ 1048576) : (czw a0 a1 a2 a3 a4 a5).o = some true := by
  have ea0 : a0.length ≤ (a0.map gzc).sum := Ezq (fun _ => Nat.le_refl _) a0
  have ea1 : a1.length ≤ (a1.map gzc).sum := Ezq (fun _ => Nat.le_refl _) a1
  have ea2 : a2.length ≤ (a2.map gzc).sum := Ezq (fun _ => Nat.le_refl _) a2
  unfold gz3 at h
  exact szj a0 a1 a2 a3 a4 a5 (by omega) (by omega) (by omega)
end roadmapKeeps
end Go.Abs

namespace Go.Proofs.YtkjkbdobenmgbaaGreat
theorem roadmapKeeps_holds : Rows.RoadmapKeepsUptoSaid := Go.Abs.roadmapKeeps.over fun a0 a1 a2 a3 a4 a5 _ _ _ _ _ _ h => Go.Abs.roadmapKeeps.plain a0 a1 a2 a3 a4 a5 h
end Go.Proofs.YtkjkbdobenmgbaaGreat
