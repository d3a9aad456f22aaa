/-
  RoadmapAdds: for every input whose bulk is at most 2^20, the law 'armplanlaw25.RoadmapAdds' returns true and leaves its arguments as they were.
-/
import Derived.Test.YtkjkbdobenmgbaaGreatXMTRoadmapAdds
import Derived.Test.YtkjkbdobenmgbaaGreatXMDT
import Derived.Test.YtkjkbdobenmgbaaGreatXMSums
namespace Go.Abs
open Go.Proofs
namespace roadmapAdds
theorem points (x : List (List Int)) (h : tzq x ≤ 1048576) : ∀ c ∈ x, c.length < 4294967296 := fun c hc => by
  unfold tzq at h
  have h3 : hzu c ≤ (x.map hzu).sum := Bz8 hc
  have h4 : c.length ≤ (c.map fz7).sum := tze (fun _ => Nat.le_refl _) c
  have h5 : hzu c = (c.map fz7).sum + 1 := rfl
  omega
theorem Mza (c : azk) (h : kzn c ≤ 1048576) : PieB c := by
  unfold kzn wzq at h
  have h4 : c.Normals.length ≤ (c.Normals.map qz1).sum := tze (fun z => by unfold qz1; omega) c.Normals
  show c.Normals.length < 4294967296
  omega
theorem Mzg (x : azb) (h : tzs x ≤ 1048576) : ResB x := by
  unfold tzs wzr wzp hzu at h
  have h1 : x.Pieces.length ≤ (x.Pieces.map kzn).sum := tze (fun z => by unfold kzn; omega) x.Pieces
  have h2 : x.Witness.Left.length ≤ (x.Witness.Left.map fz7).sum := tze (fun _ => Nat.le_refl _) _
  have h3 : x.Witness.Right.length ≤ (x.Witness.Right.map fz7).sum := tze (fun _ => Nat.le_refl _) _
  refine ⟨⟨by omega, fun c hc => Mza c ?_⟩, Mza _ (by omega), by omega, by omega⟩
  have h4 : kzn c ≤ (x.Pieces.map kzn).sum := Bz8 hc
  omega
theorem Nz0 (x : List az1) (h : tzr x ≤ 1048576) : ∀ e ∈ x, ResB e.Proof := fun e he => by
  unfold tzr at h
  have h3 : qz0 e ≤ (x.map qz0).sum := Bz8 he
  have h5 : qz0 e ≤ 1048576 := by omega
  unfold qz0 at h5
  exact Mzg _ (by omega)
theorem plain (a0 : az7) (a1 : az8) (a2 : (List Int)) (a3 : (List Int)) (a4 : (List Int)) (a5 : (List Int)) (a6 : Int) (a7 : Int) (h : rze a0 + pzz a1 + ezv a2 + ezv a3 + ezv a4 + ezv a5 + ez1 a6 + ez1 a7 ≤ 1048576) : (czv a0 a1 a2 a3 a4 a5 a6 a7).o = some true := by
  have ea3 : a3.length ≤ (a3.map ez1).sum := tze (fun _ => Nat.le_refl _) a3
  have ea4 : a4.length ≤ (a4.map ez1).sum := tze (fun _ => Nat.le_refl _) a4
  have ea5 : a5.length ≤ (a5.map ez1).sum := tze (fun _ => Nat.le_refl _) a5
  unfold pzz ezv at h
  exact tzk a0 a1 a2 a3 a4 a5 a6 a7 (by omega) (by omega) (by omega) (points _ (by omega)) (Nz0 _ (by omega))
end roadmapAdds
end Go.Abs

namespace Go.Proofs.YtkjkbdobenmgbaaGreat
theorem roadmapAdds_holds : Rows.RoadmapAddsUptoSaid := Go.Abs.roadmapAdds.over fun a0 a1 a2 a3 a4 a5 a6 a7 _ _ _ _ _ _ _ _ h => Go.Abs.roadmapAdds.plain a0 a1 a2 a3 a4 a5 a6 a7 h
end Go.Proofs.YtkjkbdobenmgbaaGreat
