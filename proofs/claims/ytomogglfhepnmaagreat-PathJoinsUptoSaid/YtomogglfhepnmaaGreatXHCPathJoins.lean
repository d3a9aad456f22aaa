/-
  PathJoins: for every input whose bulk is at most 2^20, the law 'armplanlaw22.PathJoins' returns true and leaves its arguments as they were.
-/
import Derived.Test.YtomogglfhepnmaaGreatXHTPathJoins
import Derived.Test.YtomogglfhepnmaaGreatXHDL5
import Derived.Test.YtomogglfhepnmaaGreatXHSums
namespace Go.Abs
open Go.Proofs
namespace pathJoins
theorem ints2 (l : List Int) : l.length ≤ bulk_t31 l := by
  have : l.length ≤ (l.map bulk_t2).sum := sum_ge (fun _ => Nat.le_refl _) l
  unfold bulk_t31; omega
theorem ints3 (l : List Int) : l.length ≤ bulk_t22 l := by
  have : l.length ≤ (l.map bulk_t3).sum := sum_ge (fun _ => Nat.le_refl _) l
  unfold bulk_t22; omega
theorem packed (x : S_Packed) (h : bulk_t79 x ≤ 1048576) : PkF x := by
  unfold bulk_t79 at h
  have h1 : x.Table.length ≤ (x.Table.map bulk_t102).sum := sum_ge (fun _ => by unfold bulk_t102; omega) x.Table
  have h2 : x.Uses.length ≤ (x.Uses.map bulk_t154).sum := sum_ge (fun _ => by unfold bulk_t154; omega) x.Uses
  unfold bulk_t35 bulk_t77 at h
  refine ⟨by omega, by omega, fun u hu => ?_⟩
  have h3 : bulk_t154 u ≤ (x.Uses.map bulk_t154).sum := sum_mem hu
  have h4 := ints3 u.Numbers
  have h5 : bulk_t154 u = (bulk_t3 u.Depth + (bulk_t2 u.Index + (bulk_t22 u.Numbers + 0))) + 1 := rfl
  omega
theorem path (x : S_Path) (h : bulk_t58 x ≤ 1048576) : PaH x := by
  unfold bulk_t58 at h
  have h1 : x.Points.length ≤ (x.Points.map bulk_t31).sum := sum_ge (fun _ => by unfold bulk_t31; omega) x.Points
  have h2 : x.Edges.length ≤ (x.Edges.map bulk_t79).sum := sum_ge (fun _ => by unfold bulk_t79; omega) x.Edges
  unfold bulk_t53 bulk_t56 at h
  refine ⟨by omega, fun c hc => ?_, by omega, fun y hy => ?_⟩
  · have h3 : bulk_t31 c ≤ (x.Points.map bulk_t31).sum := sum_mem hc
    have h4 := ints2 c
    omega
  · have h3 : bulk_t79 y ≤ (x.Edges.map bulk_t79).sum := sum_mem hy
    exact packed y (by omega)
theorem plain (a0 : S_Path) (a1 : S_Path) (a2 : (List Int)) (a3 : (List Int)) (a4 : Int) (a5 : Int) (h : bulk_t58 a0 + bulk_t58 a1 + bulk_t22 a2 + bulk_t22 a3 + bulk_t3 a4 + bulk_t3 a5 ≤ 1048576) : (law22_PathJoins_C a0 a1 a2 a3 a4 a5).o = some true := by
  have e2 := ints3 a2
  have e3 := ints3 a3
  exact pathJoins_true a0 a1 a2 a3 a4 a5 (path a0 (by omega)) (path a1 (by omega)) (by omega) (by omega)
end pathJoins
end Go.Abs

namespace Go.Proofs.YtomogglfhepnmaaGreat
theorem pathJoins_holds : Rows.PathJoinsUptoSaid := Go.Abs.pathJoins.over fun a0 a1 a2 a3 a4 a5 _ _ _ _ _ _ h => Go.Abs.pathJoins.plain a0 a1 a2 a3 a4 a5 h
end Go.Proofs.YtomogglfhepnmaaGreat
