/-
  SearchBudget: for every input whose bulk is at most 2^20, the law 'armplanlaw26.SearchBudget' returns true and leaves its arguments as they were.
-/
import Derived.Test.YtfodaccgmcljoaaGreatYATSearchBudget
import Derived.Test.YtfodaccgmcljoaaGreatYADL4
import Derived.Test.YtfodaccgmcljoaaGreatYASums
namespace Go.Abs
open Go.Proofs
namespace searchBudget
theorem plain (a0 : (List Int)) (a1 : (List Int)) (a2 : Int) (a3 : Int) (a4 : Int) (a5 : Int) (a6 : Int) (h : izz a0 + izz a1 + dz9 a2 + dz9 a3 + dz9 a4 + dz9 a5 + dz9 a6 ≤ 1048576) : (czl a0 a1 a2 a3 a4 a5 a6).o = some true := by
  have ea0 : a0.length ≤ (a0.map dz9).sum := Qz6 (fun _ => Nat.le_refl _) a0
  have ea1 : a1.length ≤ (a1.map dz9).sum := Qz6 (fun _ => Nat.le_refl _) a1
  unfold izz at h
  exact xzl a0 a1 a2 a3 a4 a5 a6 (by omega) (by omega)
end searchBudget
end Go.Abs

namespace Go.Proofs.YtfodaccgmcljoaaGreat
theorem searchBudget_holds : Rows.SearchBudgetUptoSaid := Go.Abs.searchBudget.over fun a0 a1 a2 a3 a4 a5 a6 _ _ _ _ _ _ _ h => Go.Abs.searchBudget.plain a0 a1 a2 a3 a4 a5 a6 h
end Go.Proofs.YtfodaccgmcljoaaGreat
