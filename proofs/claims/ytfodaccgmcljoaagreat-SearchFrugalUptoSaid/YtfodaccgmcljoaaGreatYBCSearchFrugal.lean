/-
 SearchFrugal: for every input whose bulk is at most 2^20, the law 'armplanlaw26.SearchFrugal' returns true and leaves its arguments as they were.
-/
import Derived.Test.YtfodaccgmcljoaaGreatYBTSearchFrugal
import Derived.Test.YtfodaccgmcljoaaGreatYBDL4
import Derived.Test.YtfodaccgmcljoaaGreatYBSums
namespace Go.Abs
open Go.Proofs
namespace searchFrugal
theorem plain (a0 : (List Int)) (a1 : (List Int)) (a2 : Int) (a3 : Int) (a4 : Int) (a5 : Int) (h : jz0 a0 + jz0 a1 + eza a2 + eza a3 + eza a4 + eza a5 ≤ 1048576) : (czp a0 a1 a2 a3 a4 a5).o = some true := by
 have ea0 : a0.length ≤ (a0.map eza).sum := Qzv (fun _ => Nat.le_refl _) a0
 have ea1 : a1.length ≤ (a1.map eza).sum := Qzv (fun _ => Nat.le_refl _) a1
 unfold jz0 at h
 exact xzu a0 a1 a2 a3 a4 a5 (by omega) (by omega)
end searchFrugal
end Go.Abs

namespace Go.Proofs.YtfodaccgmcljoaaGreat
theorem searchFrugal_holds : Rows.SearchFrugalUptoSaid := Go.Abs.searchFrugal.over fun a0 a1 a2 a3 a4 a5 _ _ _ _ _ _ h => Go.Abs.searchFrugal.plain a0 a1 a2 a3 a4 a5 h
end Go.Proofs.YtfodaccgmcljoaaGreat
