/-
  PathStays: for every input whose bulk is at most 2^20, the law 'armplanlaw22.PathStays' returns true and leaves its arguments as they were.
-/
import Derived.Test.YtomogglfhepnmaaGreatXFTPathStays
import Derived.Test.YtomogglfhepnmaaGreatXFDL5
import Derived.Test.YtomogglfhepnmaaGreatXFSums
namespace Go.Abs
open Go.Proofs
namespace pathStays
theorem plain (a0 : (List Int)) (a1 : (List Int)) (a2 : Int) (h : czl a0 + czl a1 + cz2 a2 ≤ 1048576) : (czi a0 a1 a2).o = some true := by
  have ea0 : a0.length ≤ (a0.map cz2).sum := Kz2 (fun _ => Nat.le_refl _) a0
  have ea1 : a1.length ≤ (a1.map cz2).sum := Kz2 (fun _ => Nat.le_refl _) a1
  unfold czl at h
  exact Bzy a0 a1 a2 (by omega) (by omega)
end pathStays
end Go.Abs

namespace Go.Proofs.YtomogglfhepnmaaGreat
theorem pathStays_holds : Rows.PathStaysUptoSaid := Go.Abs.pathStays.over fun a0 a1 a2 _ _ _ h => Go.Abs.pathStays.plain a0 a1 a2 h
end Go.Proofs.YtomogglfhepnmaaGreat
