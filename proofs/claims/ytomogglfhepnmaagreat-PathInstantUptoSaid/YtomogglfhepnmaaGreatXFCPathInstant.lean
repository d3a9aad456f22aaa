/-
  PathInstant: for every input whose bulk is at most 2^20, the law 'armplanlaw22.PathInstant' returns true and leaves its arguments as they were.
-/
import Derived.Test.YtomogglfhepnmaaGreatXFTPathInstant
import Derived.Test.YtomogglfhepnmaaGreatXFDL5
import Derived.Test.YtomogglfhepnmaaGreatXFSums
namespace Go.Abs
open Go.Proofs
namespace pathInstant
theorem plain (a0 : (List Int)) (a1 : (List Int)) (a2 : Int) (a3 : Int) (a4 : Int) (a5 : Int) (a6 : azy) (h : czl a0 + czl a1 + cz2 a2 + cz2 a3 + cz2 a4 + cz2 a5 + vzd a6 ≤ 1048576) : (cz0 a0 a1 a2 a3 a4 a5 a6).o = some true := by
  have ea0 : a0.length ≤ (a0.map cz2).sum := Kz2 (fun _ => Nat.le_refl _) a0
  have ea1 : a1.length ≤ (a1.map cz2).sum := Kz2 (fun _ => Nat.le_refl _) a1
  unfold czl at h
  exact yzt a0 a1 a2 a3 a4 a5 a6 (by omega) (by omega)
end pathInstant
end Go.Abs

namespace Go.Proofs.YtomogglfhepnmaaGreat
theorem pathInstant_holds : Rows.PathInstantUptoSaid := Go.Abs.pathInstant.over fun a0 a1 a2 a3 a4 a5 a6 _ _ _ _ _ _ _ h => Go.Abs.pathInstant.plain a0 a1 a2 a3 a4 a5 a6 h
end Go.Proofs.YtomogglfhepnmaaGreat
