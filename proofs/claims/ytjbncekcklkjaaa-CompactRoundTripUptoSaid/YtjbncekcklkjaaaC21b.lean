/-
  CompactRoundTrip: for every input whose bulk is at most 2^20, the law 'armplanlaw21.CompactRoundTrip' returns true and leaves its arguments as they were.
-/
import Derived.Test.YtjbncekcklkjaaaT21b
import Derived.Test.YtjbncekcklkjaaaLaw21c
import Derived.Test.YtjbncekcklkjaaaSums
namespace Go.Abs
open Go.Proofs
namespace compactRoundTrip
theorem vec_le (a : V3) : 1 ≤ bulk_t39 a := by unfold bulk_t39; omega
theorem piece_le (p : S_Piece) : p.Normals.length ≤ bulk_t45 p := by
  have := sum_ge vec_le p.Normals
  unfold bulk_t45 bulk_t23; omega
theorem plain (a0 : List S_Piece) (a1 : List Int) (h : bulk_t22 a0 + bulk_t27 a1 ≤ 1048576) : law21_CompactRoundTrip_F 4294967296 a0 a1 = some true := by
  have e0 : a0.length ≤ (a0.map bulk_t45).sum := sum_ge (fun p => by unfold bulk_t45; omega) a0
  have e1 : total a0 ≤ (a0.map bulk_t45).sum := sum_mono piece_le a0
  have e2 : a1.length ≤ (a1.map bulk_t3).sum := sum_ge (fun _ => Nat.le_refl _) a1
  unfold bulk_t22 bulk_t27 at h
  refine compactRoundTrip_true _ 1048576 a0 a1 (by omega) (by omega) ⟨by omega, fun p hp => ?_⟩ (by omega) (by omega)
  have := piece_le p; have := sum_mem (f := bulk_t45) hp; omega
end compactRoundTrip
end Go.Abs

namespace Go.Proofs.Ytjbncekcklkjaaa
theorem compactRoundTrip_holds : Rows.CompactRoundTripUptoSaid := Go.Abs.compactRoundTrip.over fun a0 a1 _ _ h => Go.Abs.compactRoundTrip.plain a0 a1 h
end Go.Proofs.Ytjbncekcklkjaaa
