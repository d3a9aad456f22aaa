/-
  EdgeProves: for every input whose bulk is at most 2^20, the law 'armplanlaw19.EdgeProves' returns true and leaves its arguments as they were.
-/
import Derived.Test.YtnehaejghnoigaaGreatXCTEdgeProves
import Derived.Test.YtnehaejghnoigaaGreatXCDL4
import Derived.Test.YtnehaejghnoigaaGreatXCSums
namespace Go.Abs
open Go.Proofs
namespace edgeProves
theorem plain (a0 : aza) (a1 : (List Int)) (a2 : (List Int)) (a3 : (List Int)) (a4 : (List Int)) (a5 : (List Int)) (a6 : Int) (h : xz1 a0 + jz0 a1 + jz0 a2 + ezx a3 + ezx a4 + ezx a5 + gzf a6 ≤ 1048576) : (czg a0 a1 a2 a3 a4 a5 a6).o = some true := by
  have ea1 : a1.length ≤ (a1.map gze).sum := Kz4 (fun _ => Nat.le_refl _) a1
  have ea2 : a2.length ≤ (a2.map gze).sum := Kz4 (fun _ => Nat.le_refl _) a2
  have ea3 : a3.length ≤ (a3.map gzf).sum := Kz4 (fun _ => Nat.le_refl _) a3
  have ea4 : a4.length ≤ (a4.map gzf).sum := Kz4 (fun _ => Nat.le_refl _) a4
  have ea5 : a5.length ≤ (a5.map gzf).sum := Kz4 (fun _ => Nat.le_refl _) a5
  unfold jz0 ezx at h
  exact Cze a0 a1 a2 a3 a4 a5 a6 (by omega) (by omega) (by omega) (by omega) (by omega)
end edgeProves
end Go.Abs

namespace Go.Proofs.YtnehaejghnoigaaGreat
theorem edgeProves_holds : Rows.EdgeProvesUptoSaid := Go.Abs.edgeProves.over fun a0 a1 a2 a3 a4 a5 a6 _ _ _ _ _ _ _ h => Go.Abs.edgeProves.plain a0 a1 a2 a3 a4 a5 a6 h
end Go.Proofs.YtnehaejghnoigaaGreat
