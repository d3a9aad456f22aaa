/-
  RoadmapProofs: for every input whose bulk is at most 2^20, the law 'armplanlaw25.RoadmapProofs' returns true and leaves its arguments as they were.
-/
import Derived.Test.YtciomjhdpbiaeaaGreatYETRoadmapProofs
import Derived.Test.YtciomjhdpbiaeaaGreatYEDL4
import Derived.Test.YtciomjhdpbiaeaaGreatYESums
namespace Go.Abs
open Go.Proofs
namespace roadmapProofs
theorem plain (a0:(List Int))(a1:(List Int))(a2:Int)(h:lz2 a0+lz2 a1+vzx a2≤1048576):(dz1 a0 a1 a2).o=some true:=by
 have ea0:a0.length≤(a0.map vzx).sum:=az0b (fun _=>Nat.le_refl _) a0
 have ea1:a1.length≤(a1.map vzx).sum:=az0b (fun _=>Nat.le_refl _) a1
 unfold lz2 at h
 exact Dz5 a0 a1 a2 (by omega) (by omega)
end roadmapProofs
end Go.Abs

namespace Go.Proofs.YtciomjhdpbiaeaaGreat
theorem roadmapProofs_holds:Rows.RoadmapProofsUptoSaid:=Go.Abs.roadmapProofs.over fun a0 a1 a2 _ _ _ h=>Go.Abs.roadmapProofs.plain a0 a1 a2 h
end Go.Proofs.YtciomjhdpbiaeaaGreat
