/-
  PathBuilds: for every input whose bulk is at most 2^20, the law 'armplanlaw22.PathBuilds' returns true and leaves its arguments as they were.
-/
import Derived.Test.YtlalffdgimbodaaGreatYFTPathBuilds
import Derived.Test.YtlalffdgimbodaaGreatYFDL4
import Derived.Test.YtlalffdgimbodaaGreatYFSums
namespace Go.Abs
open Go.Proofs
namespace pathBuilds
theorem plain (a0:az8)(a1:(List (List Int)))(a2:(List Int))(a3:(List Int))(a4:Int)(h:Azt a0+yz2 a1+lz1 a2+lz1 a3+izh a4≤1048576):(dzo a0 a1 a2 a3 a4).o=some true:=by
 have ea2:a2.length≤(a2.map izh).sum:=Xze (fun _=>Nat.le_refl _) a2
 have ea3:a3.length≤(a3.map izh).sum:=Xze (fun _=>Nat.le_refl _) a3
 have ea1:a1.length≤(a1.map Fzt).sum:=Xze (fun z=>by unfold Fzt;omega) a1
 unfold yz2 lz1 at h
 exact Hzo a0 a1 a2 a3 a4 (by omega) (by omega) (by omega)
end pathBuilds
end Go.Abs

namespace Go.Proofs.YtlalffdgimbodaaGreat
theorem pathBuilds_holds:Rows.PathBuildsUptoSaid:=Go.Abs.pathBuilds.over fun a0 a1 a2 a3 a4 _ _ _ _ _ h=>Go.Abs.pathBuilds.plain a0 a1 a2 a3 a4 h
end Go.Proofs.YtlalffdgimbodaaGreat
