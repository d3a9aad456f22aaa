/-
  SearchEager: for every input whose bulk is at most 2^20, the law 'armplanlaw26.SearchEager' returns true and leaves its arguments as they were.
-/
import Derived.Test.YtfodaccgmcljoaaGreatYDTSearchEager
import Derived.Test.YtfodaccgmcljoaaGreatYDDL5
import Derived.Test.YtfodaccgmcljoaaGreatYDSums
namespace Go.Abs
open Go.Proofs
namespace searchEager
theorem plain (a0:(List Int))(a1:(List Int))(a2:Int)(a3:Int)(a4:Int)(a5:Int)(h:ez1 a0+ez1 a1+bzb a2+bzb a3+bzb a4+bzb a5≤1048576):(dzv a0 a1 a2 a3 a4 a5).o=some true:=by
 have ea0:a0.length≤(a0.map bzb).sum:=Dzs (fun _=>Nat.le_refl _) a0
 have ea1:a1.length≤(a1.map bzb).sum:=Dzs (fun _=>Nat.le_refl _) a1
 unfold ez1 at h
 exact Gzu a0 a1 a2 a3 a4 a5 (by omega) (by omega)
end searchEager
end Go.Abs

namespace Go.Proofs.YtfodaccgmcljoaaGreat
theorem searchEager_holds:Rows.SearchEagerUptoSaid:=Go.Abs.searchEager.over fun a0 a1 a2 a3 a4 a5 _ _ _ _ _ _ h=>Go.Abs.searchEager.plain a0 a1 a2 a3 a4 a5 h
end Go.Proofs.YtfodaccgmcljoaaGreat
