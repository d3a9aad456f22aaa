/-
  SearchLazy: for every input whose bulk is at most 2^20, the law 'armplanlaw26.SearchLazy' returns true and leaves its arguments as they were.
-/
import Derived.Test.YtfodaccgmcljoaaGreatYDTSearchLazy
import Derived.Test.YtfodaccgmcljoaaGreatYDDL5
import Derived.Test.YtfodaccgmcljoaaGreatYDSums
namespace Go.Abs
open Go.Proofs
namespace searchLazy
theorem points (x:List (List Int))(h:Hz0 x≤1048576):∀c∈x,c.length<4294967296:=fun c hc=>by
 unfold Hz0 at h
 have h3:qz4 c≤(x.map qz4).sum:=Tzn hc
 have h4:c.length≤(c.map gz3).sum:=Dzs (fun _=>Nat.le_refl _) c
 have h5:qz4 c=(c.map gz3).sum+1:=rfl
 omega
theorem az6h (c:azk)(h:nzt c≤1048576):PieB c:=by
 unfold nzt Hz2 at h
 have h4:c.Normals.length≤(c.Normals.map yzz).sum:=Dzs (fun z=>by unfold yzz;omega) c.Normals
 show c.Normals.length<4294967296
 omega
theorem az6l (x:azi)(h:Hz3 x≤1048576):ResM x:=by
 unfold Hz3 Mz3 Mz2 qz4 at h
 have h1:x.Pieces.length≤(x.Pieces.map nzt).sum:=Dzs (fun z=>by unfold nzt;omega) x.Pieces
 have h2:x.Witness.Left.length≤(x.Witness.Left.map gz3).sum:=Dzs (fun _=>Nat.le_refl _) _
 have h3:x.Witness.Right.length≤(x.Witness.Right.map gz3).sum:=Dzs (fun _=>Nat.le_refl _) _
 refine⟨⟨by omega,fun c hc=>az6h c ?_⟩,az6h _ (by omega),by omega,by omega⟩
 have h4:nzt c≤(x.Pieces.map nzt).sum:=Tzn hc
 omega
theorem az76 (x:List az4)(h:Hz1 x≤1048576):∀e∈x,ResM e.Proof:=fun e he=>by
 unfold Hz1 at h
 have h3:yzy e≤(x.map yzy).sum:=Tzn he
 have h5:yzy e≤1048576:=by omega
 unfold yzy at h5
 exact az6l _ (by omega)
theorem plain (a0:azg)(a1:az9)(a2:Int)(a3:Int)(a4:(List Int))(a5:(List Int))(a6:Int)(a7:Int)(a8:Int)(a9:Int)(h:Bzu a0+yzx a1+bzb a2+bzb a3+ez1 a4+ez1 a5+bzb a6+bzb a7+bzb a8+bzb a9≤1048576):(ezd a0 a1 a2 a3 a4 a5 a6 a7 a8 a9).o=some true:=by
 have ea4:a4.length≤(a4.map bzb).sum:=Dzs (fun _=>Nat.le_refl _) a4
 have ea5:a5.length≤(a5.map bzb).sum:=Dzs (fun _=>Nat.le_refl _) a5
 unfold yzx ez1 at h
 exact Jzk a0 a1 a2 a3 a4 a5 a6 a7 a8 a9 (by omega) (by omega) (points _ (by omega)) (az76 _ (by omega))
end searchLazy
end Go.Abs

namespace Go.Proofs.YtfodaccgmcljoaaGreat
theorem searchLazy_holds:Rows.SearchLazyUptoSaid:=Go.Abs.searchLazy.over fun a0 a1 a2 a3 a4 a5 a6 a7 a8 a9 _ _ _ _ _ _ _ _ _ _ h=>Go.Abs.searchLazy.plain a0 a1 a2 a3 a4 a5 a6 a7 a8 a9 h
end Go.Proofs.YtfodaccgmcljoaaGreat
