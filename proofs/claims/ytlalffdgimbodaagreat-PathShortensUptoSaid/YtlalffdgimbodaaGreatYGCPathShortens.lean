/-
  PathShortens: for every input whose bulk is at most 2^20, the law 'armplanlaw22.PathShortens' returns true and leaves its arguments as they were.
-/
import Derived.Test.YtlalffdgimbodaaGreatYGTPathShortens
import Derived.Test.YtlalffdgimbodaaGreatYGDL4
import Derived.Test.YtlalffdgimbodaaGreatYGSums
namespace Go.Abs
open Go.Proofs
namespace pathShortens
theorem az7k (l:List Int):l.length≤qz0 l:=by
 have:l.length≤(l.map hzy).sum:=Lzu (fun _=>Nat.le_refl _) l
 unfold qz0;omega
theorem az42 (l:List Int):l.length≤hzc l:=by
 have:l.length≤(l.map dzi).sum:=Lzu (fun _=>Nat.le_refl _) l
 unfold hzc;omega
theorem az6w (x:aze)(h:qz1 x≤1048576):PkF x:=by
 unfold qz1 at h
 have h1:x.Table.length≤(x.Table.map zzd).sum:=Lzu (fun _=>by unfold zzd;omega) x.Table
 have h2:x.Uses.length≤(x.Uses.map tzw).sum:=Lzu (fun _=>by unfold tzw;omega) x.Uses
 unfold Hz5 Mz5 at h
 refine⟨by omega,by omega,fun u hu=>?_⟩
 have h3:tzw u≤(x.Uses.map tzw).sum:=Tzc hu
 have h4:=az42 u.Numbers
 have h5:tzw u=(dzi u.Depth+(hzy u.Index+(hzc u.Numbers+0)))+1:=rfl
 omega
theorem path (x:azw)(h:tzv x≤1048576):PaF x:=by
 unfold tzv at h
 have h1:x.Points.length≤(x.Points.map qz0).sum:=Lzu (fun _=>by unfold qz0;omega) x.Points
 have h2:x.Edges.length≤(x.Edges.map qz1).sum:=Lzu (fun _=>by unfold qz1;omega) x.Edges
 unfold Mz3 Mz4 at h
 refine⟨by omega,fun c hc=>?_,by omega,fun y hy=>?_⟩
 ·have h3:qz0 c≤(x.Points.map qz0).sum:=Tzc hc
  have h4:=az7k c
  omega
 ·have h3:qz1 y≤(x.Edges.map qz1).sum:=Tzc hy
  exact az6w y (by omega)
theorem plain (a0:az9)(a1:azw)(a2:(List Int))(a3:(List Int))(a4:Int)(a5:Int)(a6:Int)(a7:Int)(h:Cz6 a0+tzv a1+hzc a2+hzc a3+dzi a4+dzi a5+dzi a6+dzi a7≤1048576):(dzf a0 a1 a2 a3 a4 a5 a6 a7).o=some true:=by
 have e2:=az42 a2
 have e3:=az42 a3
 exact Fz1 a0 a1 a2 a3 a4 a5 a6 a7 (by omega) (by omega) (path a1 (by omega))
end pathShortens
end Go.Abs

namespace Go.Proofs.YtlalffdgimbodaaGreat
theorem pathShortens_holds:Rows.PathShortensUptoSaid:=Go.Abs.pathShortens.over fun a0 a1 a2 a3 a4 a5 a6 a7 _ _ _ _ _ _ _ _ h=>Go.Abs.pathShortens.plain a0 a1 a2 a3 a4 a5 a6 a7 h
end Go.Proofs.YtlalffdgimbodaaGreat
