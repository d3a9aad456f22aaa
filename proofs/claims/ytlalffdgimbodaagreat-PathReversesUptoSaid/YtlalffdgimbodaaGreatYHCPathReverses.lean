/-
  PathReverses: for every input whose bulk is at most 2^20, the law 'armplanlaw22.PathReverses' returns true and leaves its arguments as they were.
-/
import Derived.Test.YtlalffdgimbodaaGreatYHTPathReverses
import Derived.Test.YtlalffdgimbodaaGreatYHDL4
import Derived.Test.YtlalffdgimbodaaGreatYHSums
namespace Go.Abs
open Go.Proofs
namespace pathReverses
theorem az70 (l:List Int):l.length≤pzl l:=by
 have:l.length≤(l.map wzi).sum:=Lz7 (fun _=>Nat.le_refl _) l
 unfold pzl;omega
theorem az3g (l:List Int):l.length≤hzc l:=by
 have:l.length≤(l.map fz7).sum:=Lz7 (fun _=>Nat.le_refl _) l
 unfold hzc;omega
theorem az6a (x:aze)(h:pzm x≤1048576):PkF x:=by
 unfold pzm at h
 have h1:x.Table.length≤(x.Table.map Gzm).sum:=Lz7 (fun _=>by unfold Gzm;omega) x.Table
 have h2:x.Uses.length≤(x.Uses.map tzm).sum:=Lz7 (fun _=>by unfold tzm;omega) x.Uses
 unfold Lzg Lzh at h
 refine⟨by omega,by omega,fun u hu=>?_⟩
 have h3:tzm u≤(x.Uses.map tzm).sum:=Szp hu
 have h4:=az3g u.Numbers
 have h5:tzm u=(fz7 u.Depth+(wzi u.Index+(hzc u.Numbers+0)))+1:=rfl
 omega
theorem path (x:azv)(h:tzl x≤1048576):PaF x:=by
 unfold tzl at h
 have h1:x.Points.length≤(x.Points.map pzl).sum:=Lz7 (fun _=>by unfold pzl;omega) x.Points
 have h2:x.Edges.length≤(x.Edges.map pzm).sum:=Lz7 (fun _=>by unfold pzm;omega) x.Edges
 unfold Lze Lzf at h
 refine⟨by omega,fun c hc=>?_,by omega,fun y hy=>?_⟩
 ·have h3:pzl c≤(x.Points.map pzl).sum:=Szp hc
  have h4:=az70 c
  omega
 ·have h3:pzm y≤(x.Edges.map pzm).sum:=Szp hy
  exact az6a y (by omega)
theorem wfI (x:Int)(h:Pzh x):InR x:=by
 unfold Pzh Lit.wf at h
 simp only[decide_eq_true_eq,Bool.and_eq_true]at h
 exact h
theorem okI (x:azv)(h:Kzt x):PaI x:=fun y hy u hu=>wfI _ ((h.2.1 y hy).2.1 u hu).2.1
theorem plain (a0:azv)(a1:(List Int))(a2:(List Int))(a3:Int)(a4:Int)(a5:Int)(a6:Int)(o:Kzt a0)(h:tzl a0+hzc a1+hzc a2+fz7 a3+fz7 a4+fz7 a5+fz7 a6≤1048576):(dze a0 a1 a2 a3 a4 a5 a6).o=some true:=by
 have e2:=az3g a1
 have e3:=az3g a2
 exact Ezc a0 a1 a2 a3 a4 a5 a6 (by omega) (by omega) (path a0 (by omega)) (okI a0 o)
end pathReverses
end Go.Abs

namespace Go.Proofs.YtlalffdgimbodaaGreat
theorem pathReverses_holds:Rows.PathReversesUptoSaid:=Go.Abs.pathReverses.over fun a0 a1 a2 a3 a4 a5 a6 o _ _ _ _ _ _ h=>Go.Abs.pathReverses.plain a0 a1 a2 a3 a4 a5 a6 o h
end Go.Proofs.YtlalffdgimbodaaGreat
