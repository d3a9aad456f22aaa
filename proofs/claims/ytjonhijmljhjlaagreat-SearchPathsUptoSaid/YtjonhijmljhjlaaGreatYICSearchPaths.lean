import Derived.Test.YtjonhijmljhjlaaGreatYITSearchPaths
import Derived.Test.YtjonhijmljhjlaaGreatYIDL5
import Derived.Test.YtjonhijmljhjlaaGreatYISums
open Nat renaming le_refl->ql
namespace Go.Abs
open Go.Proofs
namespace searchPaths
theorem tot:∀l:List az8,hz7 l<=(l.map pz9).sum
 |[]=>ql _
 |x::l=>by
  have ih:=tot l;have h1:x.Xe.length<=(x.Xe.map vzx).sum:=Vz6 (λ_=>by unfold vzx;omega) x.Xe;have h2:pz9 x=(dzw x.Xg+(gzl x.Xk+((x.Xe.map vzx).sum+1+0)))+1:=rfl;have h3:hz7 (x::l)=x.Xe.length+hz7 l:=by simp[hz7]
  simp only[List.map_cons,List.sum_cons];omega
theorem map (m:aze)(h:vzv m<=1048576):MapF m:=by
 unfold vzv at h;unfold Pzb Pzc at h;refine⟨λc hc=>?_,λe he=>?_⟩
 ·have h3:vzw c<=(m.Xc.map vzw).sum:=az50 hc;have h4:c.length<=(c.map gzl).sum:=Vz6 (λ_=>ql _) c;unfold vzw at h3 h;omega
 ·have h3:Ezl e<=(m.Xa.map Ezl).sum:=az50 he;have h4:Ezl e=(dzw e.U+(dzw e.V+(gzl e.Xi+(dzw e.Xr+((dzw e.Xn.Xm+(((e.Xn.Xo.map pz9).sum+1)+(pz9 e.Xn.At+(Pze e.Xn.Xl+0))))+1+0)))))+1:=rfl;have h5:e.Xn.Xo.length<=(e.Xn.Xo.map pz9).sum:=Vz6 (λ_=>by unfold pz9;omega) e.Xn.Xo;have h6:=tot e.Xn.Xo;omega
theorem plain (a0:azd)(a1:aze)(a2:bzy)(a3:(List Int))(a4:(List Int))(a5:Int)(a6:Int)(h:Ezj a0+vzv a1+Ezk a2+kz8 a3+kz8 a4+dzw a5+dzw a6<=1048576):(ez7 a0 a1 a2 a3 a4 a5 a6).o=some true:=by
 have ea3:a3.length<=(a3.map dzw).sum:=Vz6 (λ_=>ql _) a3;have ea4:a4.length<=(a4.map dzw).sum:=Vz6 (λ_=>ql _) a4;unfold kz8 at h;exact Jzs a0 a1 a2 a3 a4 a5 a6 qa qa (map a1 qa)
end searchPaths
end Go.Abs

namespace Go.Proofs.YtjonhijmljhjlaaGreat
theorem searchPaths_holds:Rows.SearchPathsUptoSaid:=Go.Abs.searchPaths.over λa0 a1 a2 a3 a4 a5 a6 _ _ _ _ _ _ _ h=>Go.Abs.searchPaths.plain a0 a1 a2 a3 a4 a5 a6 h
end Go.Proofs.YtjonhijmljhjlaaGreat
