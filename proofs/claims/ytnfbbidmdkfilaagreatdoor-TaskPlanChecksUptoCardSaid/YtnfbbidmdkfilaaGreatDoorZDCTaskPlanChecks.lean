import Derived.Test.YtnfbbidmdkfilaaGreatDoorZDTTaskPlanChecks
import Derived.Test.YtnfbbidmdkfilaaGreatDoorZDDL4
import Derived.Test.YtnfbbidmdkfilaaGreatDoorZDSums
open Nat renaming le_refl->qk
namespace Go.Abs
open Go.Proofs
namespace taskPlanChecks
theorem azfm {x:bz6}(h:Jzl x<=1048576):PaF x:=by
 have g:Jzl x=(Qza x.Xa+(Qzb x.Xb+0))+1:=rfl;have g1:Qza x.Xa=(x.Xa.map izc).sum+1:=rfl;have g2:Qzb x.Xb=(x.Xb.map rzp).sum+1:=rfl;refine⟨by have:=Lzy (f:=izc) (λ_=>by unfold izc;omega) x.Xa;omega,λc hc=>?_,by have:=Lzy (f:=rzp) (λ_=>by unfold rzp;omega) x.Xb;omega,λy hy=>?_⟩
 ·have h1:=Tzv (f:=izc) hc;have h2:izc c=(c.map gzx).sum+1:=rfl;have:=Lzy (f:=gzx) (λ_=>qk _) c;omega
 ·have h1:=Tzv (f:=rzp) hy;have h3:rzp y=(yzy y.XB+(Jzj y.XH+0))+1:=rfl;have h4:yzy y.XB=(y.XB.map uz7).sum+1:=rfl;have h5:Jzj y.XH=(y.XH.map rzq).sum+1:=rfl;refine⟨by have:=Lzy (f:=uz7) (λ_=>by unfold uz7;omega) y.XB;omega,by have:=Lzy (f:=rzq) (λ_=>by unfold rzq;omega) y.XH;omega,λu hu=>?_⟩;have h6:=Tzv (f:=rzq) hu;have h7:rzq u=(czj u.Xk+(gzx u.Xu+(cz9 u.Xr+0)))+1:=rfl;have h8:cz9 u.Xr=(u.Xr.map czj).sum+1:=rfl;have:=Lzy (f:=czj) (λ_=>qk _) u.Xr;omega
theorem plain (a0:az2)(a1:azk)(a2:(List Int))(a3:(List Int))(a4:(List az9))(a5:(List Int))(a6:(List Int))(a7:(List Int))(a8:(List Int))(a9:Int)(a10:Int)(a11:Int)(h:yzz a0+Fzu a1+izc a2+cz9 a3+zz0 a4+cz9 a5+cz9 a6+cz9 a7+cz9 a8+czj a9+czj a10+czj a11<=1048576):(czk a0 a1 a2 a3 a4 a5 a6 a7 a8 a9 a10 a11).o=some true:=by
 have l:∀a:List Int,cz9 a=(a.map czj).sum+1/\a.length<=(a.map czj).sum:=λa=>⟨rfl,Lzy (λ_=>qk _) a⟩
 have e0:yzz a0=(Xz7 a0.Xl+(Qz9 a0.Xd+(yzy a0.Xh+(Xz8 a0.Xj+(Xz9 a0.Xi+(gzx a0.Xq+0))))))+1:=rfl;have e1:Qz9 a0.Xd=(a0.Xd.map Jzm).sum+1:=rfl;have e4:zz0 a4=(a4.map zz1).sum+1:=rfl;have e5:=Lzy (f:=zz1) (λ_=>by unfold zz1;omega) a4;refine Jze a0 a1 a2 a3 a4 a5 a6 a7 a8 a9 a10 a11 (λo ho=>?_) qa (λy hy=>azfm ?_) (by have:=l a5;omega) (by have:=l a6;omega) (by have:=l a7;omega) (by have:=l a8;omega)
 ·have h1:=Tzv (f:=Jzm) ho;have h2:Jzm o=(Xzb o.XG+(Jzk o.Xe+0))+1:=rfl;have h3:Jzk o.Xe=(o.Xe.map Jzn).sum+1:=rfl;have:=Lzy (f:=Jzn) (λ_=>by unfold Jzn;omega) o.Xe;omega
 ·have h1:=Tzv (f:=zz1) hy;have h2:zz1 y=(Xza y.Xm+(czj y.XF+(Jzl y.Path+0)))+1:=rfl;omega
end taskPlanChecks
end Go.Abs
namespace Go.Proofs.YtnfbbidmdkfilaaGreatDoor
theorem taskPlanChecks_holds:Rows.TaskPlanChecksUptoCardSaid:=Go.Abs.taskPlanChecks.card λa0 a1 a2 a3 a4 a5 a6 a7 a8 a9 a10 a11 _ _ _ _ _ _ _ _ _ _ _ _ h=>Go.Abs.taskPlanChecks.plain a0 a1 a2 a3 a4 a5 a6 a7 a8 a9 a10 a11 h
end Go.Proofs.YtnfbbidmdkfilaaGreatDoor
