import Derived.Test.YtnfbbidmdkfilaaGreatDoorZETTaskPlanGoals
import Derived.Test.YtnfbbidmdkfilaaGreatDoorZEDL4
import Derived.Test.YtnfbbidmdkfilaaGreatDoorZESums
open Nat renaming le_refl->qk
namespace Go.Abs
open Go.Proofs
namespace taskPlanGoals
theorem plain (a0:(List Int))(a1:(List Int))(a2:(List Int))(a3:(List Int))(a4:(List Int))(h:dz0 a0+dz0 a1+dz0 a2+dz0 a3+dz0 a4<=1048576):(czt a0 a1 a2 a3 a4).o=some true:=by
 have ea0:a0.length<=(a0.map Hz6).sum:=az1s (λ_=>qk _) a0;have ea1:a1.length<=(a1.map Hz6).sum:=az1s (λ_=>qk _) a1;have ea2:a2.length<=(a2.map Hz6).sum:=az1s (λ_=>qk _) a2;have ea3:a3.length<=(a3.map Hz6).sum:=az1s (λ_=>qk _) a3;have ea4:a4.length<=(a4.map Hz6).sum:=az1s (λ_=>qk _) a4;unfold dz0 at h;exact Kzx a0 a1 a2 a3 a4 qa qa qa qa qa
end taskPlanGoals
end Go.Abs
namespace Go.Proofs.YtnfbbidmdkfilaaGreatDoor
theorem taskPlanGoals_holds:Rows.TaskPlanGoalsUptoCardSaid:=Go.Abs.taskPlanGoals.card λa0 a1 a2 a3 a4 _ _ _ _ _ h=>Go.Abs.taskPlanGoals.plain a0 a1 a2 a3 a4 h
end Go.Proofs.YtnfbbidmdkfilaaGreatDoor
