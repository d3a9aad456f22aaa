import Derived.Test.YtnfbbidmdkfilaaGreatDoorZFTTaskPlanCarries
import Derived.Test.YtnfbbidmdkfilaaGreatDoorZFDL4
import Derived.Test.YtnfbbidmdkfilaaGreatDoorZFSums
open Nat renaming le_refl->qk
namespace Go.Abs
open Go.Proofs
namespace taskPlanCarries
theorem plain (a0:(List Int))(a1:(List Int))(a2:(List Int))(a3:(List Int))(a4:Int)(a5:Int)(a6:Int)(a7:Int)(h:dzx a0+dzx a1+dzx a2+dzx a3+eze a4+eze a5+eze a6+eze a7<=1048576):(cz9 a0 a1 a2 a3 a4 a5 a6 a7).o=some true:=by
 have ea0:a0.length<=(a0.map eze).sum:=az76 (λ_=>qk _) a0;have ea1:a1.length<=(a1.map eze).sum:=az76 (λ_=>qk _) a1;have ea2:a2.length<=(a2.map eze).sum:=az76 (λ_=>qk _) a2;have ea3:a3.length<=(a3.map eze).sum:=az76 (λ_=>qk _) a3;unfold dzx at h;exact Gzj a0 a1 a2 a3 a4 a5 a6 a7 qa qa qa qa
end taskPlanCarries
end Go.Abs
namespace Go.Proofs.YtnfbbidmdkfilaaGreatDoor
theorem taskPlanCarries_holds:Rows.TaskPlanCarriesUptoCardSaid:=Go.Abs.taskPlanCarries.card λa0 a1 a2 a3 a4 a5 a6 a7 _ _ _ _ _ _ _ _ h=>Go.Abs.taskPlanCarries.plain a0 a1 a2 a3 a4 a5 a6 a7 h
end Go.Proofs.YtnfbbidmdkfilaaGreatDoor
