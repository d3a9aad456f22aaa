import Derived.Test.YtagmfmidaochlaaGreatDoorZITop
namespace Go.Abs
open Go.Proofs Go.Proofs.YtagmfmidaochlaaGreatDoor Go.ChangeShapes Go.WideShapes Go.ChangeAt Go.RowKit
open Go.Proofs.YtagmfmidaochlaaGreatDoor.Rows renaming taskPlanAcceptedUptoRow ->RowU,taskPlanAcceptedSpec ->SpeU
namespace taskPlanAccepted
noncomputable abbrev ppg:=Tryz.pinned.checked.prog
theorem ah8:laidOutB ppg=true:=by kernel_rfl
theorem aaD:mapsRowed ppg=true:=by kernel_rfl
theorem acu:(RowU.inPlace==ppg.inPlace 5)=true:=by kernel_rfl
theorem aix:(RowU.unfollowed==ppg.unfollowed 5)=true:=by kernel_rfl
theorem aiv:(RowU.recurses==ppg.recurses 5)=true:=by kernel_rfl
theorem ahb:(RowU.named==ppg.varsNamed 5)=true:=by kernel_rfl
end taskPlanAccepted
end Go.Abs
