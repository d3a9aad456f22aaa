import Derived.Test.YtagmfmidaochlaaGreatDoorZGTop
namespace Go.Abs
open Go.Proofs Go.Proofs.YtagmfmidaochlaaGreatDoor Go.ChangeShapes Go.WideShapes Go.ChangeAt Go.RowKit
open Go.Proofs.YtagmfmidaochlaaGreatDoor.Rows renaming taskPlanMotionsUptoRow ->RowU,taskPlanMotionsSpec ->SpeU
namespace taskPlanMotions
noncomputable abbrev ppg:=Tryz.pinned.checked.prog
theorem ai1:laidOutB ppg=true:=by kernel_rfl
theorem abr:mapsRowed ppg=true:=by kernel_rfl
theorem adz:(RowU.inPlace==ppg.inPlace 3)=true:=by kernel_rfl
theorem aje:(RowU.unfollowed==ppg.unfollowed 3)=true:=by kernel_rfl
theorem ajc:(RowU.recurses==ppg.recurses 3)=true:=by kernel_rfl
theorem ai4:(RowU.named==ppg.varsNamed 3)=true:=by kernel_rfl
end taskPlanMotions
end Go.Abs
