/-
  DERIVED. GIVEN WITH THE SEED: THE CARDS: each row of YtagmfmidaochlaaGreatDoorRows.lean that lists a variable, with what it lists TIED to the program's text (the seventh form; the later family's looks); each row that meets fmt, with fmt's text TOLD by the authors' own Lean function (tested against real Go, not proved from fmt's source: count such statements apart). THE CARD IS WHAT COUNTS. Prove the row's statement (the work); the ties are given (YtagmfmidaochlaaGreatDoorTie.lean); close each card by the builder's one call (the guide's Derived/Test/ToyasCard.lean, 'card_holds'). Laid BY PROGRAM, IN A SANDBOX (cutbox-door.mjs). By AI agents, Wed Nov 11 2026. No macro, syntax, notation, axiom, sorry.
-/
import Derived.Test.YtagmfmidaochlaaGreatDoorRows
import GoSem.ClaimSeven
namespace Go.Proofs.YtagmfmidaochlaaGreatDoor
namespace Rows

/-- THE TIED CARD OF 'armplanlaw39.TaskPlanMotions'. -/
def taskPlanMotionsCard : Claim7 := { stood := { row := taskPlanMotionsRow, standIns := [], harness := (true, "3ddbb1f2626d22f569b88d4994d74193145e087431aeae349cd6e6ceae1adfab"), looks := true }, kinds := [], alts := [], laidByText := true, laidKinds := [.data], laidTests := true, laidLooks := .later }
def TaskPlanMotionsCardSaid : Prop := Claim7.holds Tryz.pinned (.plain (OpenSpec.ofChange taskPlanMotionsSpec)) taskPlanMotionsCard

/-- THE TIED CARD OF 'armplanlaw39.TaskPlanFinds'. -/
def taskPlanFindsCard : Claim7 := { stood := { row := taskPlanFindsRow, standIns := [], harness := (true, "3ddbb1f2626d22f569b88d4994d74193145e087431aeae349cd6e6ceae1adfab"), looks := true }, kinds := [], alts := [], laidByText := true, laidKinds := [.data], laidTests := true, laidLooks := .later }
def TaskPlanFindsCardSaid : Prop := Claim7.holds Tryz.pinned (.plain (OpenSpec.ofChange taskPlanFindsSpec)) taskPlanFindsCard

/-- THE TIED CARD OF 'armplanlaw39.TaskPlanAccepted'. -/
def taskPlanAcceptedCard : Claim7 := { stood := { row := taskPlanAcceptedRow, standIns := [], harness := (true, "3ddbb1f2626d22f569b88d4994d74193145e087431aeae349cd6e6ceae1adfab"), looks := true }, kinds := [], alts := [], laidByText := true, laidKinds := [.data], laidTests := true, laidLooks := .later }
def TaskPlanAcceptedCardSaid : Prop := Claim7.holds Tryz.pinned (.plain (OpenSpec.ofChange taskPlanAcceptedSpec)) taskPlanAcceptedCard

/-- THE SECOND FORM's CARD OF 'armplanlaw39.TaskPlanMotions'. -/
def taskPlanMotionsUptoCard : Claim7 := { stood := { row := taskPlanMotionsUptoRow, standIns := [], harness := (true, "3ddbb1f2626d22f569b88d4994d74193145e087431aeae349cd6e6ceae1adfab"), looks := true }, kinds := [], alts := [], laidByText := true, laidKinds := [.data], laidTests := true, laidLooks := .later }
def TaskPlanMotionsUptoCardSaid : Prop := Claim7.holds Tryz.pinned (.plain (OpenSpec.upto taskPlanMotionsSpec)) taskPlanMotionsUptoCard

/-- THE SECOND FORM's CARD OF 'armplanlaw39.TaskPlanFinds'. -/
def taskPlanFindsUptoCard : Claim7 := { stood := { row := taskPlanFindsUptoRow, standIns := [], harness := (true, "3ddbb1f2626d22f569b88d4994d74193145e087431aeae349cd6e6ceae1adfab"), looks := true }, kinds := [], alts := [], laidByText := true, laidKinds := [.data], laidTests := true, laidLooks := .later }
def TaskPlanFindsUptoCardSaid : Prop := Claim7.holds Tryz.pinned (.plain (OpenSpec.upto taskPlanFindsSpec)) taskPlanFindsUptoCard

/-- THE SECOND FORM's CARD OF 'armplanlaw39.TaskPlanAccepted'. -/
def taskPlanAcceptedUptoCard : Claim7 := { stood := { row := taskPlanAcceptedUptoRow, standIns := [], harness := (true, "3ddbb1f2626d22f569b88d4994d74193145e087431aeae349cd6e6ceae1adfab"), looks := true }, kinds := [], alts := [], laidByText := true, laidKinds := [.data], laidTests := true, laidLooks := .later }
def TaskPlanAcceptedUptoCardSaid : Prop := Claim7.holds Tryz.pinned (.plain (OpenSpec.upto taskPlanAcceptedSpec)) taskPlanAcceptedUptoCard
end Rows
end Go.Proofs.YtagmfmidaochlaaGreatDoor
