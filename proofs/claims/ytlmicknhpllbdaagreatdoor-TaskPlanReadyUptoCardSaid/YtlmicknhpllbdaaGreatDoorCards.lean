/-
  DERIVED. GIVEN WITH THE SEED: THE CARDS: each row of YtlmicknhpllbdaaGreatDoorRows.lean that lists a variable, with what it lists TIED to the program's text (the seventh form; the later family's looks); each row that meets fmt, with fmt's text TOLD by the authors' own Lean function (tested against real Go, not proved from fmt's source: count such statements apart). THE CARD IS WHAT COUNTS. Prove the row's statement (the work); the ties are given (YtlmicknhpllbdaaGreatDoorTie.lean); close each card by the builder's one call (the guide's Derived/Test/ToyasCard.lean, 'card_holds'). Laid BY PROGRAM, IN A SANDBOX (cutbox-door.mjs). By AI agents, Wed Nov 11 2026. No macro, syntax, notation, axiom, sorry.
-/
import Derived.Test.YtlmicknhpllbdaaGreatDoorRows
import GoSem.ClaimSeven
namespace Go.Proofs.YtlmicknhpllbdaaGreatDoor
namespace Rows

/-- THE TIED CARD OF 'armplanlaw39.TaskPlanMotions'. -/
def taskPlanMotionsCard : Claim7 := { stood := { row := taskPlanMotionsRow, standIns := [], harness := (true, "fc6ed5f3ec88a8cb7dbdebfd152d2f7713ffe8fa7f0a761f1c00437152281145"), looks := true }, kinds := [], alts := [], laidByText := true, laidKinds := [.data], laidTests := true, laidLooks := .later }
def TaskPlanMotionsCardSaid : Prop := Claim7.holds Tryz.pinned (.plain (OpenSpec.ofChange taskPlanMotionsSpec)) taskPlanMotionsCard

/-- THE TIED CARD OF 'armplanlaw39.TaskPlanReady'. -/
def taskPlanReadyCard : Claim7 := { stood := { row := taskPlanReadyRow, standIns := [], harness := (true, "fc6ed5f3ec88a8cb7dbdebfd152d2f7713ffe8fa7f0a761f1c00437152281145"), looks := true }, kinds := [], alts := [], laidByText := true, laidKinds := [.data], laidTests := true, laidLooks := .later }
def TaskPlanReadyCardSaid : Prop := Claim7.holds Tryz.pinned (.plain (OpenSpec.ofChange taskPlanReadySpec)) taskPlanReadyCard

/-- THE TIED CARD OF 'armplanlaw39.TaskPlanFinds'. -/
def taskPlanFindsCard : Claim7 := { stood := { row := taskPlanFindsRow, standIns := [], harness := (true, "fc6ed5f3ec88a8cb7dbdebfd152d2f7713ffe8fa7f0a761f1c00437152281145"), looks := true }, kinds := [], alts := [], laidByText := true, laidKinds := [.data], laidTests := true, laidLooks := .later }
def TaskPlanFindsCardSaid : Prop := Claim7.holds Tryz.pinned (.plain (OpenSpec.ofChange taskPlanFindsSpec)) taskPlanFindsCard

/-- THE TIED CARD OF 'armplanlaw39.TaskPlanChecks'. -/
def taskPlanChecksCard : Claim7 := { stood := { row := taskPlanChecksRow, standIns := [], harness := (true, "fc6ed5f3ec88a8cb7dbdebfd152d2f7713ffe8fa7f0a761f1c00437152281145"), looks := true }, kinds := [], alts := [], laidByText := true, laidKinds := [.data], laidTests := true, laidLooks := .later }
def TaskPlanChecksCardSaid : Prop := Claim7.holds Tryz.pinned (.plain (OpenSpec.ofChange taskPlanChecksSpec)) taskPlanChecksCard

/-- THE TIED CARD OF 'armplanlaw39.TaskPlanAccepted'. -/
def taskPlanAcceptedCard : Claim7 := { stood := { row := taskPlanAcceptedRow, standIns := [], harness := (true, "fc6ed5f3ec88a8cb7dbdebfd152d2f7713ffe8fa7f0a761f1c00437152281145"), looks := true }, kinds := [], alts := [], laidByText := true, laidKinds := [.data], laidTests := true, laidLooks := .later }
def TaskPlanAcceptedCardSaid : Prop := Claim7.holds Tryz.pinned (.plain (OpenSpec.ofChange taskPlanAcceptedSpec)) taskPlanAcceptedCard

/-- THE TIED CARD OF 'armplanlaw39.TaskPlanCarries'. -/
def taskPlanCarriesCard : Claim7 := { stood := { row := taskPlanCarriesRow, standIns := [], harness := (true, "fc6ed5f3ec88a8cb7dbdebfd152d2f7713ffe8fa7f0a761f1c00437152281145"), looks := true }, kinds := [], alts := [], laidByText := true, laidKinds := [.data], laidTests := true, laidLooks := .later }
def TaskPlanCarriesCardSaid : Prop := Claim7.holds Tryz.pinned (.plain (OpenSpec.ofChange taskPlanCarriesSpec)) taskPlanCarriesCard

/-- THE TIED CARD OF 'armplanlaw39.TaskPlanGoals'. -/
def taskPlanGoalsCard : Claim7 := { stood := { row := taskPlanGoalsRow, standIns := [], harness := (true, "fc6ed5f3ec88a8cb7dbdebfd152d2f7713ffe8fa7f0a761f1c00437152281145"), looks := true }, kinds := [], alts := [], laidByText := true, laidKinds := [.data], laidTests := true, laidLooks := .later }
def TaskPlanGoalsCardSaid : Prop := Claim7.holds Tryz.pinned (.plain (OpenSpec.ofChange taskPlanGoalsSpec)) taskPlanGoalsCard

/-- THE SECOND FORM's CARD OF 'armplanlaw39.TaskPlanMotions'. -/
def taskPlanMotionsUptoCard : Claim7 := { stood := { row := taskPlanMotionsUptoRow, standIns := [], harness := (true, "fc6ed5f3ec88a8cb7dbdebfd152d2f7713ffe8fa7f0a761f1c00437152281145"), looks := true }, kinds := [], alts := [], laidByText := true, laidKinds := [.data], laidTests := true, laidLooks := .later }
def TaskPlanMotionsUptoCardSaid : Prop := Claim7.holds Tryz.pinned (.plain (OpenSpec.upto taskPlanMotionsSpec)) taskPlanMotionsUptoCard

/-- THE SECOND FORM's CARD OF 'armplanlaw39.TaskPlanReady'. -/
def taskPlanReadyUptoCard : Claim7 := { stood := { row := taskPlanReadyUptoRow, standIns := [], harness := (true, "fc6ed5f3ec88a8cb7dbdebfd152d2f7713ffe8fa7f0a761f1c00437152281145"), looks := true }, kinds := [], alts := [], laidByText := true, laidKinds := [.data], laidTests := true, laidLooks := .later }
def TaskPlanReadyUptoCardSaid : Prop := Claim7.holds Tryz.pinned (.plain (OpenSpec.upto taskPlanReadySpec)) taskPlanReadyUptoCard

/-- THE SECOND FORM's CARD OF 'armplanlaw39.TaskPlanFinds'. -/
def taskPlanFindsUptoCard : Claim7 := { stood := { row := taskPlanFindsUptoRow, standIns := [], harness := (true, "fc6ed5f3ec88a8cb7dbdebfd152d2f7713ffe8fa7f0a761f1c00437152281145"), looks := true }, kinds := [], alts := [], laidByText := true, laidKinds := [.data], laidTests := true, laidLooks := .later }
def TaskPlanFindsUptoCardSaid : Prop := Claim7.holds Tryz.pinned (.plain (OpenSpec.upto taskPlanFindsSpec)) taskPlanFindsUptoCard

/-- THE SECOND FORM's CARD OF 'armplanlaw39.TaskPlanChecks'. -/
def taskPlanChecksUptoCard : Claim7 := { stood := { row := taskPlanChecksUptoRow, standIns := [], harness := (true, "fc6ed5f3ec88a8cb7dbdebfd152d2f7713ffe8fa7f0a761f1c00437152281145"), looks := true }, kinds := [], alts := [], laidByText := true, laidKinds := [.data], laidTests := true, laidLooks := .later }
def TaskPlanChecksUptoCardSaid : Prop := Claim7.holds Tryz.pinned (.plain (OpenSpec.upto taskPlanChecksSpec)) taskPlanChecksUptoCard

/-- THE SECOND FORM's CARD OF 'armplanlaw39.TaskPlanAccepted'. -/
def taskPlanAcceptedUptoCard : Claim7 := { stood := { row := taskPlanAcceptedUptoRow, standIns := [], harness := (true, "fc6ed5f3ec88a8cb7dbdebfd152d2f7713ffe8fa7f0a761f1c00437152281145"), looks := true }, kinds := [], alts := [], laidByText := true, laidKinds := [.data], laidTests := true, laidLooks := .later }
def TaskPlanAcceptedUptoCardSaid : Prop := Claim7.holds Tryz.pinned (.plain (OpenSpec.upto taskPlanAcceptedSpec)) taskPlanAcceptedUptoCard

/-- THE SECOND FORM's CARD OF 'armplanlaw39.TaskPlanCarries'. -/
def taskPlanCarriesUptoCard : Claim7 := { stood := { row := taskPlanCarriesUptoRow, standIns := [], harness := (true, "fc6ed5f3ec88a8cb7dbdebfd152d2f7713ffe8fa7f0a761f1c00437152281145"), looks := true }, kinds := [], alts := [], laidByText := true, laidKinds := [.data], laidTests := true, laidLooks := .later }
def TaskPlanCarriesUptoCardSaid : Prop := Claim7.holds Tryz.pinned (.plain (OpenSpec.upto taskPlanCarriesSpec)) taskPlanCarriesUptoCard

/-- THE SECOND FORM's CARD OF 'armplanlaw39.TaskPlanGoals'. -/
def taskPlanGoalsUptoCard : Claim7 := { stood := { row := taskPlanGoalsUptoRow, standIns := [], harness := (true, "fc6ed5f3ec88a8cb7dbdebfd152d2f7713ffe8fa7f0a761f1c00437152281145"), looks := true }, kinds := [], alts := [], laidByText := true, laidKinds := [.data], laidTests := true, laidLooks := .later }
def TaskPlanGoalsUptoCardSaid : Prop := Claim7.holds Tryz.pinned (.plain (OpenSpec.upto taskPlanGoalsSpec)) taskPlanGoalsUptoCard
end Rows
end Go.Proofs.YtlmicknhpllbdaaGreatDoor
