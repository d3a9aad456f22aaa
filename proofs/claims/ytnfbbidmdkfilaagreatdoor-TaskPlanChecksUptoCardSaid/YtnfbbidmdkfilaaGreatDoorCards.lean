/-
  DERIVED. GIVEN WITH THE SEED: THE CARDS: each row of YtnfbbidmdkfilaaGreatDoorRows.lean that lists a variable, with what it lists TIED to the program's text (the seventh form; the later family's looks); each row that meets fmt, with fmt's text TOLD by the authors' own Lean function (tested against real Go, not proved from fmt's source: count such statements apart). THE CARD IS WHAT COUNTS. Prove the row's statement (the work); the ties are given (YtnfbbidmdkfilaaGreatDoorTie.lean); close each card by the builder's one call (the guide's Derived/Test/ToyasCard.lean, 'card_holds'). Laid BY PROGRAM, IN A SANDBOX (cutbox-door.mjs). By AI agents, Wed Nov 11 2026. No macro, syntax, notation, axiom, sorry.
-/
import Derived.Test.YtnfbbidmdkfilaaGreatDoorRows
import GoSem.ClaimSeven
namespace Go.Proofs.YtnfbbidmdkfilaaGreatDoor
namespace Rows

/-- THE TIED CARD OF 'armplanlaw39.TaskPlanChecks'. -/
def taskPlanChecksCard : Claim7 := { stood := { row := taskPlanChecksRow, standIns := [], harness := (true, "1873635d42ab48319c0713f22b45bb1411002ee6cc85179116194e11e678dfaf"), looks := true }, kinds := [], alts := [], laidByText := true, laidKinds := [.data], laidTests := true, laidLooks := .later }
def TaskPlanChecksCardSaid : Prop := Claim7.holds Tryz.pinned (.plain (OpenSpec.ofChange taskPlanChecksSpec)) taskPlanChecksCard

/-- THE TIED CARD OF 'armplanlaw39.TaskPlanCarries'. -/
def taskPlanCarriesCard : Claim7 := { stood := { row := taskPlanCarriesRow, standIns := [], harness := (true, "1873635d42ab48319c0713f22b45bb1411002ee6cc85179116194e11e678dfaf"), looks := true }, kinds := [], alts := [], laidByText := true, laidKinds := [.data], laidTests := true, laidLooks := .later }
def TaskPlanCarriesCardSaid : Prop := Claim7.holds Tryz.pinned (.plain (OpenSpec.ofChange taskPlanCarriesSpec)) taskPlanCarriesCard

/-- THE TIED CARD OF 'armplanlaw39.TaskPlanGoals'. -/
def taskPlanGoalsCard : Claim7 := { stood := { row := taskPlanGoalsRow, standIns := [], harness := (true, "1873635d42ab48319c0713f22b45bb1411002ee6cc85179116194e11e678dfaf"), looks := true }, kinds := [], alts := [], laidByText := true, laidKinds := [.data], laidTests := true, laidLooks := .later }
def TaskPlanGoalsCardSaid : Prop := Claim7.holds Tryz.pinned (.plain (OpenSpec.ofChange taskPlanGoalsSpec)) taskPlanGoalsCard

/-- THE SECOND FORM's CARD OF 'armplanlaw39.TaskPlanChecks'. -/
def taskPlanChecksUptoCard : Claim7 := { stood := { row := taskPlanChecksUptoRow, standIns := [], harness := (true, "1873635d42ab48319c0713f22b45bb1411002ee6cc85179116194e11e678dfaf"), looks := true }, kinds := [], alts := [], laidByText := true, laidKinds := [.data], laidTests := true, laidLooks := .later }
def TaskPlanChecksUptoCardSaid : Prop := Claim7.holds Tryz.pinned (.plain (OpenSpec.upto taskPlanChecksSpec)) taskPlanChecksUptoCard

/-- THE SECOND FORM's CARD OF 'armplanlaw39.TaskPlanCarries'. -/
def taskPlanCarriesUptoCard : Claim7 := { stood := { row := taskPlanCarriesUptoRow, standIns := [], harness := (true, "1873635d42ab48319c0713f22b45bb1411002ee6cc85179116194e11e678dfaf"), looks := true }, kinds := [], alts := [], laidByText := true, laidKinds := [.data], laidTests := true, laidLooks := .later }
def TaskPlanCarriesUptoCardSaid : Prop := Claim7.holds Tryz.pinned (.plain (OpenSpec.upto taskPlanCarriesSpec)) taskPlanCarriesUptoCard

/-- THE SECOND FORM's CARD OF 'armplanlaw39.TaskPlanGoals'. -/
def taskPlanGoalsUptoCard : Claim7 := { stood := { row := taskPlanGoalsUptoRow, standIns := [], harness := (true, "1873635d42ab48319c0713f22b45bb1411002ee6cc85179116194e11e678dfaf"), looks := true }, kinds := [], alts := [], laidByText := true, laidKinds := [.data], laidTests := true, laidLooks := .later }
def TaskPlanGoalsUptoCardSaid : Prop := Claim7.holds Tryz.pinned (.plain (OpenSpec.upto taskPlanGoalsSpec)) taskPlanGoalsUptoCard
end Rows
end Go.Proofs.YtnfbbidmdkfilaaGreatDoor
