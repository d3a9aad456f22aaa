/-
  DERIVED. GIVEN WITH THE SEED: THE CARDS: each row of YtkbjjlfpbebiaaaGreatDoorRows.lean that lists a variable, with what it lists TIED to the program's text (the seventh form; the later family's looks); each row that meets fmt, with fmt's text TOLD by the authors' own Lean function (tested against real Go, not proved from fmt's source: count such statements apart). THE CARD IS WHAT COUNTS. Prove the row's statement (the work); the ties are given (YtkbjjlfpbebiaaaGreatDoorTie.lean); close each card by the builder's one call (the guide's Derived/Test/ToyasCard.lean, 'card_holds'). Laid BY PROGRAM, IN A SANDBOX (cutbox-door.mjs). By AI agents, Wed Nov 11 2026. No macro, syntax, notation, axiom, sorry.
-/
import Derived.Test.YtkbjjlfpbebiaaaGreatDoorRows
import GoSem.ClaimSeven
namespace Go.Proofs.YtkbjjlfpbebiaaaGreatDoor
namespace Rows

/-- THE TIED CARD OF 'armplanlaw39.TaskPlanReady'. -/
def taskPlanReadyCard : Claim7 := { stood := { row := taskPlanReadyRow, standIns := [], harness := (true, "20f648a118fa607ea0c58112d32dfa76340436a1531f8d66ad4d76fb528b1b58"), looks := true }, kinds := [], alts := [], laidByText := true, laidKinds := [.data], laidTests := true, laidLooks := .later }
def TaskPlanReadyCardSaid : Prop := Claim7.holds Tryz.pinned (.plain (OpenSpec.ofChange taskPlanReadySpec)) taskPlanReadyCard

/-- THE TIED CARD OF 'armplanlaw39.TaskPlanIdle'. -/
def taskPlanIdleCard : Claim7 := { stood := { row := taskPlanIdleRow, standIns := [], harness := (true, "20f648a118fa607ea0c58112d32dfa76340436a1531f8d66ad4d76fb528b1b58"), looks := true }, kinds := [], alts := [], laidByText := true, laidKinds := [.data], laidTests := true, laidLooks := .later }
def TaskPlanIdleCardSaid : Prop := Claim7.holds Tryz.pinned (.plain (OpenSpec.ofChange taskPlanIdleSpec)) taskPlanIdleCard

/-- THE SECOND FORM's CARD OF 'armplanlaw39.TaskPlanReady'. -/
def taskPlanReadyUptoCard : Claim7 := { stood := { row := taskPlanReadyUptoRow, standIns := [], harness := (true, "20f648a118fa607ea0c58112d32dfa76340436a1531f8d66ad4d76fb528b1b58"), looks := true }, kinds := [], alts := [], laidByText := true, laidKinds := [.data], laidTests := true, laidLooks := .later }
def TaskPlanReadyUptoCardSaid : Prop := Claim7.holds Tryz.pinned (.plain (OpenSpec.upto taskPlanReadySpec)) taskPlanReadyUptoCard

/-- THE SECOND FORM's CARD OF 'armplanlaw39.TaskPlanIdle'. -/
def taskPlanIdleUptoCard : Claim7 := { stood := { row := taskPlanIdleUptoRow, standIns := [], harness := (true, "20f648a118fa607ea0c58112d32dfa76340436a1531f8d66ad4d76fb528b1b58"), looks := true }, kinds := [], alts := [], laidByText := true, laidKinds := [.data], laidTests := true, laidLooks := .later }
def TaskPlanIdleUptoCardSaid : Prop := Claim7.holds Tryz.pinned (.plain (OpenSpec.upto taskPlanIdleSpec)) taskPlanIdleUptoCard
end Rows
end Go.Proofs.YtkbjjlfpbebiaaaGreatDoor
