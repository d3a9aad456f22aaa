/-
  NARROWER THAN 'FOR EVERY INPUT', by the rows' own cells (each row's printed sentence says how): TaskPlanChecks: laid · TaskPlanCarries: laid · TaskPlanGoals: laid.
  DERIVED. THE GIVEN ROWS OF THIS SEAT. 3 by the template 'for every input the law returns true; each argument reads behind the call as it read before'; 0 by the template 'total and deterministic' (their statements: YtnfbbidmdkfilaaGreatDoorTotals.lean).
  GIVEN WITH THE SEED: the statements are not yours to turn. If you find one false, say at which input.
  Laid BY PROGRAM, IN A SANDBOX (cutbox-rows.mjs): the forced cells as the released guide's own fill.sh prints them over the translation 66fef9f3e75c1e1e… (all of the seat's roots in one cut). By AI agents, Wed Nov 11 2026. No macro, syntax, notation, axiom, sorry.
-/
import Derived.Test.YtnfbbidmdkfilaaGreatDoorChecked
import GoSem.Claim
import GoSem.ClaimJoined
import GoSem.ClaimMapViews
import Derived.JoinedTies
import Derived.KernelRfl
namespace Go.Proofs.YtnfbbidmdkfilaaGreatDoor
/- THE CELL 'sum', in the pinned program and in every row, IS THE sha256 OF THE DUMP (.gsa) THAT YtnfbbidmdkfilaaGreatDoorProg.lean LOADS. Nothing in Lean hashes anything: it is a label: what it is worth is what the hold of that sum in a sandbox is worth. -/
noncomputable def Tryz.pinned : Pinned := { name := "ytnfbbidmdkfilaagreatdoor", sum := "66fef9f3e75c1e1eb6a55f6b362e7f70d50b06419f8f476b7a8e0dfa350075ea", checked := Tryz.checked }
namespace Rows
def none {H : Type} : Left H := { results := [], args := [] }

/- WHAT THE LISTED PACKAGE-LEVEL VARIABLES READ AS WHEN THE CALL BEGINS. Each datum BY PROGRAM (the guide's laid-datum.mjs) off the statement by which the dump's own 'gosem.cut.vars' lays the variable. In a bare row this is a premise. The card (YtnfbbidmdkfilaaGreatDoorCards.lean) ties it to the program's text. -/
def laid_armplan_sampler_primes {H : Type} : DataW H := .agg [.lit (.int .u64 2), .lit (.int .u64 3), .lit (.int .u64 5), .lit (.int .u64 7), .lit (.int .u64 11), .lit (.int .u64 13), .lit (.int .u64 17), .lit (.int .u64 19), .lit (.int .u64 23), .lit (.int .u64 29)]

/-- 'armplanlaw39.TaskPlanChecks': WHATEVER THE INPUT: true; the input reads as it did. -/
def taskPlanChecksSpec : ChangeSpec := { name := "taskPlanChecks", fn := fun _ => fun
  | [d1, d2, d3, d4, d5, d6, d7, d8, d9, d10, d11, d12] => { results := [.lit (.bool true)], args := [d1, d2, d3, d4, d5, d6, d7, d8, d9, d10, d11, d12] }
  | _ => none }
def taskPlanChecksRow : OpenClaim := { program := "ytnfbbidmdkfilaagreatdoor", sum := "66fef9f3e75c1e1eb6a55f6b362e7f70d50b06419f8f476b7a8e0dfa350075ea", func := "armplan/armplanlaw39.TaskPlanChecks", spec := "taskPlanChecks", unfollowed := true, recurses := true, named := ["armplan/sampler.primes", "math/bits.divideError", "math/bits.overflowError"], plainKeys := false, apart := false, laid := [("armplan/sampler.primes", laid_armplan_sampler_primes)] }
def TaskPlanChecksSaid : Prop := taskPlanChecksRow.holds Tryz.pinned (OpenSpec.ofChange taskPlanChecksSpec)

/-- ITS FALSE NEIGHBOUR: 'it returns false'. Refute it at one input. -/
def taskPlanChecksWrong : ChangeSpec := { name := "taskPlanChecks", fn := fun _ => fun
  | [d1, d2, d3, d4, d5, d6, d7, d8, d9, d10, d11, d12] => { results := [.lit (.bool false)], args := [d1, d2, d3, d4, d5, d6, d7, d8, d9, d10, d11, d12] }
  | _ => none }
def TaskPlanChecksWrongFalsely : Prop := taskPlanChecksRow.holds Tryz.pinned (OpenSpec.ofChange taskPlanChecksWrong)

/-- 'armplanlaw39.TaskPlanCarries': WHATEVER THE INPUT: true; the input reads as it did. -/
def taskPlanCarriesSpec : ChangeSpec := { name := "taskPlanCarries", fn := fun _ => fun
  | [d1, d2, d3, d4, d5, d6, d7, d8] => { results := [.lit (.bool true)], args := [d1, d2, d3, d4, d5, d6, d7, d8] }
  | _ => none }
def taskPlanCarriesRow : OpenClaim := { program := "ytnfbbidmdkfilaagreatdoor", sum := "66fef9f3e75c1e1eb6a55f6b362e7f70d50b06419f8f476b7a8e0dfa350075ea", func := "armplan/armplanlaw39.TaskPlanCarries", spec := "taskPlanCarries", unfollowed := true, recurses := true, named := ["math/bits.divideError", "math/bits.overflowError", "armplan/sampler.primes"], plainKeys := false, apart := false, laid := [("armplan/sampler.primes", laid_armplan_sampler_primes)] }
def TaskPlanCarriesSaid : Prop := taskPlanCarriesRow.holds Tryz.pinned (OpenSpec.ofChange taskPlanCarriesSpec)

/-- ITS FALSE NEIGHBOUR: 'it returns false'. Refute it at one input. -/
def taskPlanCarriesWrong : ChangeSpec := { name := "taskPlanCarries", fn := fun _ => fun
  | [d1, d2, d3, d4, d5, d6, d7, d8] => { results := [.lit (.bool false)], args := [d1, d2, d3, d4, d5, d6, d7, d8] }
  | _ => none }
def TaskPlanCarriesWrongFalsely : Prop := taskPlanCarriesRow.holds Tryz.pinned (OpenSpec.ofChange taskPlanCarriesWrong)

/-- 'armplanlaw39.TaskPlanGoals': WHATEVER THE INPUT: true; the input reads as it did. -/
def taskPlanGoalsSpec : ChangeSpec := { name := "taskPlanGoals", fn := fun _ => fun
  | [d1, d2, d3, d4, d5] => { results := [.lit (.bool true)], args := [d1, d2, d3, d4, d5] }
  | _ => none }
def taskPlanGoalsRow : OpenClaim := { program := "ytnfbbidmdkfilaagreatdoor", sum := "66fef9f3e75c1e1eb6a55f6b362e7f70d50b06419f8f476b7a8e0dfa350075ea", func := "armplan/armplanlaw39.TaskPlanGoals", spec := "taskPlanGoals", unfollowed := true, recurses := true, named := ["math/bits.divideError", "math/bits.overflowError", "armplan/sampler.primes"], plainKeys := false, apart := false, laid := [("armplan/sampler.primes", laid_armplan_sampler_primes)] }
def TaskPlanGoalsSaid : Prop := taskPlanGoalsRow.holds Tryz.pinned (OpenSpec.ofChange taskPlanGoalsSpec)

/-- ITS FALSE NEIGHBOUR: 'it returns false'. Refute it at one input. -/
def taskPlanGoalsWrong : ChangeSpec := { name := "taskPlanGoals", fn := fun _ => fun
  | [d1, d2, d3, d4, d5] => { results := [.lit (.bool false)], args := [d1, d2, d3, d4, d5] }
  | _ => none }
def TaskPlanGoalsWrongFalsely : Prop := taskPlanGoalsRow.holds Tryz.pinned (OpenSpec.ofChange taskPlanGoalsWrong)

/- THE SECOND FORM. 'bulk': how many values and letters a reading holds, each counted each time it is reached (what is shared counts as often as it is met; a slice's spare places count too). A statement '..UptoSaid' is the law's where the arguments, and the package variables that the reading takes, are together of bulk at most 1048576: NARROWER than '..Said'. Prove '..Said' where nothing that the law and all that it calls make is longer than what came in: it says more and counts as full. Else prove '..UptoSaid'. A law counts once. -/
mutual
def uptoBulk {H : Type} : DataW H → Nat
  | .lit (.string bytes) => bytes.length + 1
  | .lit _ => 1
  | .nil => 1
  | .ptr d => uptoBulk d + 1
  | .slice elems spare => uptoBulkAll elems + uptoBulkAll spare + 1
  | .agg parts => uptoBulkAll parts + 1
  | .iface _ d => uptoBulk d + 1
  | .map entries => uptoBulkEntries entries + 1
  | .held _ => 1
def uptoBulkAll {H : Type} : List (DataW H) → Nat
  | [] => 0
  | d :: r => uptoBulk d + uptoBulkAll r
def uptoBulkEntries {H : Type} : List (Lit × DataW H) → Nat
  | [] => 0
  | x :: r => uptoBulkEntry x + uptoBulkEntries r
def uptoBulkEntry {H : Type} : Lit × DataW H → Nat
  | (.string bytes, d) => bytes.length + uptoBulk d + 1
  | (_, d) => uptoBulk d + 1
 end
def uptoSmall : (H : Type) → List (DataW H) → Bool := fun _ ds => decide (uptoBulkAll ds ≤ 1048576)
def OpenSpec.upto (s : _root_.Go.ChangeSpec) : _root_.Go.OpenSpec := { _root_.Go.OpenSpec.ofChange s with cond := some uptoSmall }

/-- 'armplanlaw39.TaskPlanChecks', WHERE WHAT IT READS IS OF BULK AT MOST 1048576: true; the input reads as it did. -/
def taskPlanChecksUptoRow : OpenClaim := { program := "ytnfbbidmdkfilaagreatdoor", sum := "66fef9f3e75c1e1eb6a55f6b362e7f70d50b06419f8f476b7a8e0dfa350075ea", func := "armplan/armplanlaw39.TaskPlanChecks", spec := "taskPlanChecks", unfollowed := true, recurses := true, named := ["armplan/sampler.primes", "math/bits.divideError", "math/bits.overflowError"], plainKeys := false, apart := false, laid := [("armplan/sampler.primes", laid_armplan_sampler_primes)], narrowed := true }
def TaskPlanChecksUptoSaid : Prop := taskPlanChecksUptoRow.holds Tryz.pinned (OpenSpec.upto taskPlanChecksSpec)

/-- 'armplanlaw39.TaskPlanCarries', WHERE WHAT IT READS IS OF BULK AT MOST 1048576: true; the input reads as it did. -/
def taskPlanCarriesUptoRow : OpenClaim := { program := "ytnfbbidmdkfilaagreatdoor", sum := "66fef9f3e75c1e1eb6a55f6b362e7f70d50b06419f8f476b7a8e0dfa350075ea", func := "armplan/armplanlaw39.TaskPlanCarries", spec := "taskPlanCarries", unfollowed := true, recurses := true, named := ["math/bits.divideError", "math/bits.overflowError", "armplan/sampler.primes"], plainKeys := false, apart := false, laid := [("armplan/sampler.primes", laid_armplan_sampler_primes)], narrowed := true }
def TaskPlanCarriesUptoSaid : Prop := taskPlanCarriesUptoRow.holds Tryz.pinned (OpenSpec.upto taskPlanCarriesSpec)

/-- 'armplanlaw39.TaskPlanGoals', WHERE WHAT IT READS IS OF BULK AT MOST 1048576: true; the input reads as it did. -/
def taskPlanGoalsUptoRow : OpenClaim := { program := "ytnfbbidmdkfilaagreatdoor", sum := "66fef9f3e75c1e1eb6a55f6b362e7f70d50b06419f8f476b7a8e0dfa350075ea", func := "armplan/armplanlaw39.TaskPlanGoals", spec := "taskPlanGoals", unfollowed := true, recurses := true, named := ["math/bits.divideError", "math/bits.overflowError", "armplan/sampler.primes"], plainKeys := false, apart := false, laid := [("armplan/sampler.primes", laid_armplan_sampler_primes)], narrowed := true }
def TaskPlanGoalsUptoSaid : Prop := taskPlanGoalsUptoRow.holds Tryz.pinned (OpenSpec.upto taskPlanGoalsSpec)

end Rows
end Go.Proofs.YtnfbbidmdkfilaaGreatDoor
