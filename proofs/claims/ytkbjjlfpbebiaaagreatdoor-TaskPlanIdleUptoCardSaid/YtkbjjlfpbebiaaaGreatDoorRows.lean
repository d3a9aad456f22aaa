/-
  NARROWER THAN 'FOR EVERY INPUT', by the rows' own cells (each row's printed sentence says how): TaskPlanReady: laid · TaskPlanIdle: laid.
  DERIVED. THE GIVEN ROWS OF THIS SEAT. 2 by the template 'for every input the law returns true; each argument reads behind the call as it read before'; 0 by the template 'total and deterministic' (their statements: YtkbjjlfpbebiaaaGreatDoorTotals.lean).
  GIVEN WITH THE SEED: the statements are not yours to turn. If you find one false, say at which input.
  Laid BY PROGRAM, IN A SANDBOX (cutbox-rows.mjs): the forced cells as the released guide's own fill.sh prints them over the translation 46f2c00d7425df1c… (all of the seat's roots in one cut). By AI agents, Wed Nov 11 2026. No macro, syntax, notation, axiom, sorry.
-/
import Derived.Test.YtkbjjlfpbebiaaaGreatDoorChecked
import GoSem.Claim
import GoSem.ClaimJoined
import GoSem.ClaimMapViews
import Derived.JoinedTies
import Derived.KernelRfl
namespace Go.Proofs.YtkbjjlfpbebiaaaGreatDoor
/- THE CELL 'sum', in the pinned program and in every row, IS THE sha256 OF THE DUMP (.gsa) THAT YtkbjjlfpbebiaaaGreatDoorProg.lean LOADS. Nothing in Lean hashes anything: it is a label: what it is worth is what the hold of that sum in a sandbox is worth. -/
noncomputable def Tryz.pinned : Pinned := { name := "ytkbjjlfpbebiaaagreatdoor", sum := "46f2c00d7425df1c24a34295a1a41755299c428d4e35b416ac8747f72feb4a0b", checked := Tryz.checked }
namespace Rows
def none {H : Type} : Left H := { results := [], args := [] }

/- WHAT THE LISTED PACKAGE-LEVEL VARIABLES READ AS WHEN THE CALL BEGINS. Each datum BY PROGRAM (the guide's laid-datum.mjs) off the statement by which the dump's own 'gosem.cut.vars' lays the variable. In a bare row this is a premise. The card (YtkbjjlfpbebiaaaGreatDoorCards.lean) ties it to the program's text. -/
def laid_armplan_sampler_primes {H : Type} : DataW H := .agg [.lit (.int .u64 2), .lit (.int .u64 3), .lit (.int .u64 5), .lit (.int .u64 7), .lit (.int .u64 11), .lit (.int .u64 13), .lit (.int .u64 17), .lit (.int .u64 19), .lit (.int .u64 23), .lit (.int .u64 29)]

/-- 'armplanlaw39.TaskPlanReady': WHATEVER THE INPUT: true; the input reads as it did. -/
def taskPlanReadySpec : ChangeSpec := { name := "taskPlanReady", fn := fun _ => fun
  | [d1, d2, d3, d4, d5, d6, d7] => { results := [.lit (.bool true)], args := [d1, d2, d3, d4, d5, d6, d7] }
  | _ => none }
def taskPlanReadyRow : OpenClaim := { program := "ytkbjjlfpbebiaaagreatdoor", sum := "46f2c00d7425df1c24a34295a1a41755299c428d4e35b416ac8747f72feb4a0b", func := "armplan/armplanlaw39.TaskPlanReady", spec := "taskPlanReady", unfollowed := true, recurses := true, named := ["armplan/sampler.primes", "math/bits.divideError", "math/bits.overflowError"], plainKeys := false, apart := false, laid := [("armplan/sampler.primes", laid_armplan_sampler_primes)] }
def TaskPlanReadySaid : Prop := taskPlanReadyRow.holds Tryz.pinned (OpenSpec.ofChange taskPlanReadySpec)

/-- ITS FALSE NEIGHBOUR: 'it returns false'. Refute it at one input. -/
def taskPlanReadyWrong : ChangeSpec := { name := "taskPlanReady", fn := fun _ => fun
  | [d1, d2, d3, d4, d5, d6, d7] => { results := [.lit (.bool false)], args := [d1, d2, d3, d4, d5, d6, d7] }
  | _ => none }
def TaskPlanReadyWrongFalsely : Prop := taskPlanReadyRow.holds Tryz.pinned (OpenSpec.ofChange taskPlanReadyWrong)

/-- 'armplanlaw39.TaskPlanIdle': WHATEVER THE INPUT: true; the input reads as it did. -/
def taskPlanIdleSpec : ChangeSpec := { name := "taskPlanIdle", fn := fun _ => fun
  | [d1, d2, d3] => { results := [.lit (.bool true)], args := [d1, d2, d3] }
  | _ => none }
def taskPlanIdleRow : OpenClaim := { program := "ytkbjjlfpbebiaaagreatdoor", sum := "46f2c00d7425df1c24a34295a1a41755299c428d4e35b416ac8747f72feb4a0b", func := "armplan/armplanlaw39.TaskPlanIdle", spec := "taskPlanIdle", unfollowed := true, recurses := true, named := ["armplan/sampler.primes", "math/bits.divideError", "math/bits.overflowError"], plainKeys := false, apart := false, laid := [("armplan/sampler.primes", laid_armplan_sampler_primes)] }
def TaskPlanIdleSaid : Prop := taskPlanIdleRow.holds Tryz.pinned (OpenSpec.ofChange taskPlanIdleSpec)

/-- ITS FALSE NEIGHBOUR: 'it returns false'. Refute it at one input. -/
def taskPlanIdleWrong : ChangeSpec := { name := "taskPlanIdle", fn := fun _ => fun
  | [d1, d2, d3] => { results := [.lit (.bool false)], args := [d1, d2, d3] }
  | _ => none }
def TaskPlanIdleWrongFalsely : Prop := taskPlanIdleRow.holds Tryz.pinned (OpenSpec.ofChange taskPlanIdleWrong)

/- THE SECOND FORM. 'bulk': how many values and letters a reading holds, each counted each time it is reached (what is shared counts as often as it is met; a slice's spare places count too). A statement '..UptoSaid' is the law's where the arguments, and the package variables that the reading takes, are together of bulk at most 1048576: NARROWER than '..Said'. Prove '..Said' where nothing that the law and all that it calls make is longer than what came in: it says more and counts as full. Else prove '..UptoSaid'. A law counts once. -/
mutual
def uptoBulk {H : Type} : DataW H → Nat
  | .lit (.string bytes) => bytes.length + 1
  | .lit _ => 1
  | .nil => 1
  | .ptr d => uptoBulk d + 1
  | .slice elems spare => uptoBulkAll elems + uptoBulkAll spare + 1
  | .agg parts => uptoBulkAll parts + 1
  | .iface _ d => uptoBulk d + 1
  | .map entries => uptoBulkEntries entries + 1
  | .held _ => 1
def uptoBulkAll {H : Type} : List (DataW H) → Nat
  | [] => 0
  | d :: r => uptoBulk d + uptoBulkAll r
def uptoBulkEntries {H : Type} : List (Lit × DataW H) → Nat
  | [] => 0
  | x :: r => uptoBulkEntry x + uptoBulkEntries r
def uptoBulkEntry {H : Type} : Lit × DataW H → Nat
  | (.string bytes, d) => bytes.length + uptoBulk d + 1
  | (_, d) => uptoBulk d + 1
 end
def uptoSmall : (H : Type) → List (DataW H) → Bool := fun _ ds => decide (uptoBulkAll ds ≤ 1048576)
def OpenSpec.upto (s : _root_.Go.ChangeSpec) : _root_.Go.OpenSpec := { _root_.Go.OpenSpec.ofChange s with cond := some uptoSmall }

/-- 'armplanlaw39.TaskPlanReady', WHERE WHAT IT READS IS OF BULK AT MOST 1048576: true; the input reads as it did. -/
def taskPlanReadyUptoRow : OpenClaim := { program := "ytkbjjlfpbebiaaagreatdoor", sum := "46f2c00d7425df1c24a34295a1a41755299c428d4e35b416ac8747f72feb4a0b", func := "armplan/armplanlaw39.TaskPlanReady", spec := "taskPlanReady", unfollowed := true, recurses := true, named := ["armplan/sampler.primes", "math/bits.divideError", "math/bits.overflowError"], plainKeys := false, apart := false, laid := [("armplan/sampler.primes", laid_armplan_sampler_primes)], narrowed := true }
def TaskPlanReadyUptoSaid : Prop := taskPlanReadyUptoRow.holds Tryz.pinned (OpenSpec.upto taskPlanReadySpec)

/-- 'armplanlaw39.TaskPlanIdle', WHERE WHAT IT READS IS OF BULK AT MOST 1048576: true; the input reads as it did. -/
def taskPlanIdleUptoRow : OpenClaim := { program := "ytkbjjlfpbebiaaagreatdoor", sum := "46f2c00d7425df1c24a34295a1a41755299c428d4e35b416ac8747f72feb4a0b", func := "armplan/armplanlaw39.TaskPlanIdle", spec := "taskPlanIdle", unfollowed := true, recurses := true, named := ["armplan/sampler.primes", "math/bits.divideError", "math/bits.overflowError"], plainKeys := false, apart := false, laid := [("armplan/sampler.primes", laid_armplan_sampler_primes)], narrowed := true }
def TaskPlanIdleUptoSaid : Prop := taskPlanIdleUptoRow.holds Tryz.pinned (OpenSpec.upto taskPlanIdleSpec)

end Rows
end Go.Proofs.YtkbjjlfpbebiaaaGreatDoor
