/-
  NARROWER THAN 'FOR EVERY INPUT', by the rows' own cells (each row's printed sentence says how): TaskPlanMotions: laid · TaskPlanFinds: laid · TaskPlanAccepted: laid.
  DERIVED. THE GIVEN ROWS OF THIS SEAT. 3 by the template 'for every input the law returns true; each argument reads behind the call as it read before'; 0 by the template 'total and deterministic' (their statements: YtagmfmidaochlaaGreatDoorTotals.lean).
  GIVEN WITH THE SEED: the statements are not yours to turn. If you find one false, say at which input.
  Laid BY PROGRAM, IN A SANDBOX (cutbox-rows.mjs): the forced cells as the released guide's own fill.sh prints them over the translation 7bb3a9896aed02ed… (all of the seat's roots in one cut). By AI agents, Wed Nov 11 2026. No macro, syntax, notation, axiom, sorry.
-/
import Derived.Test.YtagmfmidaochlaaGreatDoorChecked
import GoSem.Claim
import GoSem.ClaimJoined
import GoSem.ClaimMapViews
import Derived.JoinedTies
import Derived.KernelRfl
namespace Go.Proofs.YtagmfmidaochlaaGreatDoor
/- THE CELL 'sum', in the pinned program and in every row, IS THE sha256 OF THE DUMP (.gsa) THAT YtagmfmidaochlaaGreatDoorProg.lean LOADS. Nothing in Lean hashes anything: it is a label: what it is worth is what the hold of that sum in a sandbox is worth. -/
noncomputable def Tryz.pinned : Pinned := { name := "ytagmfmidaochlaagreatdoor", sum := "7bb3a9896aed02edb7a27d57aca1db1e70a30ecbd33ca8e5d36bac0251de8eae", checked := Tryz.checked }
namespace Rows
def none {H : Type} : Left H := { results := [], args := [] }

/- WHAT THE LISTED PACKAGE-LEVEL VARIABLES READ AS WHEN THE CALL BEGINS. Each datum BY PROGRAM (the guide's laid-datum.mjs) off the statement by which the dump's own 'gosem.cut.vars' lays the variable. In a bare row this is a premise. The card (YtagmfmidaochlaaGreatDoorCards.lean) ties it to the program's text. -/
def laid_armplan_sampler_primes {H : Type} : DataW H := .agg [.lit (.int .u64 2), .lit (.int .u64 3), .lit (.int .u64 5), .lit (.int .u64 7), .lit (.int .u64 11), .lit (.int .u64 13), .lit (.int .u64 17), .lit (.int .u64 19), .lit (.int .u64 23), .lit (.int .u64 29)]

/-- 'armplanlaw39.TaskPlanMotions': WHATEVER THE INPUT: true; the input reads as it did. -/
def taskPlanMotionsSpec : ChangeSpec := { name := "taskPlanMotions", fn := fun _ => fun
  | [d1, d2, d3, d4, d5, d6, d7, d8, d9] => { results := [.lit (.bool true)], args := [d1, d2, d3, d4, d5, d6, d7, d8, d9] }
  | _ => none }
def taskPlanMotionsRow : OpenClaim := { program := "ytagmfmidaochlaagreatdoor", sum := "7bb3a9896aed02edb7a27d57aca1db1e70a30ecbd33ca8e5d36bac0251de8eae", func := "armplan/armplanlaw39.TaskPlanMotions", spec := "taskPlanMotions", unfollowed := true, recurses := true, named := ["armplan/sampler.primes", "math/bits.divideError", "math/bits.overflowError"], plainKeys := false, apart := false, laid := [("armplan/sampler.primes", laid_armplan_sampler_primes)] }
def TaskPlanMotionsSaid : Prop := taskPlanMotionsRow.holds Tryz.pinned (OpenSpec.ofChange taskPlanMotionsSpec)

/-- ITS FALSE NEIGHBOUR: 'it returns false'. Refute it at one input. -/
def taskPlanMotionsWrong : ChangeSpec := { name := "taskPlanMotions", fn := fun _ => fun
  | [d1, d2, d3, d4, d5, d6, d7, d8, d9] => { results := [.lit (.bool false)], args := [d1, d2, d3, d4, d5, d6, d7, d8, d9] }
  | _ => none }
def TaskPlanMotionsWrongFalsely : Prop := taskPlanMotionsRow.holds Tryz.pinned (OpenSpec.ofChange taskPlanMotionsWrong)

/-- 'armplanlaw39.TaskPlanFinds': WHATEVER THE INPUT: true; the input reads as it did. -/
def taskPlanFindsSpec : ChangeSpec := { name := "taskPlanFinds", fn := fun _ => fun
  | [d1, d2, d3, d4, d5, d6, d7, d8, d9, d10, d11, d12] => { results := [.lit (.bool true)], args := [d1, d2, d3, d4, d5, d6, d7, d8, d9, d10, d11, d12] }
  | _ => none }
def taskPlanFindsRow : OpenClaim := { program := "ytagmfmidaochlaagreatdoor", sum := "7bb3a9896aed02edb7a27d57aca1db1e70a30ecbd33ca8e5d36bac0251de8eae", func := "armplan/armplanlaw39.TaskPlanFinds", spec := "taskPlanFinds", unfollowed := true, recurses := true, named := ["armplan/sampler.primes", "math/bits.divideError", "math/bits.overflowError"], plainKeys := false, apart := false, laid := [("armplan/sampler.primes", laid_armplan_sampler_primes)] }
def TaskPlanFindsSaid : Prop := taskPlanFindsRow.holds Tryz.pinned (OpenSpec.ofChange taskPlanFindsSpec)

/-- ITS FALSE NEIGHBOUR: 'it returns false'. Refute it at one input. -/
def taskPlanFindsWrong : ChangeSpec := { name := "taskPlanFinds", fn := fun _ => fun
  | [d1, d2, d3, d4, d5, d6, d7, d8, d9, d10, d11, d12] => { results := [.lit (.bool false)], args := [d1, d2, d3, d4, d5, d6, d7, d8, d9, d10, d11, d12] }
  | _ => none }
def TaskPlanFindsWrongFalsely : Prop := taskPlanFindsRow.holds Tryz.pinned (OpenSpec.ofChange taskPlanFindsWrong)

/-- 'armplanlaw39.TaskPlanAccepted': WHATEVER THE INPUT: true; the input reads as it did. -/
def taskPlanAcceptedSpec : ChangeSpec := { name := "taskPlanAccepted", fn := fun _ => fun
  | [d1, d2, d3, d4, d5, d6, d7] => { results := [.lit (.bool true)], args := [d1, d2, d3, d4, d5, d6, d7] }
  | _ => none }
def taskPlanAcceptedRow : OpenClaim := { program := "ytagmfmidaochlaagreatdoor", sum := "7bb3a9896aed02edb7a27d57aca1db1e70a30ecbd33ca8e5d36bac0251de8eae", func := "armplan/armplanlaw39.TaskPlanAccepted", spec := "taskPlanAccepted", unfollowed := true, recurses := true, named := ["armplan/sampler.primes", "math/bits.divideError", "math/bits.overflowError"], plainKeys := false, apart := false, laid := [("armplan/sampler.primes", laid_armplan_sampler_primes)] }
def TaskPlanAcceptedSaid : Prop := taskPlanAcceptedRow.holds Tryz.pinned (OpenSpec.ofChange taskPlanAcceptedSpec)

/-- ITS FALSE NEIGHBOUR: 'it returns false'. Refute it at one input. -/
def taskPlanAcceptedWrong : ChangeSpec := { name := "taskPlanAccepted", fn := fun _ => fun
  | [d1, d2, d3, d4, d5, d6, d7] => { results := [.lit (.bool false)], args := [d1, d2, d3, d4, d5, d6, d7] }
  | _ => none }
def TaskPlanAcceptedWrongFalsely : Prop := taskPlanAcceptedRow.holds Tryz.pinned (OpenSpec.ofChange taskPlanAcceptedWrong)

/- THE SECOND FORM. 'bulk': how many values and letters a reading holds, each counted each time it is reached (what is shared counts as often as it is met; a slice's spare places count too). A statement '..UptoSaid' is the law's where the arguments, and the package variables that the reading takes, are together of bulk at most 1048576: NARROWER than '..Said'. Prove '..Said' where nothing that the law and all that it calls make is longer than what came in: it says more and counts as full. Else prove '..UptoSaid'. A law counts once. -/
mutual
def uptoBulk {H : Type} : DataW H → Nat
  | .lit (.string bytes) => bytes.length + 1
  | .lit _ => 1
  | .nil => 1
  | .ptr d => uptoBulk d + 1
  | .slice elems spare => uptoBulkAll elems + uptoBulkAll spare + 1
  | .agg parts => uptoBulkAll parts + 1
  | .iface _ d => uptoBulk d + 1
  | .map entries => uptoBulkEntries entries + 1
  | .held _ => 1
def uptoBulkAll {H : Type} : List (DataW H) → Nat
  | [] => 0
  | d :: r => uptoBulk d + uptoBulkAll r
def uptoBulkEntries {H : Type} : List (Lit × DataW H) → Nat
  | [] => 0
  | x :: r => uptoBulkEntry x + uptoBulkEntries r
def uptoBulkEntry {H : Type} : Lit × DataW H → Nat
  | (.string bytes, d) => bytes.length + uptoBulk d + 1
  | (_, d) => uptoBulk d + 1
 end
def uptoSmall : (H : Type) → List (DataW H) → Bool := fun _ ds => decide (uptoBulkAll ds ≤ 1048576)
def OpenSpec.upto (s : _root_.Go.ChangeSpec) : _root_.Go.OpenSpec := { _root_.Go.OpenSpec.ofChange s with cond := some uptoSmall }

/-- 'armplanlaw39.TaskPlanMotions', WHERE WHAT IT READS IS OF BULK AT MOST 1048576: true; the input reads as it did. -/
def taskPlanMotionsUptoRow : OpenClaim := { program := "ytagmfmidaochlaagreatdoor", sum := "7bb3a9896aed02edb7a27d57aca1db1e70a30ecbd33ca8e5d36bac0251de8eae", func := "armplan/armplanlaw39.TaskPlanMotions", spec := "taskPlanMotions", unfollowed := true, recurses := true, named := ["armplan/sampler.primes", "math/bits.divideError", "math/bits.overflowError"], plainKeys := false, apart := false, laid := [("armplan/sampler.primes", laid_armplan_sampler_primes)], narrowed := true }
def TaskPlanMotionsUptoSaid : Prop := taskPlanMotionsUptoRow.holds Tryz.pinned (OpenSpec.upto taskPlanMotionsSpec)

/-- 'armplanlaw39.TaskPlanFinds', WHERE WHAT IT READS IS OF BULK AT MOST 1048576: true; the input reads as it did. -/
def taskPlanFindsUptoRow : OpenClaim := { program := "ytagmfmidaochlaagreatdoor", sum := "7bb3a9896aed02edb7a27d57aca1db1e70a30ecbd33ca8e5d36bac0251de8eae", func := "armplan/armplanlaw39.TaskPlanFinds", spec := "taskPlanFinds", unfollowed := true, recurses := true, named := ["armplan/sampler.primes", "math/bits.divideError", "math/bits.overflowError"], plainKeys := false, apart := false, laid := [("armplan/sampler.primes", laid_armplan_sampler_primes)], narrowed := true }
def TaskPlanFindsUptoSaid : Prop := taskPlanFindsUptoRow.holds Tryz.pinned (OpenSpec.upto taskPlanFindsSpec)

/-- 'armplanlaw39.TaskPlanAccepted', WHERE WHAT IT READS IS OF BULK AT MOST 1048576: true; the input reads as it did. -/
def taskPlanAcceptedUptoRow : OpenClaim := { program := "ytagmfmidaochlaagreatdoor", sum := "7bb3a9896aed02edb7a27d57aca1db1e70a30ecbd33ca8e5d36bac0251de8eae", func := "armplan/armplanlaw39.TaskPlanAccepted", spec := "taskPlanAccepted", unfollowed := true, recurses := true, named := ["armplan/sampler.primes", "math/bits.divideError", "math/bits.overflowError"], plainKeys := false, apart := false, laid := [("armplan/sampler.primes", laid_armplan_sampler_primes)], narrowed := true }
def TaskPlanAcceptedUptoSaid : Prop := taskPlanAcceptedUptoRow.holds Tryz.pinned (OpenSpec.upto taskPlanAcceptedSpec)

end Rows
end Go.Proofs.YtagmfmidaochlaaGreatDoor
