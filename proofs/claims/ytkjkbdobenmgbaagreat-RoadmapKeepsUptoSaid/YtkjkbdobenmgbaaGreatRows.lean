/-
  No cell of these rows narrows 'for every input' (looked for: loops, veiled, ifaces, maps, wideKeys, modest, calm, conditions, laid).
  DERIVED. THE GIVEN ROWS OF THIS SEAT. 7 by the template 'for every input the law returns true; each argument reads behind the call as it read before'; 0 by the template 'total and deterministic' (their statements: YtkjkbdobenmgbaaGreatTotals.lean).
  GIVEN WITH THE SEED: the statements are not yours to turn. If you find one false, say at which input.
  Laid BY PROGRAM, IN A SANDBOX (cutbox-rows.mjs): the forced cells as the released guide's own fill.sh prints them over the translation 239179189dd14dfa… (all of the seat's roots in one cut). By AI agents, Wed Nov 11 2026. No macro, syntax, notation, axiom, sorry.
-/
import Derived.Test.YtkjkbdobenmgbaaGreatChecked
import GoSem.Claim
import GoSem.ClaimJoined
import GoSem.ClaimMapViews
import Derived.JoinedTies
import Derived.KernelRfl
namespace Go.Proofs.YtkjkbdobenmgbaaGreat
/- THE CELL 'sum', in the pinned program and in every row, IS THE sha256 OF THE DUMP (.gsa) THAT YtkjkbdobenmgbaaGreatProg.lean LOADS. Nothing in Lean hashes anything: it is a label: what it is worth is what the hold of that sum in a sandbox is worth. -/
noncomputable def Tryz.pinned : Pinned := { name := "ytkjkbdobenmgbaagreat", sum := "239179189dd14dfa1e72fc80f2addc1b4dcaaca1b5f865253b885a55a112242a", checked := Tryz.checked }
namespace Rows
def none {H : Type} : Left H := { results := [], args := [] }

/-- 'armplanlaw25.RoadmapValid': WHATEVER THE INPUT: true; the input reads as it did. -/
def roadmapValidSpec : ChangeSpec := { name := "roadmapValid", fn := fun _ => fun
  | [d1, d2, d3, d4, d5, d6, d7] => { results := [.lit (.bool true)], args := [d1, d2, d3, d4, d5, d6, d7] }
  | _ => none }
def roadmapValidRow : OpenClaim := { program := "ytkjkbdobenmgbaagreat", sum := "239179189dd14dfa1e72fc80f2addc1b4dcaaca1b5f865253b885a55a112242a", func := "armplan/armplanlaw25.RoadmapValid", spec := "roadmapValid", unfollowed := true, recurses := true, plainKeys := false, apart := false }
def RoadmapValidSaid : Prop := roadmapValidRow.holds Tryz.pinned (OpenSpec.ofChange roadmapValidSpec)

/-- ITS FALSE NEIGHBOUR: 'it returns false'. Refute it at one input. -/
def roadmapValidWrong : ChangeSpec := { name := "roadmapValid", fn := fun _ => fun
  | [d1, d2, d3, d4, d5, d6, d7] => { results := [.lit (.bool false)], args := [d1, d2, d3, d4, d5, d6, d7] }
  | _ => none }
def RoadmapValidWrongFalsely : Prop := roadmapValidRow.holds Tryz.pinned (OpenSpec.ofChange roadmapValidWrong)

/-- 'armplanlaw25.RoadmapNew': WHATEVER THE INPUT: true; the input reads as it did. -/
def roadmapNewSpec : ChangeSpec := { name := "roadmapNew", fn := fun _ => fun
  | [d1, d2, d3, d4, d5, d6] => { results := [.lit (.bool true)], args := [d1, d2, d3, d4, d5, d6] }
  | _ => none }
def roadmapNewRow : OpenClaim := { program := "ytkjkbdobenmgbaagreat", sum := "239179189dd14dfa1e72fc80f2addc1b4dcaaca1b5f865253b885a55a112242a", func := "armplan/armplanlaw25.RoadmapNew", spec := "roadmapNew", unfollowed := true, recurses := true, plainKeys := false, apart := false }
def RoadmapNewSaid : Prop := roadmapNewRow.holds Tryz.pinned (OpenSpec.ofChange roadmapNewSpec)

/-- ITS FALSE NEIGHBOUR: 'it returns false'. Refute it at one input. -/
def roadmapNewWrong : ChangeSpec := { name := "roadmapNew", fn := fun _ => fun
  | [d1, d2, d3, d4, d5, d6] => { results := [.lit (.bool false)], args := [d1, d2, d3, d4, d5, d6] }
  | _ => none }
def RoadmapNewWrongFalsely : Prop := roadmapNewRow.holds Tryz.pinned (OpenSpec.ofChange roadmapNewWrong)

/-- 'armplanlaw25.RoadmapLists': WHATEVER THE INPUT: true; the input reads as it did. -/
def roadmapListsSpec : ChangeSpec := { name := "roadmapLists", fn := fun _ => fun
  | [d1, d2, d3, d4] => { results := [.lit (.bool true)], args := [d1, d2, d3, d4] }
  | _ => none }
def roadmapListsRow : OpenClaim := { program := "ytkjkbdobenmgbaagreat", sum := "239179189dd14dfa1e72fc80f2addc1b4dcaaca1b5f865253b885a55a112242a", func := "armplan/armplanlaw25.RoadmapLists", spec := "roadmapLists", unfollowed := true, recurses := true, plainKeys := false, apart := false }
def RoadmapListsSaid : Prop := roadmapListsRow.holds Tryz.pinned (OpenSpec.ofChange roadmapListsSpec)

/-- ITS FALSE NEIGHBOUR: 'it returns false'. Refute it at one input. -/
def roadmapListsWrong : ChangeSpec := { name := "roadmapLists", fn := fun _ => fun
  | [d1, d2, d3, d4] => { results := [.lit (.bool false)], args := [d1, d2, d3, d4] }
  | _ => none }
def RoadmapListsWrongFalsely : Prop := roadmapListsRow.holds Tryz.pinned (OpenSpec.ofChange roadmapListsWrong)

/-- 'armplanlaw25.RoadmapNested': WHATEVER THE INPUT: true; the input reads as it did. -/
def roadmapNestedSpec : ChangeSpec := { name := "roadmapNested", fn := fun _ => fun
  | [d] => { results := [.lit (.bool true)], args := [d] }
  | _ => none }
def roadmapNestedRow : OpenClaim := { program := "ytkjkbdobenmgbaagreat", sum := "239179189dd14dfa1e72fc80f2addc1b4dcaaca1b5f865253b885a55a112242a", func := "armplan/armplanlaw25.RoadmapNested", spec := "roadmapNested", unfollowed := true, recurses := true, plainKeys := false, apart := false }
def RoadmapNestedSaid : Prop := roadmapNestedRow.holds Tryz.pinned (OpenSpec.ofChange roadmapNestedSpec)

/-- ITS FALSE NEIGHBOUR: 'it returns false'. Refute it at one input. -/
def roadmapNestedWrong : ChangeSpec := { name := "roadmapNested", fn := fun _ => fun
  | [d] => { results := [.lit (.bool false)], args := [d] }
  | _ => none }
def RoadmapNestedWrongFalsely : Prop := roadmapNestedRow.holds Tryz.pinned (OpenSpec.ofChange roadmapNestedWrong)

/-- 'armplanlaw25.RoadmapNearest': WHATEVER THE INPUT: true; the input reads as it did. -/
def roadmapNearestSpec : ChangeSpec := { name := "roadmapNearest", fn := fun _ => fun
  | [d1, d2, d3, d4] => { results := [.lit (.bool true)], args := [d1, d2, d3, d4] }
  | _ => none }
def roadmapNearestRow : OpenClaim := { program := "ytkjkbdobenmgbaagreat", sum := "239179189dd14dfa1e72fc80f2addc1b4dcaaca1b5f865253b885a55a112242a", func := "armplan/armplanlaw25.RoadmapNearest", spec := "roadmapNearest", unfollowed := true, recurses := true, plainKeys := false, apart := false }
def RoadmapNearestSaid : Prop := roadmapNearestRow.holds Tryz.pinned (OpenSpec.ofChange roadmapNearestSpec)

/-- ITS FALSE NEIGHBOUR: 'it returns false'. Refute it at one input. -/
def roadmapNearestWrong : ChangeSpec := { name := "roadmapNearest", fn := fun _ => fun
  | [d1, d2, d3, d4] => { results := [.lit (.bool false)], args := [d1, d2, d3, d4] }
  | _ => none }
def RoadmapNearestWrongFalsely : Prop := roadmapNearestRow.holds Tryz.pinned (OpenSpec.ofChange roadmapNearestWrong)

/-- 'armplanlaw25.RoadmapAdds': WHATEVER THE INPUT: true; the input reads as it did. -/
def roadmapAddsSpec : ChangeSpec := { name := "roadmapAdds", fn := fun _ => fun
  | [d1, d2, d3, d4, d5, d6, d7, d8] => { results := [.lit (.bool true)], args := [d1, d2, d3, d4, d5, d6, d7, d8] }
  | _ => none }
def roadmapAddsRow : OpenClaim := { program := "ytkjkbdobenmgbaagreat", sum := "239179189dd14dfa1e72fc80f2addc1b4dcaaca1b5f865253b885a55a112242a", func := "armplan/armplanlaw25.RoadmapAdds", spec := "roadmapAdds", unfollowed := true, recurses := true, plainKeys := false, apart := false }
def RoadmapAddsSaid : Prop := roadmapAddsRow.holds Tryz.pinned (OpenSpec.ofChange roadmapAddsSpec)

/-- ITS FALSE NEIGHBOUR: 'it returns false'. Refute it at one input. -/
def roadmapAddsWrong : ChangeSpec := { name := "roadmapAdds", fn := fun _ => fun
  | [d1, d2, d3, d4, d5, d6, d7, d8] => { results := [.lit (.bool false)], args := [d1, d2, d3, d4, d5, d6, d7, d8] }
  | _ => none }
def RoadmapAddsWrongFalsely : Prop := roadmapAddsRow.holds Tryz.pinned (OpenSpec.ofChange roadmapAddsWrong)

/-- 'armplanlaw25.RoadmapKeeps': WHATEVER THE INPUT: true; the input reads as it did. -/
def roadmapKeepsSpec : ChangeSpec := { name := "roadmapKeeps", fn := fun _ => fun
  | [d1, d2, d3, d4, d5, d6] => { results := [.lit (.bool true)], args := [d1, d2, d3, d4, d5, d6] }
  | _ => none }
def roadmapKeepsRow : OpenClaim := { program := "ytkjkbdobenmgbaagreat", sum := "239179189dd14dfa1e72fc80f2addc1b4dcaaca1b5f865253b885a55a112242a", func := "armplan/armplanlaw25.RoadmapKeeps", spec := "roadmapKeeps", unfollowed := true, recurses := true, plainKeys := false, apart := false }
def RoadmapKeepsSaid : Prop := roadmapKeepsRow.holds Tryz.pinned (OpenSpec.ofChange roadmapKeepsSpec)

/-- ITS FALSE NEIGHBOUR: 'it returns false'. Refute it at one input. -/
def roadmapKeepsWrong : ChangeSpec := { name := "roadmapKeeps", fn := fun _ => fun
  | [d1, d2, d3, d4, d5, d6] => { results := [.lit (.bool false)], args := [d1, d2, d3, d4, d5, d6] }
  | _ => none }
def RoadmapKeepsWrongFalsely : Prop := roadmapKeepsRow.holds Tryz.pinned (OpenSpec.ofChange roadmapKeepsWrong)

/- THE SECOND FORM. 'bulk': how many values and letters a reading holds, each counted each time it is reached (what is shared counts as often as it is met; a slice's spare places count too). A statement '..UptoSaid' is the law's where the arguments, and the package variables that the reading takes, are together of bulk at most 1048576: NARROWER than '..Said'. Prove '..Said' where nothing that the law and all that it calls make is longer than what came in: it says more and counts as full. Else prove '..UptoSaid'. A law counts once. -/
mutual
def uptoBulk {H : Type} : DataW H → Nat
  | .lit (.string bytes) => bytes.length + 1
  | .lit _ => 1
  | .nil => 1
  | .ptr d => uptoBulk d + 1
  | .slice elems spare => uptoBulkAll elems + uptoBulkAll spare + 1
  | .agg parts => uptoBulkAll parts + 1
  | .iface _ d => uptoBulk d + 1
  | .map entries => uptoBulkEntries entries + 1
  | .held _ => 1
def uptoBulkAll {H : Type} : List (DataW H) → Nat
  | [] => 0
  | d :: r => uptoBulk d + uptoBulkAll r
def uptoBulkEntries {H : Type} : List (Lit × DataW H) → Nat
  | [] => 0
  | x :: r => uptoBulkEntry x + uptoBulkEntries r
def uptoBulkEntry {H : Type} : Lit × DataW H → Nat
  | (.string bytes, d) => bytes.length + uptoBulk d + 1
  | (_, d) => uptoBulk d + 1
 end
def uptoSmall : (H : Type) → List (DataW H) → Bool := fun _ ds => decide (uptoBulkAll ds ≤ 1048576)
def OpenSpec.upto (s : _root_.Go.ChangeSpec) : _root_.Go.OpenSpec := { _root_.Go.OpenSpec.ofChange s with cond := some uptoSmall }

/-- 'armplanlaw25.RoadmapValid', WHERE WHAT IT READS IS OF BULK AT MOST 1048576: true; the input reads as it did. -/
def roadmapValidUptoRow : OpenClaim := { program := "ytkjkbdobenmgbaagreat", sum := "239179189dd14dfa1e72fc80f2addc1b4dcaaca1b5f865253b885a55a112242a", func := "armplan/armplanlaw25.RoadmapValid", spec := "roadmapValid", unfollowed := true, recurses := true, plainKeys := false, apart := false, narrowed := true }
def RoadmapValidUptoSaid : Prop := roadmapValidUptoRow.holds Tryz.pinned (OpenSpec.upto roadmapValidSpec)

/-- 'armplanlaw25.RoadmapNew', WHERE WHAT IT READS IS OF BULK AT MOST 1048576: true; the input reads as it did. -/
def roadmapNewUptoRow : OpenClaim := { program := "ytkjkbdobenmgbaagreat", sum := "239179189dd14dfa1e72fc80f2addc1b4dcaaca1b5f865253b885a55a112242a", func := "armplan/armplanlaw25.RoadmapNew", spec := "roadmapNew", unfollowed := true, recurses := true, plainKeys := false, apart := false, narrowed := true }
def RoadmapNewUptoSaid : Prop := roadmapNewUptoRow.holds Tryz.pinned (OpenSpec.upto roadmapNewSpec)

/-- 'armplanlaw25.RoadmapLists', WHERE WHAT IT READS IS OF BULK AT MOST 1048576: true; the input reads as it did. -/
def roadmapListsUptoRow : OpenClaim := { program := "ytkjkbdobenmgbaagreat", sum := "239179189dd14dfa1e72fc80f2addc1b4dcaaca1b5f865253b885a55a112242a", func := "armplan/armplanlaw25.RoadmapLists", spec := "roadmapLists", unfollowed := true, recurses := true, plainKeys := false, apart := false, narrowed := true }
def RoadmapListsUptoSaid : Prop := roadmapListsUptoRow.holds Tryz.pinned (OpenSpec.upto roadmapListsSpec)

/-- 'armplanlaw25.RoadmapNested', WHERE WHAT IT READS IS OF BULK AT MOST 1048576: true; the input reads as it did. -/
def roadmapNestedUptoRow : OpenClaim := { program := "ytkjkbdobenmgbaagreat", sum := "239179189dd14dfa1e72fc80f2addc1b4dcaaca1b5f865253b885a55a112242a", func := "armplan/armplanlaw25.RoadmapNested", spec := "roadmapNested", unfollowed := true, recurses := true, plainKeys := false, apart := false, narrowed := true }
def RoadmapNestedUptoSaid : Prop := roadmapNestedUptoRow.holds Tryz.pinned (OpenSpec.upto roadmapNestedSpec)

/-- 'armplanlaw25.RoadmapNearest', WHERE WHAT IT READS IS OF BULK AT MOST 1048576: true; the input reads as it did. -/
def roadmapNearestUptoRow : OpenClaim := { program := "ytkjkbdobenmgbaagreat", sum := "239179189dd14dfa1e72fc80f2addc1b4dcaaca1b5f865253b885a55a112242a", func := "armplan/armplanlaw25.RoadmapNearest", spec := "roadmapNearest", unfollowed := true, recurses := true, plainKeys := false, apart := false, narrowed := true }
def RoadmapNearestUptoSaid : Prop := roadmapNearestUptoRow.holds Tryz.pinned (OpenSpec.upto roadmapNearestSpec)

/-- 'armplanlaw25.RoadmapAdds', WHERE WHAT IT READS IS OF BULK AT MOST 1048576: true; the input reads as it did. -/
def roadmapAddsUptoRow : OpenClaim := { program := "ytkjkbdobenmgbaagreat", sum := "239179189dd14dfa1e72fc80f2addc1b4dcaaca1b5f865253b885a55a112242a", func := "armplan/armplanlaw25.RoadmapAdds", spec := "roadmapAdds", unfollowed := true, recurses := true, plainKeys := false, apart := false, narrowed := true }
def RoadmapAddsUptoSaid : Prop := roadmapAddsUptoRow.holds Tryz.pinned (OpenSpec.upto roadmapAddsSpec)

/-- 'armplanlaw25.RoadmapKeeps', WHERE WHAT IT READS IS OF BULK AT MOST 1048576: true; the input reads as it did. -/
def roadmapKeepsUptoRow : OpenClaim := { program := "ytkjkbdobenmgbaagreat", sum := "239179189dd14dfa1e72fc80f2addc1b4dcaaca1b5f865253b885a55a112242a", func := "armplan/armplanlaw25.RoadmapKeeps", spec := "roadmapKeeps", unfollowed := true, recurses := true, plainKeys := false, apart := false, narrowed := true }
def RoadmapKeepsUptoSaid : Prop := roadmapKeepsUptoRow.holds Tryz.pinned (OpenSpec.upto roadmapKeepsSpec)

end Rows
end Go.Proofs.YtkjkbdobenmgbaaGreat
