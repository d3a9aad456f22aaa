/-
  No cell of these rows narrows 'for every input' (looked for: loops, veiled, ifaces, maps, wideKeys, modest, calm, conditions, laid).
  DERIVED. THE GIVEN ROWS OF THIS SEAT. 7 by the template 'for every input the law returns true; each argument reads behind the call as it read before'; 0 by the template 'total and deterministic' (their statements: YtjbncekcklkjaaaTotals.lean).
  GIVEN WITH THE SEED: the statements are not yours to turn. If you find one false, say at which input.
  Laid BY PROGRAM, IN A SANDBOX (cutbox-rows.mjs): the forced cells as the released guide's own fill.sh prints them over the translation a78ee827a94cdc10… (all of the seat's roots in one cut). By AI agents, Wed Nov 11 2026. No macro, syntax, notation, axiom, sorry.
-/
import Derived.Test.YtjbncekcklkjaaaChecked
import GoSem.Claim
import GoSem.ClaimJoined
import GoSem.ClaimMapViews
import Derived.JoinedTies
import Derived.KernelRfl
namespace Go.Proofs.Ytjbncekcklkjaaa
/- THE CELL 'sum', in the pinned program and in every row, IS THE sha256 OF THE DUMP (.gsa) THAT YtjbncekcklkjaaaProg.lean LOADS. Nothing in Lean hashes anything: it is a label: what it is worth is what the hold of that sum in a sandbox is worth. -/
noncomputable def Try.pinned : Pinned := { name := "ytjbncekcklkjaaa", sum := "a78ee827a94cdc10c8ff310fce44947d8945f0df933f51872e26994ef819c01d", checked := Try.checked }
namespace Rows
def none {H : Type} : Left H := { results := [], args := [] }

/-- 'armplanlaw21.CompactPacks': WHATEVER THE INPUT: true; the input reads as it did. -/
def compactPacksSpec : ChangeSpec := { name := "compactPacks", fn := fun _ => fun
  | [d1, d2, d3] => { results := [.lit (.bool true)], args := [d1, d2, d3] }
  | _ => none }
def compactPacksRow : OpenClaim := { program := "ytjbncekcklkjaaa", sum := "a78ee827a94cdc10c8ff310fce44947d8945f0df933f51872e26994ef819c01d", func := "armplan/armplanlaw21.CompactPacks", spec := "compactPacks", unfollowed := true, recurses := true, plainKeys := false, apart := false }
def CompactPacksSaid : Prop := compactPacksRow.holds Try.pinned (OpenSpec.ofChange compactPacksSpec)

/-- ITS FALSE NEIGHBOUR: 'it returns false'. Refute it at one input. -/
def compactPacksWrong : ChangeSpec := { name := "compactPacks", fn := fun _ => fun
  | [d1, d2, d3] => { results := [.lit (.bool false)], args := [d1, d2, d3] }
  | _ => none }
def CompactPacksWrongFalsely : Prop := compactPacksRow.holds Try.pinned (OpenSpec.ofChange compactPacksWrong)

/-- 'armplanlaw21.CompactRoundTrip': WHATEVER THE INPUT: true; the input reads as it did. -/
def compactRoundTripSpec : ChangeSpec := { name := "compactRoundTrip", fn := fun _ => fun
  | [d1, d2] => { results := [.lit (.bool true)], args := [d1, d2] }
  | _ => none }
def compactRoundTripRow : OpenClaim := { program := "ytjbncekcklkjaaa", sum := "a78ee827a94cdc10c8ff310fce44947d8945f0df933f51872e26994ef819c01d", func := "armplan/armplanlaw21.CompactRoundTrip", spec := "compactRoundTrip", unfollowed := true, recurses := true, plainKeys := false, apart := false }
def CompactRoundTripSaid : Prop := compactRoundTripRow.holds Try.pinned (OpenSpec.ofChange compactRoundTripSpec)

/-- ITS FALSE NEIGHBOUR: 'it returns false'. Refute it at one input. -/
def compactRoundTripWrong : ChangeSpec := { name := "compactRoundTrip", fn := fun _ => fun
  | [d1, d2] => { results := [.lit (.bool false)], args := [d1, d2] }
  | _ => none }
def CompactRoundTripWrongFalsely : Prop := compactRoundTripRow.holds Try.pinned (OpenSpec.ofChange compactRoundTripWrong)

/-- 'armplanlaw21.CompactLeast': WHATEVER THE INPUT: true; the input reads as it did. -/
def compactLeastSpec : ChangeSpec := { name := "compactLeast", fn := fun _ => fun
  | [d1, d2] => { results := [.lit (.bool true)], args := [d1, d2] }
  | _ => none }
def compactLeastRow : OpenClaim := { program := "ytjbncekcklkjaaa", sum := "a78ee827a94cdc10c8ff310fce44947d8945f0df933f51872e26994ef819c01d", func := "armplan/armplanlaw21.CompactLeast", spec := "compactLeast", unfollowed := true, recurses := true, plainKeys := false, apart := false }
def CompactLeastSaid : Prop := compactLeastRow.holds Try.pinned (OpenSpec.ofChange compactLeastSpec)

/-- ITS FALSE NEIGHBOUR: 'it returns false'. Refute it at one input. -/
def compactLeastWrong : ChangeSpec := { name := "compactLeast", fn := fun _ => fun
  | [d1, d2] => { results := [.lit (.bool false)], args := [d1, d2] }
  | _ => none }
def CompactLeastWrongFalsely : Prop := compactLeastRow.holds Try.pinned (OpenSpec.ofChange compactLeastWrong)

/-- 'armplanlaw26.SearchShortest': WHATEVER THE INPUT: true; the input reads as it did. -/
def searchShortestSpec : ChangeSpec := { name := "searchShortest", fn := fun _ => fun
  | [d1, d2, d3, d4, d5] => { results := [.lit (.bool true)], args := [d1, d2, d3, d4, d5] }
  | _ => none }
def searchShortestRow : OpenClaim := { program := "ytjbncekcklkjaaa", sum := "a78ee827a94cdc10c8ff310fce44947d8945f0df933f51872e26994ef819c01d", func := "armplan/armplanlaw26.SearchShortest", spec := "searchShortest", unfollowed := true, recurses := true, plainKeys := false, apart := false }
def SearchShortestSaid : Prop := searchShortestRow.holds Try.pinned (OpenSpec.ofChange searchShortestSpec)

/-- ITS FALSE NEIGHBOUR: 'it returns false'. Refute it at one input. -/
def searchShortestWrong : ChangeSpec := { name := "searchShortest", fn := fun _ => fun
  | [d1, d2, d3, d4, d5] => { results := [.lit (.bool false)], args := [d1, d2, d3, d4, d5] }
  | _ => none }
def SearchShortestWrongFalsely : Prop := searchShortestRow.holds Try.pinned (OpenSpec.ofChange searchShortestWrong)

/-- 'armplanlaw26.SearchNext': WHATEVER THE INPUT: true; the input reads as it did. -/
def searchNextSpec : ChangeSpec := { name := "searchNext", fn := fun _ => fun
  | [d1, d2, d3, d4] => { results := [.lit (.bool true)], args := [d1, d2, d3, d4] }
  | _ => none }
def searchNextRow : OpenClaim := { program := "ytjbncekcklkjaaa", sum := "a78ee827a94cdc10c8ff310fce44947d8945f0df933f51872e26994ef819c01d", func := "armplan/armplanlaw26.SearchNext", spec := "searchNext", unfollowed := true, recurses := true, plainKeys := false, apart := false }
def SearchNextSaid : Prop := searchNextRow.holds Try.pinned (OpenSpec.ofChange searchNextSpec)

/-- ITS FALSE NEIGHBOUR: 'it returns false'. Refute it at one input. -/
def searchNextWrong : ChangeSpec := { name := "searchNext", fn := fun _ => fun
  | [d1, d2, d3, d4] => { results := [.lit (.bool false)], args := [d1, d2, d3, d4] }
  | _ => none }
def SearchNextWrongFalsely : Prop := searchNextRow.holds Try.pinned (OpenSpec.ofChange searchNextWrong)

/-- 'armplanlaw26.SearchWalks': WHATEVER THE INPUT: true; the input reads as it did. -/
def searchWalksSpec : ChangeSpec := { name := "searchWalks", fn := fun _ => fun
  | [d1, d2, d3, d4, d5] => { results := [.lit (.bool true)], args := [d1, d2, d3, d4, d5] }
  | _ => none }
def searchWalksRow : OpenClaim := { program := "ytjbncekcklkjaaa", sum := "a78ee827a94cdc10c8ff310fce44947d8945f0df933f51872e26994ef819c01d", func := "armplan/armplanlaw26.SearchWalks", spec := "searchWalks", unfollowed := true, recurses := true, plainKeys := false, apart := false }
def SearchWalksSaid : Prop := searchWalksRow.holds Try.pinned (OpenSpec.ofChange searchWalksSpec)

/-- ITS FALSE NEIGHBOUR: 'it returns false'. Refute it at one input. -/
def searchWalksWrong : ChangeSpec := { name := "searchWalks", fn := fun _ => fun
  | [d1, d2, d3, d4, d5] => { results := [.lit (.bool false)], args := [d1, d2, d3, d4, d5] }
  | _ => none }
def SearchWalksWrongFalsely : Prop := searchWalksRow.holds Try.pinned (OpenSpec.ofChange searchWalksWrong)

/-- 'armplanlaw26.SearchModes': WHATEVER THE INPUT: true; the input reads as it did. -/
def searchModesSpec : ChangeSpec := { name := "searchModes", fn := fun _ => fun
  | [d1, d2, d3] => { results := [.lit (.bool true)], args := [d1, d2, d3] }
  | _ => none }
def searchModesRow : OpenClaim := { program := "ytjbncekcklkjaaa", sum := "a78ee827a94cdc10c8ff310fce44947d8945f0df933f51872e26994ef819c01d", func := "armplan/armplanlaw26.SearchModes", spec := "searchModes", unfollowed := true, recurses := true, plainKeys := false, apart := false }
def SearchModesSaid : Prop := searchModesRow.holds Try.pinned (OpenSpec.ofChange searchModesSpec)

/-- ITS FALSE NEIGHBOUR: 'it returns false'. Refute it at one input. -/
def searchModesWrong : ChangeSpec := { name := "searchModes", fn := fun _ => fun
  | [d1, d2, d3] => { results := [.lit (.bool false)], args := [d1, d2, d3] }
  | _ => none }
def SearchModesWrongFalsely : Prop := searchModesRow.holds Try.pinned (OpenSpec.ofChange searchModesWrong)

/- THE SECOND FORM. 'bulk': how many values and letters a reading holds, each counted each time it is reached (what is shared counts as often as it is met; a slice's spare places count too). A statement '..UptoSaid' is the law's where the arguments, and the package variables that the reading takes, are together of bulk at most 1048576: NARROWER than '..Said'. Prove '..Said' where nothing that the law and all that it calls make is longer than what came in: it says more and counts as full. Else prove '..UptoSaid'. A law counts once. -/
mutual
def uptoBulk {H : Type} : DataW H → Nat
  | .lit (.string bytes) => bytes.length + 1
  | .lit _ => 1
  | .nil => 1
  | .ptr d => uptoBulk d + 1
  | .slice elems spare => uptoBulkAll elems + uptoBulkAll spare + 1
  | .agg parts => uptoBulkAll parts + 1
  | .iface _ d => uptoBulk d + 1
  | .map entries => uptoBulkEntries entries + 1
  | .held _ => 1
def uptoBulkAll {H : Type} : List (DataW H) → Nat
  | [] => 0
  | d :: r => uptoBulk d + uptoBulkAll r
def uptoBulkEntries {H : Type} : List (Lit × DataW H) → Nat
  | [] => 0
  | x :: r => uptoBulkEntry x + uptoBulkEntries r
def uptoBulkEntry {H : Type} : Lit × DataW H → Nat
  | (.string bytes, d) => bytes.length + uptoBulk d + 1
  | (_, d) => uptoBulk d + 1
 end
def uptoSmall : (H : Type) → List (DataW H) → Bool := fun _ ds => decide (uptoBulkAll ds ≤ 1048576)
def OpenSpec.upto (s : _root_.Go.ChangeSpec) : _root_.Go.OpenSpec := { _root_.Go.OpenSpec.ofChange s with cond := some uptoSmall }

/-- 'armplanlaw21.CompactPacks', WHERE WHAT IT READS IS OF BULK AT MOST 1048576: true; the input reads as it did. -/
def compactPacksUptoRow : OpenClaim := { program := "ytjbncekcklkjaaa", sum := "a78ee827a94cdc10c8ff310fce44947d8945f0df933f51872e26994ef819c01d", func := "armplan/armplanlaw21.CompactPacks", spec := "compactPacks", unfollowed := true, recurses := true, plainKeys := false, apart := false, narrowed := true }
def CompactPacksUptoSaid : Prop := compactPacksUptoRow.holds Try.pinned (OpenSpec.upto compactPacksSpec)

/-- 'armplanlaw21.CompactRoundTrip', WHERE WHAT IT READS IS OF BULK AT MOST 1048576: true; the input reads as it did. -/
def compactRoundTripUptoRow : OpenClaim := { program := "ytjbncekcklkjaaa", sum := "a78ee827a94cdc10c8ff310fce44947d8945f0df933f51872e26994ef819c01d", func := "armplan/armplanlaw21.CompactRoundTrip", spec := "compactRoundTrip", unfollowed := true, recurses := true, plainKeys := false, apart := false, narrowed := true }
def CompactRoundTripUptoSaid : Prop := compactRoundTripUptoRow.holds Try.pinned (OpenSpec.upto compactRoundTripSpec)

/-- 'armplanlaw21.CompactLeast', WHERE WHAT IT READS IS OF BULK AT MOST 1048576: true; the input reads as it did. -/
def compactLeastUptoRow : OpenClaim := { program := "ytjbncekcklkjaaa", sum := "a78ee827a94cdc10c8ff310fce44947d8945f0df933f51872e26994ef819c01d", func := "armplan/armplanlaw21.CompactLeast", spec := "compactLeast", unfollowed := true, recurses := true, plainKeys := false, apart := false, narrowed := true }
def CompactLeastUptoSaid : Prop := compactLeastUptoRow.holds Try.pinned (OpenSpec.upto compactLeastSpec)

/-- 'armplanlaw26.SearchShortest', WHERE WHAT IT READS IS OF BULK AT MOST 1048576: true; the input reads as it did. -/
def searchShortestUptoRow : OpenClaim := { program := "ytjbncekcklkjaaa", sum := "a78ee827a94cdc10c8ff310fce44947d8945f0df933f51872e26994ef819c01d", func := "armplan/armplanlaw26.SearchShortest", spec := "searchShortest", unfollowed := true, recurses := true, plainKeys := false, apart := false, narrowed := true }
def SearchShortestUptoSaid : Prop := searchShortestUptoRow.holds Try.pinned (OpenSpec.upto searchShortestSpec)

/-- 'armplanlaw26.SearchNext', WHERE WHAT IT READS IS OF BULK AT MOST 1048576: true; the input reads as it did. -/
def searchNextUptoRow : OpenClaim := { program := "ytjbncekcklkjaaa", sum := "a78ee827a94cdc10c8ff310fce44947d8945f0df933f51872e26994ef819c01d", func := "armplan/armplanlaw26.SearchNext", spec := "searchNext", unfollowed := true, recurses := true, plainKeys := false, apart := false, narrowed := true }
def SearchNextUptoSaid : Prop := searchNextUptoRow.holds Try.pinned (OpenSpec.upto searchNextSpec)

/-- 'armplanlaw26.SearchWalks', WHERE WHAT IT READS IS OF BULK AT MOST 1048576: true; the input reads as it did. -/
def searchWalksUptoRow : OpenClaim := { program := "ytjbncekcklkjaaa", sum := "a78ee827a94cdc10c8ff310fce44947d8945f0df933f51872e26994ef819c01d", func := "armplan/armplanlaw26.SearchWalks", spec := "searchWalks", unfollowed := true, recurses := true, plainKeys := false, apart := false, narrowed := true }
def SearchWalksUptoSaid : Prop := searchWalksUptoRow.holds Try.pinned (OpenSpec.upto searchWalksSpec)

/-- 'armplanlaw26.SearchModes', WHERE WHAT IT READS IS OF BULK AT MOST 1048576: true; the input reads as it did. -/
def searchModesUptoRow : OpenClaim := { program := "ytjbncekcklkjaaa", sum := "a78ee827a94cdc10c8ff310fce44947d8945f0df933f51872e26994ef819c01d", func := "armplan/armplanlaw26.SearchModes", spec := "searchModes", unfollowed := true, recurses := true, plainKeys := false, apart := false, narrowed := true }
def SearchModesUptoSaid : Prop := searchModesUptoRow.holds Try.pinned (OpenSpec.upto searchModesSpec)

end Rows
end Go.Proofs.Ytjbncekcklkjaaa
