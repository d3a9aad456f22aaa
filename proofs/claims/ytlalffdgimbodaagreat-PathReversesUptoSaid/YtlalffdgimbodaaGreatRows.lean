/-
  No cell of these rows narrows 'for every input' (looked for: loops, veiled, ifaces, maps, wideKeys, modest, calm, conditions, laid).
  DERIVED. THE GIVEN ROWS OF THIS SEAT. 3 by the template 'for every input the law returns true; each argument reads behind the call as it read before'; 0 by the template 'total and deterministic' (their statements: YtlalffdgimbodaaGreatTotals.lean).
  GIVEN WITH THE SEED: the statements are not yours to turn. If you find one false, say at which input.
  Laid BY PROGRAM, IN A SANDBOX (cutbox-rows.mjs): the forced cells as the released guide's own fill.sh prints them over the translation 51331e6f67cfddf1… (all of the seat's roots in one cut). By AI agents, Wed Nov 11 2026. No macro, syntax, notation, axiom, sorry.
-/
import Derived.Test.YtlalffdgimbodaaGreatChecked
import GoSem.Claim
import GoSem.ClaimJoined
import GoSem.ClaimMapViews
import Derived.JoinedTies
import Derived.KernelRfl
namespace Go.Proofs.YtlalffdgimbodaaGreat
/- THE CELL 'sum', in the pinned program and in every row, IS THE sha256 OF THE DUMP (.gsa) THAT YtlalffdgimbodaaGreatProg.lean LOADS. Nothing in Lean hashes anything: it is a label: what it is worth is what the hold of that sum in a sandbox is worth. -/
noncomputable def Tryz.pinned : Pinned := { name := "ytlalffdgimbodaagreat", sum := "51331e6f67cfddf1a76b35277d03aaf09fdf2bb34103cb87a69c69b0dd5cd15f", checked := Tryz.checked }
namespace Rows
def none {H : Type} : Left H := { results := [], args := [] }

/-- 'armplanlaw22.PathBuilds': WHATEVER THE INPUT: true; the input reads as it did. -/
def pathBuildsSpec : ChangeSpec := { name := "pathBuilds", fn := fun _ => fun
  | [d1, d2, d3, d4, d5] => { results := [.lit (.bool true)], args := [d1, d2, d3, d4, d5] }
  | _ => none }
def pathBuildsRow : OpenClaim := { program := "ytlalffdgimbodaagreat", sum := "51331e6f67cfddf1a76b35277d03aaf09fdf2bb34103cb87a69c69b0dd5cd15f", func := "armplan/armplanlaw22.PathBuilds", spec := "pathBuilds", unfollowed := true, recurses := true, plainKeys := false, apart := false }
def PathBuildsSaid : Prop := pathBuildsRow.holds Tryz.pinned (OpenSpec.ofChange pathBuildsSpec)

/-- ITS FALSE NEIGHBOUR: 'it returns false'. Refute it at one input. -/
def pathBuildsWrong : ChangeSpec := { name := "pathBuilds", fn := fun _ => fun
  | [d1, d2, d3, d4, d5] => { results := [.lit (.bool false)], args := [d1, d2, d3, d4, d5] }
  | _ => none }
def PathBuildsWrongFalsely : Prop := pathBuildsRow.holds Tryz.pinned (OpenSpec.ofChange pathBuildsWrong)

/-- 'armplanlaw22.PathReverses': WHATEVER THE INPUT: true; the input reads as it did. -/
def pathReversesSpec : ChangeSpec := { name := "pathReverses", fn := fun _ => fun
  | [d1, d2, d3, d4, d5, d6, d7] => { results := [.lit (.bool true)], args := [d1, d2, d3, d4, d5, d6, d7] }
  | _ => none }
def pathReversesRow : OpenClaim := { program := "ytlalffdgimbodaagreat", sum := "51331e6f67cfddf1a76b35277d03aaf09fdf2bb34103cb87a69c69b0dd5cd15f", func := "armplan/armplanlaw22.PathReverses", spec := "pathReverses", unfollowed := true, recurses := true, plainKeys := false, apart := false }
def PathReversesSaid : Prop := pathReversesRow.holds Tryz.pinned (OpenSpec.ofChange pathReversesSpec)

/-- ITS FALSE NEIGHBOUR: 'it returns false'. Refute it at one input. -/
def pathReversesWrong : ChangeSpec := { name := "pathReverses", fn := fun _ => fun
  | [d1, d2, d3, d4, d5, d6, d7] => { results := [.lit (.bool false)], args := [d1, d2, d3, d4, d5, d6, d7] }
  | _ => none }
def PathReversesWrongFalsely : Prop := pathReversesRow.holds Tryz.pinned (OpenSpec.ofChange pathReversesWrong)

/-- 'armplanlaw22.PathShortens': WHATEVER THE INPUT: true; the input reads as it did. -/
def pathShortensSpec : ChangeSpec := { name := "pathShortens", fn := fun _ => fun
  | [d1, d2, d3, d4, d5, d6, d7, d8] => { results := [.lit (.bool true)], args := [d1, d2, d3, d4, d5, d6, d7, d8] }
  | _ => none }
def pathShortensRow : OpenClaim := { program := "ytlalffdgimbodaagreat", sum := "51331e6f67cfddf1a76b35277d03aaf09fdf2bb34103cb87a69c69b0dd5cd15f", func := "armplan/armplanlaw22.PathShortens", spec := "pathShortens", unfollowed := true, recurses := true, plainKeys := false, apart := false }
def PathShortensSaid : Prop := pathShortensRow.holds Tryz.pinned (OpenSpec.ofChange pathShortensSpec)

/-- ITS FALSE NEIGHBOUR: 'it returns false'. Refute it at one input. -/
def pathShortensWrong : ChangeSpec := { name := "pathShortens", fn := fun _ => fun
  | [d1, d2, d3, d4, d5, d6, d7, d8] => { results := [.lit (.bool false)], args := [d1, d2, d3, d4, d5, d6, d7, d8] }
  | _ => none }
def PathShortensWrongFalsely : Prop := pathShortensRow.holds Tryz.pinned (OpenSpec.ofChange pathShortensWrong)

/- THE SECOND FORM. 'bulk': how many values and letters a reading holds, each counted each time it is reached (what is shared counts as often as it is met; a slice's spare places count too). A statement '..UptoSaid' is the law's where the arguments, and the package variables that the reading takes, are together of bulk at most 1048576: NARROWER than '..Said'. Prove '..Said' where nothing that the law and all that it calls make is longer than what came in: it says more and counts as full. Else prove '..UptoSaid'. A law counts once. -/
mutual
def uptoBulk {H : Type} : DataW H → Nat
  | .lit (.string bytes) => bytes.length + 1
  | .lit _ => 1
  | .nil => 1
  | .ptr d => uptoBulk d + 1
  | .slice elems spare => uptoBulkAll elems + uptoBulkAll spare + 1
  | .agg parts => uptoBulkAll parts + 1
  | .iface _ d => uptoBulk d + 1
  | .map entries => uptoBulkEntries entries + 1
  | .held _ => 1
def uptoBulkAll {H : Type} : List (DataW H) → Nat
  | [] => 0
  | d :: r => uptoBulk d + uptoBulkAll r
def uptoBulkEntries {H : Type} : List (Lit × DataW H) → Nat
  | [] => 0
  | x :: r => uptoBulkEntry x + uptoBulkEntries r
def uptoBulkEntry {H : Type} : Lit × DataW H → Nat
  | (.string bytes, d) => bytes.length + uptoBulk d + 1
  | (_, d) => uptoBulk d + 1
 end
def uptoSmall : (H : Type) → List (DataW H) → Bool := fun _ ds => decide (uptoBulkAll ds ≤ 1048576)
def OpenSpec.upto (s : _root_.Go.ChangeSpec) : _root_.Go.OpenSpec := { _root_.Go.OpenSpec.ofChange s with cond := some uptoSmall }

/-- 'armplanlaw22.PathBuilds', WHERE WHAT IT READS IS OF BULK AT MOST 1048576: true; the input reads as it did. -/
def pathBuildsUptoRow : OpenClaim := { program := "ytlalffdgimbodaagreat", sum := "51331e6f67cfddf1a76b35277d03aaf09fdf2bb34103cb87a69c69b0dd5cd15f", func := "armplan/armplanlaw22.PathBuilds", spec := "pathBuilds", unfollowed := true, recurses := true, plainKeys := false, apart := false, narrowed := true }
def PathBuildsUptoSaid : Prop := pathBuildsUptoRow.holds Tryz.pinned (OpenSpec.upto pathBuildsSpec)

/-- 'armplanlaw22.PathReverses', WHERE WHAT IT READS IS OF BULK AT MOST 1048576: true; the input reads as it did. -/
def pathReversesUptoRow : OpenClaim := { program := "ytlalffdgimbodaagreat", sum := "51331e6f67cfddf1a76b35277d03aaf09fdf2bb34103cb87a69c69b0dd5cd15f", func := "armplan/armplanlaw22.PathReverses", spec := "pathReverses", unfollowed := true, recurses := true, plainKeys := false, apart := false, narrowed := true }
def PathReversesUptoSaid : Prop := pathReversesUptoRow.holds Tryz.pinned (OpenSpec.upto pathReversesSpec)

/-- 'armplanlaw22.PathShortens', WHERE WHAT IT READS IS OF BULK AT MOST 1048576: true; the input reads as it did. -/
def pathShortensUptoRow : OpenClaim := { program := "ytlalffdgimbodaagreat", sum := "51331e6f67cfddf1a76b35277d03aaf09fdf2bb34103cb87a69c69b0dd5cd15f", func := "armplan/armplanlaw22.PathShortens", spec := "pathShortens", unfollowed := true, recurses := true, plainKeys := false, apart := false, narrowed := true }
def PathShortensUptoSaid : Prop := pathShortensUptoRow.holds Tryz.pinned (OpenSpec.upto pathShortensSpec)

end Rows
end Go.Proofs.YtlalffdgimbodaaGreat
