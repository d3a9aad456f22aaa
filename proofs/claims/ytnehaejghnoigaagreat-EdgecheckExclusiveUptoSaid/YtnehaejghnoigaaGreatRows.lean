/-
  No cell of these rows narrows 'for every input' (looked for: loops, veiled, ifaces, maps, wideKeys, modest, calm, conditions, laid).
  DERIVED. THE GIVEN ROWS OF THIS SEAT. 12 by the template 'for every input the law returns true; each argument reads behind the call as it read before'; 0 by the template 'total and deterministic' (their statements: YtnehaejghnoigaaGreatTotals.lean).
  GIVEN WITH THE SEED: the statements are not yours to turn. If you find one false, say at which input.
  Laid BY PROGRAM, IN A SANDBOX (cutbox-rows.mjs): the forced cells as the released guide's own fill.sh prints them over the translation 08e738991cd63030… (all of the seat's roots in one cut). By AI agents, Wed Nov 11 2026. No macro, syntax, notation, axiom, sorry.
-/
import Derived.Test.YtnehaejghnoigaaGreatChecked
import GoSem.Claim
import GoSem.ClaimJoined
import GoSem.ClaimMapViews
import Derived.JoinedTies
import Derived.KernelRfl
namespace Go.Proofs.YtnehaejghnoigaaGreat
/- THE CELL 'sum', in the pinned program and in every row, IS THE sha256 OF THE DUMP (.gsa) THAT YtnehaejghnoigaaGreatProg.lean LOADS. Nothing in Lean hashes anything: it is a label: what it is worth is what the hold of that sum in a sandbox is worth. -/
noncomputable def Tryz.pinned : Pinned := { name := "ytnehaejghnoigaagreat", sum := "08e738991cd63030720b1ca5ffc5da25080685329dcf46f3b472f7460266d032", checked := Tryz.checked }
namespace Rows
def none {H : Type} : Left H := { results := [], args := [] }

/-- 'armplanlaw20.EdgecheckTiles': WHATEVER THE INPUT: true; the input reads as it did. -/
def edgecheckTilesSpec : ChangeSpec := { name := "edgecheckTiles", fn := fun _ => fun
  | [d1, d2, d3, d4, d5, d6, d7, d8, d9, d10, d11] => { results := [.lit (.bool true)], args := [d1, d2, d3, d4, d5, d6, d7, d8, d9, d10, d11] }
  | _ => none }
def edgecheckTilesRow : OpenClaim := { program := "ytnehaejghnoigaagreat", sum := "08e738991cd63030720b1ca5ffc5da25080685329dcf46f3b472f7460266d032", func := "armplan/armplanlaw20.EdgecheckTiles", spec := "edgecheckTiles", unfollowed := true, recurses := true, plainKeys := false, apart := false }
def EdgecheckTilesSaid : Prop := edgecheckTilesRow.holds Tryz.pinned (OpenSpec.ofChange edgecheckTilesSpec)

/-- ITS FALSE NEIGHBOUR: 'it returns false'. Refute it at one input. -/
def edgecheckTilesWrong : ChangeSpec := { name := "edgecheckTiles", fn := fun _ => fun
  | [d1, d2, d3, d4, d5, d6, d7, d8, d9, d10, d11] => { results := [.lit (.bool false)], args := [d1, d2, d3, d4, d5, d6, d7, d8, d9, d10, d11] }
  | _ => none }
def EdgecheckTilesWrongFalsely : Prop := edgecheckTilesRow.holds Tryz.pinned (OpenSpec.ofChange edgecheckTilesWrong)

/-- 'armplanlaw20.EdgecheckAccepts': WHATEVER THE INPUT: true; the input reads as it did. -/
def edgecheckAcceptsSpec : ChangeSpec := { name := "edgecheckAccepts", fn := fun _ => fun
  | [d1, d2, d3, d4, d5, d6, d7, d8, d9, d10, d11] => { results := [.lit (.bool true)], args := [d1, d2, d3, d4, d5, d6, d7, d8, d9, d10, d11] }
  | _ => none }
def edgecheckAcceptsRow : OpenClaim := { program := "ytnehaejghnoigaagreat", sum := "08e738991cd63030720b1ca5ffc5da25080685329dcf46f3b472f7460266d032", func := "armplan/armplanlaw20.EdgecheckAccepts", spec := "edgecheckAccepts", unfollowed := true, recurses := true, plainKeys := false, apart := false }
def EdgecheckAcceptsSaid : Prop := edgecheckAcceptsRow.holds Tryz.pinned (OpenSpec.ofChange edgecheckAcceptsSpec)

/-- ITS FALSE NEIGHBOUR: 'it returns false'. Refute it at one input. -/
def edgecheckAcceptsWrong : ChangeSpec := { name := "edgecheckAccepts", fn := fun _ => fun
  | [d1, d2, d3, d4, d5, d6, d7, d8, d9, d10, d11] => { results := [.lit (.bool false)], args := [d1, d2, d3, d4, d5, d6, d7, d8, d9, d10, d11] }
  | _ => none }
def EdgecheckAcceptsWrongFalsely : Prop := edgecheckAcceptsRow.holds Tryz.pinned (OpenSpec.ofChange edgecheckAcceptsWrong)

/-- 'armplanlaw21.CompactMerges': WHATEVER THE INPUT: true; the input reads as it did. -/
def compactMergesSpec : ChangeSpec := { name := "compactMerges", fn := fun _ => fun
  | [d1, d2, d3, d4, d5, d6, d7, d8] => { results := [.lit (.bool true)], args := [d1, d2, d3, d4, d5, d6, d7, d8] }
  | _ => none }
def compactMergesRow : OpenClaim := { program := "ytnehaejghnoigaagreat", sum := "08e738991cd63030720b1ca5ffc5da25080685329dcf46f3b472f7460266d032", func := "armplan/armplanlaw21.CompactMerges", spec := "compactMerges", unfollowed := true, recurses := true, plainKeys := false, apart := false }
def CompactMergesSaid : Prop := compactMergesRow.holds Tryz.pinned (OpenSpec.ofChange compactMergesSpec)

/-- ITS FALSE NEIGHBOUR: 'it returns false'. Refute it at one input. -/
def compactMergesWrong : ChangeSpec := { name := "compactMerges", fn := fun _ => fun
  | [d1, d2, d3, d4, d5, d6, d7, d8] => { results := [.lit (.bool false)], args := [d1, d2, d3, d4, d5, d6, d7, d8] }
  | _ => none }
def CompactMergesWrongFalsely : Prop := compactMergesRow.holds Tryz.pinned (OpenSpec.ofChange compactMergesWrong)

/-- 'armplanlaw19.EdgeProves': WHATEVER THE INPUT: true; the input reads as it did. -/
def edgeProvesSpec : ChangeSpec := { name := "edgeProves", fn := fun _ => fun
  | [d1, d2, d3, d4, d5, d6, d7] => { results := [.lit (.bool true)], args := [d1, d2, d3, d4, d5, d6, d7] }
  | _ => none }
def edgeProvesRow : OpenClaim := { program := "ytnehaejghnoigaagreat", sum := "08e738991cd63030720b1ca5ffc5da25080685329dcf46f3b472f7460266d032", func := "armplan/armplanlaw19.EdgeProves", spec := "edgeProves", unfollowed := true, recurses := true, plainKeys := false, apart := false }
def EdgeProvesSaid : Prop := edgeProvesRow.holds Tryz.pinned (OpenSpec.ofChange edgeProvesSpec)

/-- ITS FALSE NEIGHBOUR: 'it returns false'. Refute it at one input. -/
def edgeProvesWrong : ChangeSpec := { name := "edgeProves", fn := fun _ => fun
  | [d1, d2, d3, d4, d5, d6, d7] => { results := [.lit (.bool false)], args := [d1, d2, d3, d4, d5, d6, d7] }
  | _ => none }
def EdgeProvesWrongFalsely : Prop := edgeProvesRow.holds Tryz.pinned (OpenSpec.ofChange edgeProvesWrong)

/-- 'armplanlaw19.EdgeDeeper': WHATEVER THE INPUT: true; the input reads as it did. -/
def edgeDeeperSpec : ChangeSpec := { name := "edgeDeeper", fn := fun _ => fun
  | [d1, d2, d3, d4, d5] => { results := [.lit (.bool true)], args := [d1, d2, d3, d4, d5] }
  | _ => none }
def edgeDeeperRow : OpenClaim := { program := "ytnehaejghnoigaagreat", sum := "08e738991cd63030720b1ca5ffc5da25080685329dcf46f3b472f7460266d032", func := "armplan/armplanlaw19.EdgeDeeper", spec := "edgeDeeper", unfollowed := true, recurses := true, plainKeys := false, apart := false }
def EdgeDeeperSaid : Prop := edgeDeeperRow.holds Tryz.pinned (OpenSpec.ofChange edgeDeeperSpec)

/-- ITS FALSE NEIGHBOUR: 'it returns false'. Refute it at one input. -/
def edgeDeeperWrong : ChangeSpec := { name := "edgeDeeper", fn := fun _ => fun
  | [d1, d2, d3, d4, d5] => { results := [.lit (.bool false)], args := [d1, d2, d3, d4, d5] }
  | _ => none }
def EdgeDeeperWrongFalsely : Prop := edgeDeeperRow.holds Tryz.pinned (OpenSpec.ofChange edgeDeeperWrong)

/-- 'armplanlaw19.EdgeCovers': WHATEVER THE INPUT: true; the input reads as it did. -/
def edgeCoversSpec : ChangeSpec := { name := "edgeCovers", fn := fun _ => fun
  | [d1, d2, d3, d4] => { results := [.lit (.bool true)], args := [d1, d2, d3, d4] }
  | _ => none }
def edgeCoversRow : OpenClaim := { program := "ytnehaejghnoigaagreat", sum := "08e738991cd63030720b1ca5ffc5da25080685329dcf46f3b472f7460266d032", func := "armplan/armplanlaw19.EdgeCovers", spec := "edgeCovers", unfollowed := true, recurses := true, plainKeys := false, apart := false }
def EdgeCoversSaid : Prop := edgeCoversRow.holds Tryz.pinned (OpenSpec.ofChange edgeCoversSpec)

/-- ITS FALSE NEIGHBOUR: 'it returns false'. Refute it at one input. -/
def edgeCoversWrong : ChangeSpec := { name := "edgeCovers", fn := fun _ => fun
  | [d1, d2, d3, d4] => { results := [.lit (.bool false)], args := [d1, d2, d3, d4] }
  | _ => none }
def EdgeCoversWrongFalsely : Prop := edgeCoversRow.holds Tryz.pinned (OpenSpec.ofChange edgeCoversWrong)

/-- 'armplanlaw19.EdgePoint': WHATEVER THE INPUT: true; the input reads as it did. -/
def edgePointSpec : ChangeSpec := { name := "edgePoint", fn := fun _ => fun
  | [d1, d2, d3] => { results := [.lit (.bool true)], args := [d1, d2, d3] }
  | _ => none }
def edgePointRow : OpenClaim := { program := "ytnehaejghnoigaagreat", sum := "08e738991cd63030720b1ca5ffc5da25080685329dcf46f3b472f7460266d032", func := "armplan/armplanlaw19.EdgePoint", spec := "edgePoint", unfollowed := true, recurses := true, plainKeys := false, apart := false }
def EdgePointSaid : Prop := edgePointRow.holds Tryz.pinned (OpenSpec.ofChange edgePointSpec)

/-- ITS FALSE NEIGHBOUR: 'it returns false'. Refute it at one input. -/
def edgePointWrong : ChangeSpec := { name := "edgePoint", fn := fun _ => fun
  | [d1, d2, d3] => { results := [.lit (.bool false)], args := [d1, d2, d3] }
  | _ => none }
def EdgePointWrongFalsely : Prop := edgePointRow.holds Tryz.pinned (OpenSpec.ofChange edgePointWrong)

/-- 'armplanlaw19.EdgeInstant': WHATEVER THE INPUT: true; the input reads as it did. -/
def edgeInstantSpec : ChangeSpec := { name := "edgeInstant", fn := fun _ => fun
  | [d1, d2, d3, d4, d5, d6, d7] => { results := [.lit (.bool true)], args := [d1, d2, d3, d4, d5, d6, d7] }
  | _ => none }
def edgeInstantRow : OpenClaim := { program := "ytnehaejghnoigaagreat", sum := "08e738991cd63030720b1ca5ffc5da25080685329dcf46f3b472f7460266d032", func := "armplan/armplanlaw19.EdgeInstant", spec := "edgeInstant", unfollowed := true, recurses := true, plainKeys := false, apart := false }
def EdgeInstantSaid : Prop := edgeInstantRow.holds Tryz.pinned (OpenSpec.ofChange edgeInstantSpec)

/-- ITS FALSE NEIGHBOUR: 'it returns false'. Refute it at one input. -/
def edgeInstantWrong : ChangeSpec := { name := "edgeInstant", fn := fun _ => fun
  | [d1, d2, d3, d4, d5, d6, d7] => { results := [.lit (.bool false)], args := [d1, d2, d3, d4, d5, d6, d7] }
  | _ => none }
def EdgeInstantWrongFalsely : Prop := edgeInstantRow.holds Tryz.pinned (OpenSpec.ofChange edgeInstantWrong)

/-- 'armplanlaw19.EdgeCollides': WHATEVER THE INPUT: true; the input reads as it did. -/
def edgeCollidesSpec : ChangeSpec := { name := "edgeCollides", fn := fun _ => fun
  | [d1, d2, d3, d4, d5, d6] => { results := [.lit (.bool true)], args := [d1, d2, d3, d4, d5, d6] }
  | _ => none }
def edgeCollidesRow : OpenClaim := { program := "ytnehaejghnoigaagreat", sum := "08e738991cd63030720b1ca5ffc5da25080685329dcf46f3b472f7460266d032", func := "armplan/armplanlaw19.EdgeCollides", spec := "edgeCollides", unfollowed := true, recurses := true, plainKeys := false, apart := false }
def EdgeCollidesSaid : Prop := edgeCollidesRow.holds Tryz.pinned (OpenSpec.ofChange edgeCollidesSpec)

/-- ITS FALSE NEIGHBOUR: 'it returns false'. Refute it at one input. -/
def edgeCollidesWrong : ChangeSpec := { name := "edgeCollides", fn := fun _ => fun
  | [d1, d2, d3, d4, d5, d6] => { results := [.lit (.bool false)], args := [d1, d2, d3, d4, d5, d6] }
  | _ => none }
def EdgeCollidesWrongFalsely : Prop := edgeCollidesRow.holds Tryz.pinned (OpenSpec.ofChange edgeCollidesWrong)

/-- 'armplanlaw20.EdgecheckReverses': WHATEVER THE INPUT: true; the input reads as it did. -/
def edgecheckReversesSpec : ChangeSpec := { name := "edgecheckReverses", fn := fun _ => fun
  | [d1, d2, d3, d4, d5, d6, d7] => { results := [.lit (.bool true)], args := [d1, d2, d3, d4, d5, d6, d7] }
  | _ => none }
def edgecheckReversesRow : OpenClaim := { program := "ytnehaejghnoigaagreat", sum := "08e738991cd63030720b1ca5ffc5da25080685329dcf46f3b472f7460266d032", func := "armplan/armplanlaw20.EdgecheckReverses", spec := "edgecheckReverses", unfollowed := true, recurses := true, plainKeys := false, apart := false }
def EdgecheckReversesSaid : Prop := edgecheckReversesRow.holds Tryz.pinned (OpenSpec.ofChange edgecheckReversesSpec)

/-- ITS FALSE NEIGHBOUR: 'it returns false'. Refute it at one input. -/
def edgecheckReversesWrong : ChangeSpec := { name := "edgecheckReverses", fn := fun _ => fun
  | [d1, d2, d3, d4, d5, d6, d7] => { results := [.lit (.bool false)], args := [d1, d2, d3, d4, d5, d6, d7] }
  | _ => none }
def EdgecheckReversesWrongFalsely : Prop := edgecheckReversesRow.holds Tryz.pinned (OpenSpec.ofChange edgecheckReversesWrong)

/-- 'armplanlaw20.EdgecheckInstant': WHATEVER THE INPUT: true; the input reads as it did. -/
def edgecheckInstantSpec : ChangeSpec := { name := "edgecheckInstant", fn := fun _ => fun
  | [d1, d2, d3, d4, d5, d6, d7] => { results := [.lit (.bool true)], args := [d1, d2, d3, d4, d5, d6, d7] }
  | _ => none }
def edgecheckInstantRow : OpenClaim := { program := "ytnehaejghnoigaagreat", sum := "08e738991cd63030720b1ca5ffc5da25080685329dcf46f3b472f7460266d032", func := "armplan/armplanlaw20.EdgecheckInstant", spec := "edgecheckInstant", unfollowed := true, recurses := true, plainKeys := false, apart := false }
def EdgecheckInstantSaid : Prop := edgecheckInstantRow.holds Tryz.pinned (OpenSpec.ofChange edgecheckInstantSpec)

/-- ITS FALSE NEIGHBOUR: 'it returns false'. Refute it at one input. -/
def edgecheckInstantWrong : ChangeSpec := { name := "edgecheckInstant", fn := fun _ => fun
  | [d1, d2, d3, d4, d5, d6, d7] => { results := [.lit (.bool false)], args := [d1, d2, d3, d4, d5, d6, d7] }
  | _ => none }
def EdgecheckInstantWrongFalsely : Prop := edgecheckInstantRow.holds Tryz.pinned (OpenSpec.ofChange edgecheckInstantWrong)

/-- 'armplanlaw20.EdgecheckExclusive': WHATEVER THE INPUT: true; the input reads as it did. -/
def edgecheckExclusiveSpec : ChangeSpec := { name := "edgecheckExclusive", fn := fun _ => fun
  | [d1, d2, d3, d4, d5, d6, d7, d8, d9, d10] => { results := [.lit (.bool true)], args := [d1, d2, d3, d4, d5, d6, d7, d8, d9, d10] }
  | _ => none }
def edgecheckExclusiveRow : OpenClaim := { program := "ytnehaejghnoigaagreat", sum := "08e738991cd63030720b1ca5ffc5da25080685329dcf46f3b472f7460266d032", func := "armplan/armplanlaw20.EdgecheckExclusive", spec := "edgecheckExclusive", unfollowed := true, recurses := true, plainKeys := false, apart := false }
def EdgecheckExclusiveSaid : Prop := edgecheckExclusiveRow.holds Tryz.pinned (OpenSpec.ofChange edgecheckExclusiveSpec)

/-- ITS FALSE NEIGHBOUR: 'it returns false'. Refute it at one input. -/
def edgecheckExclusiveWrong : ChangeSpec := { name := "edgecheckExclusive", fn := fun _ => fun
  | [d1, d2, d3, d4, d5, d6, d7, d8, d9, d10] => { results := [.lit (.bool false)], args := [d1, d2, d3, d4, d5, d6, d7, d8, d9, d10] }
  | _ => none }
def EdgecheckExclusiveWrongFalsely : Prop := edgecheckExclusiveRow.holds Tryz.pinned (OpenSpec.ofChange edgecheckExclusiveWrong)

/- THE SECOND FORM. 'bulk': how many values and letters a reading holds, each counted each time it is reached (what is shared counts as often as it is met; a slice's spare places count too). A statement '..UptoSaid' is the law's where the arguments, and the package variables that the reading takes, are together of bulk at most 1048576: NARROWER than '..Said'. Prove '..Said' where nothing that the law and all that it calls make is longer than what came in: it says more and counts as full. Else prove '..UptoSaid'. A law counts once. -/
mutual
def uptoBulk {H : Type} : DataW H → Nat
  | .lit (.string bytes) => bytes.length + 1
  | .lit _ => 1
  | .nil => 1
  | .ptr d => uptoBulk d + 1
  | .slice elems spare => uptoBulkAll elems + uptoBulkAll spare + 1
  | .agg parts => uptoBulkAll parts + 1
  | .iface _ d => uptoBulk d + 1
  | .map entries => uptoBulkEntries entries + 1
  | .held _ => 1
def uptoBulkAll {H : Type} : List (DataW H) → Nat
  | [] => 0
  | d :: r => uptoBulk d + uptoBulkAll r
def uptoBulkEntries {H : Type} : List (Lit × DataW H) → Nat
  | [] => 0
  | x :: r => uptoBulkEntry x + uptoBulkEntries r
def uptoBulkEntry {H : Type} : Lit × DataW H → Nat
  | (.string bytes, d) => bytes.length + uptoBulk d + 1
  | (_, d) => uptoBulk d + 1
 end
def uptoSmall : (H : Type) → List (DataW H) → Bool := fun _ ds => decide (uptoBulkAll ds ≤ 1048576)
def OpenSpec.upto (s : _root_.Go.ChangeSpec) : _root_.Go.OpenSpec := { _root_.Go.OpenSpec.ofChange s with cond := some uptoSmall }

/-- 'armplanlaw20.EdgecheckTiles', WHERE WHAT IT READS IS OF BULK AT MOST 1048576: true; the input reads as it did. -/
def edgecheckTilesUptoRow : OpenClaim := { program := "ytnehaejghnoigaagreat", sum := "08e738991cd63030720b1ca5ffc5da25080685329dcf46f3b472f7460266d032", func := "armplan/armplanlaw20.EdgecheckTiles", spec := "edgecheckTiles", unfollowed := true, recurses := true, plainKeys := false, apart := false, narrowed := true }
def EdgecheckTilesUptoSaid : Prop := edgecheckTilesUptoRow.holds Tryz.pinned (OpenSpec.upto edgecheckTilesSpec)

/-- 'armplanlaw20.EdgecheckAccepts', WHERE WHAT IT READS IS OF BULK AT MOST 1048576: true; the input reads as it did. -/
def edgecheckAcceptsUptoRow : OpenClaim := { program := "ytnehaejghnoigaagreat", sum := "08e738991cd63030720b1ca5ffc5da25080685329dcf46f3b472f7460266d032", func := "armplan/armplanlaw20.EdgecheckAccepts", spec := "edgecheckAccepts", unfollowed := true, recurses := true, plainKeys := false, apart := false, narrowed := true }
def EdgecheckAcceptsUptoSaid : Prop := edgecheckAcceptsUptoRow.holds Tryz.pinned (OpenSpec.upto edgecheckAcceptsSpec)

/-- 'armplanlaw21.CompactMerges', WHERE WHAT IT READS IS OF BULK AT MOST 1048576: true; the input reads as it did. -/
def compactMergesUptoRow : OpenClaim := { program := "ytnehaejghnoigaagreat", sum := "08e738991cd63030720b1ca5ffc5da25080685329dcf46f3b472f7460266d032", func := "armplan/armplanlaw21.CompactMerges", spec := "compactMerges", unfollowed := true, recurses := true, plainKeys := false, apart := false, narrowed := true }
def CompactMergesUptoSaid : Prop := compactMergesUptoRow.holds Tryz.pinned (OpenSpec.upto compactMergesSpec)

/-- 'armplanlaw19.EdgeProves', WHERE WHAT IT READS IS OF BULK AT MOST 1048576: true; the input reads as it did. -/
def edgeProvesUptoRow : OpenClaim := { program := "ytnehaejghnoigaagreat", sum := "08e738991cd63030720b1ca5ffc5da25080685329dcf46f3b472f7460266d032", func := "armplan/armplanlaw19.EdgeProves", spec := "edgeProves", unfollowed := true, recurses := true, plainKeys := false, apart := false, narrowed := true }
def EdgeProvesUptoSaid : Prop := edgeProvesUptoRow.holds Tryz.pinned (OpenSpec.upto edgeProvesSpec)

/-- 'armplanlaw19.EdgeDeeper', WHERE WHAT IT READS IS OF BULK AT MOST 1048576: true; the input reads as it did. -/
def edgeDeeperUptoRow : OpenClaim := { program := "ytnehaejghnoigaagreat", sum := "08e738991cd63030720b1ca5ffc5da25080685329dcf46f3b472f7460266d032", func := "armplan/armplanlaw19.EdgeDeeper", spec := "edgeDeeper", unfollowed := true, recurses := true, plainKeys := false, apart := false, narrowed := true }
def EdgeDeeperUptoSaid : Prop := edgeDeeperUptoRow.holds Tryz.pinned (OpenSpec.upto edgeDeeperSpec)

/-- 'armplanlaw19.EdgeCovers', WHERE WHAT IT READS IS OF BULK AT MOST 1048576: true; the input reads as it did. -/
def edgeCoversUptoRow : OpenClaim := { program := "ytnehaejghnoigaagreat", sum := "08e738991cd63030720b1ca5ffc5da25080685329dcf46f3b472f7460266d032", func := "armplan/armplanlaw19.EdgeCovers", spec := "edgeCovers", unfollowed := true, recurses := true, plainKeys := false, apart := false, narrowed := true }
def EdgeCoversUptoSaid : Prop := edgeCoversUptoRow.holds Tryz.pinned (OpenSpec.upto edgeCoversSpec)

/-- 'armplanlaw19.EdgePoint', WHERE WHAT IT READS IS OF BULK AT MOST 1048576: true; the input reads as it did. -/
def edgePointUptoRow : OpenClaim := { program := "ytnehaejghnoigaagreat", sum := "08e738991cd63030720b1ca5ffc5da25080685329dcf46f3b472f7460266d032", func := "armplan/armplanlaw19.EdgePoint", spec := "edgePoint", unfollowed := true, recurses := true, plainKeys := false, apart := false, narrowed := true }
def EdgePointUptoSaid : Prop := edgePointUptoRow.holds Tryz.pinned (OpenSpec.upto edgePointSpec)

/-- 'armplanlaw19.EdgeInstant', WHERE WHAT IT READS IS OF BULK AT MOST 1048576: true; the input reads as it did. -/
def edgeInstantUptoRow : OpenClaim := { program := "ytnehaejghnoigaagreat", sum := "08e738991cd63030720b1ca5ffc5da25080685329dcf46f3b472f7460266d032", func := "armplan/armplanlaw19.EdgeInstant", spec := "edgeInstant", unfollowed := true, recurses := true, plainKeys := false, apart := false, narrowed := true }
def EdgeInstantUptoSaid : Prop := edgeInstantUptoRow.holds Tryz.pinned (OpenSpec.upto edgeInstantSpec)

/-- 'armplanlaw19.EdgeCollides', WHERE WHAT IT READS IS OF BULK AT MOST 1048576: true; the input reads as it did. -/
def edgeCollidesUptoRow : OpenClaim := { program := "ytnehaejghnoigaagreat", sum := "08e738991cd63030720b1ca5ffc5da25080685329dcf46f3b472f7460266d032", func := "armplan/armplanlaw19.EdgeCollides", spec := "edgeCollides", unfollowed := true, recurses := true, plainKeys := false, apart := false, narrowed := true }
def EdgeCollidesUptoSaid : Prop := edgeCollidesUptoRow.holds Tryz.pinned (OpenSpec.upto edgeCollidesSpec)

/-- 'armplanlaw20.EdgecheckReverses', WHERE WHAT IT READS IS OF BULK AT MOST 1048576: true; the input reads as it did. -/
def edgecheckReversesUptoRow : OpenClaim := { program := "ytnehaejghnoigaagreat", sum := "08e738991cd63030720b1ca5ffc5da25080685329dcf46f3b472f7460266d032", func := "armplan/armplanlaw20.EdgecheckReverses", spec := "edgecheckReverses", unfollowed := true, recurses := true, plainKeys := false, apart := false, narrowed := true }
def EdgecheckReversesUptoSaid : Prop := edgecheckReversesUptoRow.holds Tryz.pinned (OpenSpec.upto edgecheckReversesSpec)

/-- 'armplanlaw20.EdgecheckInstant', WHERE WHAT IT READS IS OF BULK AT MOST 1048576: true; the input reads as it did. -/
def edgecheckInstantUptoRow : OpenClaim := { program := "ytnehaejghnoigaagreat", sum := "08e738991cd63030720b1ca5ffc5da25080685329dcf46f3b472f7460266d032", func := "armplan/armplanlaw20.EdgecheckInstant", spec := "edgecheckInstant", unfollowed := true, recurses := true, plainKeys := false, apart := false, narrowed := true }
def EdgecheckInstantUptoSaid : Prop := edgecheckInstantUptoRow.holds Tryz.pinned (OpenSpec.upto edgecheckInstantSpec)

/-- 'armplanlaw20.EdgecheckExclusive', WHERE WHAT IT READS IS OF BULK AT MOST 1048576: true; the input reads as it did. -/
def edgecheckExclusiveUptoRow : OpenClaim := { program := "ytnehaejghnoigaagreat", sum := "08e738991cd63030720b1ca5ffc5da25080685329dcf46f3b472f7460266d032", func := "armplan/armplanlaw20.EdgecheckExclusive", spec := "edgecheckExclusive", unfollowed := true, recurses := true, plainKeys := false, apart := false, narrowed := true }
def EdgecheckExclusiveUptoSaid : Prop := edgecheckExclusiveUptoRow.holds Tryz.pinned (OpenSpec.upto edgecheckExclusiveSpec)

end Rows
end Go.Proofs.YtnehaejghnoigaaGreat
