/-
  No cell of these rows narrows 'for every input' (looked for: loops, veiled, ifaces, maps, wideKeys, modest, calm, conditions, laid).
  DERIVED. THE GIVEN ROWS OF THIS SEAT. 4 by the template 'for every input the law returns true; each argument reads behind the call as it read before'; 0 by the template 'total and deterministic' (their statements: YtfodaccgmcljoaaGreatTotals.lean).
  GIVEN WITH THE SEED: the statements are not yours to turn. If you find one false, say at which input.
  Laid BY PROGRAM, IN A SANDBOX (cutbox-rows.mjs): the forced cells as the released guide's own fill.sh prints them over the translation 7b2c9ded37180764… (all of the seat's roots in one cut). By AI agents, Wed Nov 11 2026. No macro, syntax, notation, axiom, sorry.
-/
import Derived.Test.YtfodaccgmcljoaaGreatChecked
import GoSem.Claim
import GoSem.ClaimJoined
import GoSem.ClaimMapViews
import Derived.JoinedTies
import Derived.KernelRfl
namespace Go.Proofs.YtfodaccgmcljoaaGreat
/- THE CELL 'sum', in the pinned program and in every row, IS THE sha256 OF THE DUMP (.gsa) THAT YtfodaccgmcljoaaGreatProg.lean LOADS. Nothing in Lean hashes anything: it is a label: what it is worth is what the hold of that sum in a sandbox is worth. -/
noncomputable def Tryz.pinned : Pinned := { name := "ytfodaccgmcljoaagreat", sum := "7b2c9ded37180764b31ad0c95bc2bb5bfabf94bee324fd6897ab2f0e4b299db7", checked := Tryz.checked }
namespace Rows
def none {H : Type} : Left H := { results := [], args := [] }

/-- 'armplanlaw26.SearchLazy': WHATEVER THE INPUT: true; the input reads as it did. -/
def searchLazySpec : ChangeSpec := { name := "searchLazy", fn := fun _ => fun
  | [d1, d2, d3, d4, d5, d6, d7, d8, d9, d10] => { results := [.lit (.bool true)], args := [d1, d2, d3, d4, d5, d6, d7, d8, d9, d10] }
  | _ => none }
def searchLazyRow : OpenClaim := { program := "ytfodaccgmcljoaagreat", sum := "7b2c9ded37180764b31ad0c95bc2bb5bfabf94bee324fd6897ab2f0e4b299db7", func := "armplan/armplanlaw26.SearchLazy", spec := "searchLazy", unfollowed := true, recurses := true, apart := false }
def SearchLazySaid : Prop := searchLazyRow.holds Tryz.pinned (OpenSpec.ofChange searchLazySpec)

/-- ITS FALSE NEIGHBOUR: 'it returns false'. Refute it at one input. -/
def searchLazyWrong : ChangeSpec := { name := "searchLazy", fn := fun _ => fun
  | [d1, d2, d3, d4, d5, d6, d7, d8, d9, d10] => { results := [.lit (.bool false)], args := [d1, d2, d3, d4, d5, d6, d7, d8, d9, d10] }
  | _ => none }
def SearchLazyWrongFalsely : Prop := searchLazyRow.holds Tryz.pinned (OpenSpec.ofChange searchLazyWrong)

/-- 'armplanlaw26.SearchEager': WHATEVER THE INPUT: true; the input reads as it did. -/
def searchEagerSpec : ChangeSpec := { name := "searchEager", fn := fun _ => fun
  | [d1, d2, d3, d4, d5, d6] => { results := [.lit (.bool true)], args := [d1, d2, d3, d4, d5, d6] }
  | _ => none }
def searchEagerRow : OpenClaim := { program := "ytfodaccgmcljoaagreat", sum := "7b2c9ded37180764b31ad0c95bc2bb5bfabf94bee324fd6897ab2f0e4b299db7", func := "armplan/armplanlaw26.SearchEager", spec := "searchEager", unfollowed := true, recurses := true, apart := false }
def SearchEagerSaid : Prop := searchEagerRow.holds Tryz.pinned (OpenSpec.ofChange searchEagerSpec)

/-- ITS FALSE NEIGHBOUR: 'it returns false'. Refute it at one input. -/
def searchEagerWrong : ChangeSpec := { name := "searchEager", fn := fun _ => fun
  | [d1, d2, d3, d4, d5, d6] => { results := [.lit (.bool false)], args := [d1, d2, d3, d4, d5, d6] }
  | _ => none }
def SearchEagerWrongFalsely : Prop := searchEagerRow.holds Tryz.pinned (OpenSpec.ofChange searchEagerWrong)

/-- 'armplanlaw26.SearchFrugal': WHATEVER THE INPUT: true; the input reads as it did. -/
def searchFrugalSpec : ChangeSpec := { name := "searchFrugal", fn := fun _ => fun
  | [d1, d2, d3, d4, d5, d6] => { results := [.lit (.bool true)], args := [d1, d2, d3, d4, d5, d6] }
  | _ => none }
def searchFrugalRow : OpenClaim := { program := "ytfodaccgmcljoaagreat", sum := "7b2c9ded37180764b31ad0c95bc2bb5bfabf94bee324fd6897ab2f0e4b299db7", func := "armplan/armplanlaw26.SearchFrugal", spec := "searchFrugal", unfollowed := true, recurses := true, apart := false }
def SearchFrugalSaid : Prop := searchFrugalRow.holds Tryz.pinned (OpenSpec.ofChange searchFrugalSpec)

/-- ITS FALSE NEIGHBOUR: 'it returns false'. Refute it at one input. -/
def searchFrugalWrong : ChangeSpec := { name := "searchFrugal", fn := fun _ => fun
  | [d1, d2, d3, d4, d5, d6] => { results := [.lit (.bool false)], args := [d1, d2, d3, d4, d5, d6] }
  | _ => none }
def SearchFrugalWrongFalsely : Prop := searchFrugalRow.holds Tryz.pinned (OpenSpec.ofChange searchFrugalWrong)

/-- 'armplanlaw26.SearchBudget': WHATEVER THE INPUT: true; the input reads as it did. -/
def searchBudgetSpec : ChangeSpec := { name := "searchBudget", fn := fun _ => fun
  | [d1, d2, d3, d4, d5, d6, d7] => { results := [.lit (.bool true)], args := [d1, d2, d3, d4, d5, d6, d7] }
  | _ => none }
def searchBudgetRow : OpenClaim := { program := "ytfodaccgmcljoaagreat", sum := "7b2c9ded37180764b31ad0c95bc2bb5bfabf94bee324fd6897ab2f0e4b299db7", func := "armplan/armplanlaw26.SearchBudget", spec := "searchBudget", unfollowed := true, recurses := true, apart := false }
def SearchBudgetSaid : Prop := searchBudgetRow.holds Tryz.pinned (OpenSpec.ofChange searchBudgetSpec)

/-- ITS FALSE NEIGHBOUR: 'it returns false'. Refute it at one input. -/
def searchBudgetWrong : ChangeSpec := { name := "searchBudget", fn := fun _ => fun
  | [d1, d2, d3, d4, d5, d6, d7] => { results := [.lit (.bool false)], args := [d1, d2, d3, d4, d5, d6, d7] }
  | _ => none }
def SearchBudgetWrongFalsely : Prop := searchBudgetRow.holds Tryz.pinned (OpenSpec.ofChange searchBudgetWrong)

/- THE SECOND FORM. 'bulk': how many values and letters a reading holds, each counted each time it is reached (what is shared counts as often as it is met; a slice's spare places count too). A statement '..UptoSaid' is the law's where the arguments, and the package variables that the reading takes, are together of bulk at most 1048576: NARROWER than '..Said'. Prove '..Said' where nothing that the law and all that it calls make is longer than what came in: it says more and counts as full. Else prove '..UptoSaid'. A law counts once. -/
mutual
def uptoBulk {H : Type} : DataW H → Nat
  | .lit (.string bytes) => bytes.length + 1
  | .lit _ => 1
  | .nil => 1
  | .ptr d => uptoBulk d + 1
  | .slice elems spare => uptoBulkAll elems + uptoBulkAll spare + 1
  | .agg parts => uptoBulkAll parts + 1
  | .iface _ d => uptoBulk d + 1
  | .map entries => uptoBulkEntries entries + 1
  | .held _ => 1
def uptoBulkAll {H : Type} : List (DataW H) → Nat
  | [] => 0
  | d :: r => uptoBulk d + uptoBulkAll r
def uptoBulkEntries {H : Type} : List (Lit × DataW H) → Nat
  | [] => 0
  | x :: r => uptoBulkEntry x + uptoBulkEntries r
def uptoBulkEntry {H : Type} : Lit × DataW H → Nat
  | (.string bytes, d) => bytes.length + uptoBulk d + 1
  | (_, d) => uptoBulk d + 1
 end
def uptoSmall : (H : Type) → List (DataW H) → Bool := fun _ ds => decide (uptoBulkAll ds ≤ 1048576)
def OpenSpec.upto (s : _root_.Go.ChangeSpec) : _root_.Go.OpenSpec := { _root_.Go.OpenSpec.ofChange s with cond := some uptoSmall }

/-- 'armplanlaw26.SearchLazy', WHERE WHAT IT READS IS OF BULK AT MOST 1048576: true; the input reads as it did. -/
def searchLazyUptoRow : OpenClaim := { program := "ytfodaccgmcljoaagreat", sum := "7b2c9ded37180764b31ad0c95bc2bb5bfabf94bee324fd6897ab2f0e4b299db7", func := "armplan/armplanlaw26.SearchLazy", spec := "searchLazy", unfollowed := true, recurses := true, apart := false, narrowed := true }
def SearchLazyUptoSaid : Prop := searchLazyUptoRow.holds Tryz.pinned (OpenSpec.upto searchLazySpec)

/-- 'armplanlaw26.SearchEager', WHERE WHAT IT READS IS OF BULK AT MOST 1048576: true; the input reads as it did. -/
def searchEagerUptoRow : OpenClaim := { program := "ytfodaccgmcljoaagreat", sum := "7b2c9ded37180764b31ad0c95bc2bb5bfabf94bee324fd6897ab2f0e4b299db7", func := "armplan/armplanlaw26.SearchEager", spec := "searchEager", unfollowed := true, recurses := true, apart := false, narrowed := true }
def SearchEagerUptoSaid : Prop := searchEagerUptoRow.holds Tryz.pinned (OpenSpec.upto searchEagerSpec)

/-- 'armplanlaw26.SearchFrugal', WHERE WHAT IT READS IS OF BULK AT MOST 1048576: true; the input reads as it did. -/
def searchFrugalUptoRow : OpenClaim := { program := "ytfodaccgmcljoaagreat", sum := "7b2c9ded37180764b31ad0c95bc2bb5bfabf94bee324fd6897ab2f0e4b299db7", func := "armplan/armplanlaw26.SearchFrugal", spec := "searchFrugal", unfollowed := true, recurses := true, apart := false, narrowed := true }
def SearchFrugalUptoSaid : Prop := searchFrugalUptoRow.holds Tryz.pinned (OpenSpec.upto searchFrugalSpec)

/-- 'armplanlaw26.SearchBudget', WHERE WHAT IT READS IS OF BULK AT MOST 1048576: true; the input reads as it did. -/
def searchBudgetUptoRow : OpenClaim := { program := "ytfodaccgmcljoaagreat", sum := "7b2c9ded37180764b31ad0c95bc2bb5bfabf94bee324fd6897ab2f0e4b299db7", func := "armplan/armplanlaw26.SearchBudget", spec := "searchBudget", unfollowed := true, recurses := true, apart := false, narrowed := true }
def SearchBudgetUptoSaid : Prop := searchBudgetUptoRow.holds Tryz.pinned (OpenSpec.upto searchBudgetSpec)

end Rows
end Go.Proofs.YtfodaccgmcljoaaGreat
