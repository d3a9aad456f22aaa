/-
  D5 (a part of a claim: our own text).
-/
import Derived.Test.YtkbjjlfpbebiaaaGreatDoorYKD4
namespace Go.Abs
open Go.Proofs
open Go.Proofs
open Go.Proofs
end Go.Abs
