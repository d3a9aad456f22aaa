/-
  DM (a part of a claim: our own text).
-/
import Derived.Test.YtomogglfhepnmaaGreatXHDL2
namespace Go.Abs
def d1 (x : Nat) : Nat := x * 6746518852 / 65536
def d2 (x : Nat) : Nat := d1 x * d1 x / 1073741824
def d3 (x : Nat) : Nat := d2 x * d1 x / 1073741824
def d4 (x : Nat) : Nat := d3 x * d1 x / 1073741824
def d5 (x : Nat) : Nat := d4 x * d1 x / 1073741824
def u1 (x : Nat) : Nat := (x * 6746518853 + 65535) / 65536
def u2 (x : Nat) : Nat := (u1 x * u1 x + 1073741823) / 1073741824
def u3 (x : Nat) : Nat := (u2 x * u1 x + 1073741823) / 1073741824
def u4 (x : Nat) : Nat := (u3 x * u1 x + 1073741823) / 1073741824
def u5 (x : Nat) : Nat := (u4 x * u1 x + 1073741823) / 1073741824
def u6 (x : Nat) : Nat := (u5 x * u1 x + 1073741823) / 1073741824
def u7 (x : Nat) : Nat := (u6 x * u1 x + 1073741823) / 1073741824
def u8 (x : Nat) : Nat := (u7 x * u1 x + 1073741823) / 1073741824
section
variable {x : Nat} (h : x ≤ 8192)
include h
end
structure Sb (a b : S_Interval) : Prop where
  va : vV a = true
  vb : vV b = true
  lo : b.Lo ≤ a.Lo
  hi : a.Hi ≤ b.Hi
structure Sv (a b : IV3) : Prop where
  x : Sb a.1 b.1
  y : Sb a.2.1 b.2.1
  z : Sb a.2.2 b.2.2
structure SM (a b : IM3) : Prop where
  x : Sv a.1 b.1
  y : Sv a.2.1 b.2.1
  z : Sv a.2.2 b.2.2
structure SP (a b : S_Pose) : Prop where
  r : SM a.R b.R
  t : Sv a.T b.T
theorem free_iff {s : S_Scene} {b : List S_Interval} {ns : List V3} : freeV s b ns = true ↔ sceneV s = 0 ∧ boxV s.Robot b = true ∧ ns.length = (pairsV s).length ∧ ∀ k, k < (pairsV s).length → sepV (ns.getD k default) (pointsF s b (pA s k)) (radOf s (pA s k)) (pointsF s b (pB s k)) (radOf s (pB s k)) = true := by
  simp only [freeV, Bool.and_eq_true, decide_eq_true_eq, noneB_iff, sepK, Bool.not_eq_false']
end Go.Abs
