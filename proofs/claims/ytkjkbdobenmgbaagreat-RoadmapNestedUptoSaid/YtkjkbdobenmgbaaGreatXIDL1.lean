/-
  DL1 (a part of a claim: our own text).
-/
import Derived.Test.YtkjkbdobenmgbaaGreatXIPLib
import Derived.Test.YtkjkbdobenmgbaaGreatXID3
import Derived.Lib.DecodeN
namespace Go.Abs
theorem bif_eq {α : Type} {a b : Int} {x y : α} (h : a = b) : (bif (a == b) then x else y) = x := bif_pos (by simpa using h)
theorem bif_ne {α : Type} {a b : Int} {x y : α} (h : a ≠ b) : (bif (a == b) then x else y) = y := bif_neg (by simpa using h)
theorem bif_neq {α : Type} {a b : Int} {x y : α} (h : a ≠ b) : (bif (a != b) then x else y) = x := bif_pos (by simpa using h)
theorem bif_nne {α : Type} {a b : Int} {x y : α} (h : a = b) : (bif (a != b) then x else y) = y := bif_neg (by simpa using h)
theorem wr (n : Int) : IntKind.i64.wrap n = (n + 9223372036854775808) % 18446744073709551616 - 9223372036854775808 := by
  show (if (true && decide (n % 18446744073709551616 ≥ 9223372036854775808)) = true then n % 18446744073709551616 - 18446744073709551616 else n % 18446744073709551616) = _
  by_cases h : n % 18446744073709551616 ≥ 9223372036854775808
  · rw [if_pos (by rw [decide_eq_true h]; rfl)]; omega
  · rw [if_neg (by rw [decide_eq_false h]; decide)]; omega
theorem div_unique {a b q r : Int} (h0 : 0 ≤ r) (h1 : r < b) (h : a = b * q + r) : a / b = q := by
  subst h
  rw [Int.mul_add_ediv_left _ _ (by omega : b ≠ 0), Int.ediv_eq_zero_of_lt h0 h1]; omega
def scan {R : Type} (g : Nat → Option R) : Nat → Nat → Option R
  | 0, _ => none
  | n + 1, i => match g i with
    | some r => some r
    | none => scan g n (i + 1)
theorem scan_none {R : Type} {g : Nat → Option R} : ∀ (n i : Nat), scan g n i = none ↔ ∀ j, i ≤ j → j < i + n → g j = none
  | 0, i => by simp only [scan, true_iff]; intro j h1 h2; omega
  | n + 1, i => by
    simp only [scan]
    constructor
    · intro h
      split at h
      · cases h
      · rename_i h0
        intro j h1 h2
        by_cases e : j = i
        · subst e; exact h0
        · exact (scan_none n (i + 1)).1 h j (by omega) (by omega)
    · intro h
      rw [h i (by omega) (by omega)]
      exact (scan_none n (i + 1)).2 fun j h1 h2 => h j (by omega) (by omega)
theorem iter_scan {σ τ R : Type} {f : σ → Option (Step3 σ τ R)} (st : Nat → σ) (g : Nat → Option R) (y : τ) :
    ∀ (n i N : Nat), n < N → (∀ j, i ≤ j → j < i + n → f (st j) = match g j with | some r => some (.fin r) | none => some (.next (st (j + 1)))) → f (st (i + n)) = some (.out y) →
      iter f N (st i) = some (match scan g n i with | some r => .inr r | none => .inl y)
  | 0, i, 0, h, _, _ => by omega
  | 0, i, N + 1, _, _, h => by simp only [Nat.add_zero] at h; simp [iter, h, scan]
  | n + 1, i, 0, h, _, _ => by omega
  | n + 1, i, N + 1, h0, hs, he => by
    have h1 := hs i (by omega) (by omega)
    simp only [scan]
    cases hg : g i with
    | some r => rw [hg] at h1; simp [iter, h1]
    | none =>
      rw [hg] at h1
      simp only [iter, h1]
      exact iter_scan st g y n (i + 1) N (by omega) (fun j a b => hs j (by omega) (by omega)) (by rw [← he]; congr 2; omega)
theorem loop_scan {σ τ R : Type} {f : σ → Option (Step3 σ τ R)} {k : τ → Option R} {x : σ} (st : Nat → σ) (g : Nat → Option R) (y : τ) (n : Nat) (hx : x = st 0) (hn : n < NN)
    (hs : ∀ j, j < n → f (st j) = match g j with | some r => some (.fin r) | none => some (.next (st (j + 1)))) (he : f (st n) = some (.out y)) :
    andK (iter f NN x) k = match scan g n 0 with | some r => some r | none => k y := by
  rw [hx, iter_scan st g y n 0 NN hn (fun j _ h => hs j (by omega)) (by rw [Nat.zero_add]; exact he)]
  cases scan g n 0 <;> rfl
theorem loop_to {σ τ R : Type} {f : σ → Option (Step3 σ τ R)} {k : τ → Option R} {x : σ} (st : Nat → σ) (y : τ) (n : Nat) (hx : x = st 0) (hn : n < NN)
    (hs : ∀ j, j < n → f (st j) = some (.next (st (j + 1)))) (he : f (st n) = some (.out y)) : andK (iter f NN x) k = k y := by
  rw [hx, andK_inl (iter_out st rfl n hn hs he)]
theorem grd_p {R : Type} {p : Prop} [Decidable p] {k : Option R} (h : p) : grd p k = k := by unfold grd; simp [h]
theorem bif_some {α : Type} {b : Bool} {x y : α} : (bif b then some x else some y) = some (bif b then x else y) := by cases b <;> rfl
theorem bif_out {σ τ R : Type} {b : Bool} {x y : τ} : (bif b then some (Step3.out x) else some (Step3.out y) : Option (Step3 σ τ R)) = some (.out (bif b then x else y)) := by cases b <;> rfl
theorem bif_tb {b c : Bool} : (bif b then true else c) = (b || c) := by cases b <;> rfl
theorem bif_bf {b c : Bool} : (bif b then c else false) = (b && c) := by cases b <;> rfl
theorem scanI {R : Type} {f : Int → Option (Step3 Int U0 R)} {k : U0 → Option R} (g : Nat → Option R) (n : Nat) (hn : n < 4294967296)
    (hs : ∀ j, j < n → f (j : Int) = match g j with | some r => some (.fin r) | none => some (.next ((j + 1 : Nat) : Int))) (he : f (n : Int) = some (.out .u)) :
    andK (iter f NN 0) k = match scan g n 0 with | some r => some r | none => k .u := loop_scan (fun j => (j : Int)) g .u n rfl hn hs he
theorem wn {n : Nat} (h : n < 4294967296) : IntKind.i64.wrap ((n : Int) + 1) = ((n + 1 : Nat) : Int) := w64n (by omega)
end Go.Abs
