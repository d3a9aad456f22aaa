/-
 DL1 (a part of a claim: our own text).
-/
import Derived.Test.YtfodaccgmcljoaaGreatYBPLib
import Derived.Test.YtfodaccgmcljoaaGreatYBD3
import Derived.Lib.DecodeN
namespace Go.Abs
theorem zz6 {α : Type} {p : Prop} [Decidable p] {x y : α} (h : ¬ p) : (bif (!decide p) then x else y) = x := by rw [decide_eq_false h]; rfl
theorem tz6 {α : Type} {p : Prop} [Decidable p] {x y : α} (h : p) : (bif (!decide p) then x else y) = y := by rw [decide_eq_true h]; rfl
theorem dz0 {α : Type} {a b : Int} {x y : α} (h : a = b) : (bif (a == b) then x else y) = x := bzq (by simpa using h)
theorem dz1 {α : Type} {a b : Int} {x y : α} (h : a ≠ b) : (bif (a == b) then x else y) = y := czc (by simpa using h)
theorem dzf {α : Type} {a b : Int} {x y : α} (h : a ≠ b) : (bif (a != b) then x else y) = x := bzq (by simpa using h)
theorem czl {α : Type} {a b : Int} {x y : α} (h : a = b) : (bif (a != b) then x else y) = y := czc (by simpa using h)
theorem wr (n : Int) : IntKind.i64.wrap n = (n + 9223372036854775808) % 18446744073709551616 - 9223372036854775808 := by
 show (if (true && decide (n % 18446744073709551616 ≥ 9223372036854775808)) = true then n % 18446744073709551616 - 18446744073709551616 else n % 18446744073709551616) = _
 by_cases h : n % 18446744073709551616 ≥ 9223372036854775808
 ·rw [if_pos (by rw [decide_eq_true h]; rfl)]; omega
 ·rw [if_neg (by rw [decide_eq_false h]; decide)]; omega
theorem Vz3 (n : Int) : -9223372036854775808 ≤ IntKind.i64.wrap n := by rw [wr]; omega
theorem Vz2 (n : Int) : IntKind.i64.wrap n ≤ 9223372036854775807 := by rw [wr]; omega
def InR (x : Int) : Prop := -9223372036854775808 ≤ x /\ x ≤ 9223372036854775807
theorem InR.wr (n : Int) : InR (IntKind.i64.wrap n) := ⟨Vz3 n, Vz2 n⟩
theorem InR.w {x : Int} (h : InR x) : IntKind.i64.wrap x = x := w64 h.1 h.2
def cdiv (a b : Int) : Int := -((-a) / b)
theorem fza {a b : Int} (ha : 0 ≤ a) : a.tdiv b = a / b := Int.tdiv_eq_ediv_of_nonneg ha
theorem Qz1 {a b : Int} (ha : 0 ≤ a) : a.tmod b = a % b := Int.tmod_eq_emod_of_nonneg ha
theorem wzx (a b : Int) : (-a).tdiv b = -(a.tdiv b) := Int.neg_tdiv a b
theorem Nzq (a b : Int) : (-a).tmod b = -(a.tmod b) := Int.neg_tmod a b
theorem ozk {a b q r : Int} (h0 : 0 ≤ r) (h1 : r < b) (h : a = b * q + r) : a / b = q := by
 subst h
 rw [Int.mul_add_ediv_left _ _ (by omega : b ≠ 0), Int.ediv_eq_zero_of_lt h0 h1]; omega
theorem Rzi {a b : Int} (hb : 0 < b) : (if a.tmod b < 0 then a.tdiv b - 1 else a.tdiv b) = a / b := by
 have h1 := Int.mul_tdiv_add_tmod a b
 have h2 := Int.tmod_lt_of_pos a hb
 have h3 := Int.lt_tmod_of_pos a hb
 split
 ·symm; exact ozk (r := a.tmod b + b) (by omega) (by omega) (by rw [Int.mul_sub]; omega)
 ·symm; exact ozk (r := a.tmod b) (by omega) (by omega) (by omega)
theorem Qz6 {a b : Int} (hb : 0 < b) : (if a.tmod b > 0 then a.tdiv b + 1 else a.tdiv b) = cdiv a b := by
 have := Rzi (a := -a) hb
 rw [Nzq, wzx] at this
 unfold cdiv
 rw [← this]
 split
 ·rw [if_pos (by omega)]; omega
 ·rw [if_neg (by omega)]; omega
theorem zzo {a b : Int} (hb : 0 < b) : b * (a / b) ≤ a := Int.mul_ediv_self_le (by omega)
theorem Fzb {a b : Int} (hb : 0 < b) : a < b * (a / b) + b := Int.lt_mul_ediv_self_add hb
theorem zzn {a b : Int} (hb : 0 < b) : (0 ≤ a -> 0 ≤ a / b /\ a / b ≤ a) /\ (a < 0 -> a ≤ a / b /\ a / b < 0) := by
 refine ⟨fun h => ⟨Int.ediv_nonneg h (by omega), Int.ediv_le_self _ h⟩, fun h => ⟨?_, Int.ediv_neg_of_neg_of_pos h hb⟩⟩
 have h1 := Fzb (a := a) hb
 have h2 : a / b < 0 := Int.ediv_neg_of_neg_of_pos h hb
 by_cases hc : a ≤ a / b
 ·exact hc
 ·exfalso
  have h3 : a / b + 1 ≤ a := by omega
  have h4 : b * (a / b) + b = b * (a / b + 1) := by rw [Int.mul_add]; omega
  have h5 : b * (a / b + 1) ≤ 1 * (a / b + 1) := Int.mul_le_mul_of_nonpos_right (by omega) (by omega)
  omega
theorem Dz6 {a b : Int} (hb : 0 < b) : (0 < a -> 0 < cdiv a b /\ cdiv a b ≤ a) /\ (a ≤ 0 -> a ≤ cdiv a b /\ cdiv a b ≤ 0) := by
 have := zzn (a := -a) hb
 unfold cdiv
 exact ⟨fun h => by have := this.2 (by omega); omega, fun h => by have := this.1 (by omega); omega⟩
theorem InR.cdiv {a b : Int} (h : InR a) (hb : 0 < b) : InR (Go.Abs.cdiv a b) := by
 have := Dz6 (a := a) hb
 obtain ⟨h1, h2⟩ := h
 by_cases h0 : 0 < a
 ·have := this.1 h0; exact ⟨by omega, by omega⟩
 ·have := this.2 (by omega); exact ⟨by omega, by omega⟩
theorem Szu {a b : Int} (hb : 0 < b) : (0 ≤ a -> 0 ≤ a.tdiv b /\ a.tdiv b ≤ a) /\ (a ≤ 0 -> a ≤ a.tdiv b /\ a.tdiv b ≤ 0) := by
 refine ⟨fun h => ?_, fun h => ?_⟩
 ·rw [fza h]; exact (zzn hb).1 h
 ·have h1 := (zzn (a := -a) hb).1 (by omega)
  rw [← fza (by omega), wzx] at h1
  omega
theorem InR.tdiv {a b : Int} (h : InR a) (hb : 0 < b) : InR (a.tdiv b) := by
 have := Szu (a := a) hb
 obtain ⟨h1, h2⟩ := h
 by_cases h0 : 0 ≤ a
 ·have := this.1 h0; exact ⟨by omega, by omega⟩
 ·have := this.2 (by omega); exact ⟨by omega, by omega⟩
theorem Uzm {a b : Int} (ha : InR a) (hb : 0 < b) : (bif decide (a.tmod b > 0) then IntKind.i64.wrap (IntKind.i64.wrap (a.tdiv b) + 1) else IntKind.i64.wrap (a.tdiv b)) = cdiv a b := by
 rw [(ha.tdiv hb).w, ← Qz6 hb, cond_eq_ite]
 simp only [decide_eq_true_eq]
 split
 ·rename_i h
  have := ha.cdiv hb
  rw [← Qz6 hb, if_pos h] at this
  exact this.w
 ·rfl
theorem vzh {a b q : Int} (hb : 0 < b) : cdiv a b = q ↔ a ≤ b * q /\ b * q < a + b := by
 unfold cdiv
 have h1 := zzo (a := -a) hb
 have h2 := Fzb (a := -a) hb
 constructor
 ·intro h
  have : b * q = -(b * (-a / b)) := by rw [← h, Int.mul_neg]
  omega
 ·intro h
  have : -a / b = -q := ozk (r := b * q - a) (by omega) (by omega) (by rw [Int.mul_neg]; omega)
  omega
def scan {R : Type} (g : Nat -> Option R) : Nat -> Nat -> Option R
 | 0, _ => none
 | n + 1, i => match g i with
   | some r => some r
   | none => scan g n (i + 1)
theorem gz9 {R : Type} {g : Nat -> Option R} : ∀ (n i : Nat), scan g n i = none ↔ ∀ j, i ≤ j -> j < i + n -> g j = none
 | 0, i => by simp only [scan, true_iff]; intro j h1 h2; omega
 | n + 1, i => by
   simp only [scan]
   constructor
   ·intro h
    split at h
    ·cases h
    ·rename_i h0
     intro j h1 h2
     by_cases e : j = i
     ·subst e; exact h0
     ·exact (gz9 n (i + 1)).1 h j (by omega) (by omega)
   ·intro h
    rw [h i (by omega) (by omega)]
    exact (gz9 n (i + 1)).2 fun j h1 h2 => h j (by omega) (by omega)
theorem hzp {R : Type} {g : Nat -> Option R} {r : R} : ∀ (n i : Nat), scan g n i = some r -> ∃ j, i ≤ j /\ j < i + n /\ g j = some r /\ ∀ k, i ≤ k -> k < j -> g k = none
 | 0, i, h => by cases h
 | n + 1, i, h => by
   simp only [scan] at h
   split at h
   ·rename_i h0; cases h; exact ⟨i, by omega, by omega, h0, fun k h1 h2 => by omega⟩
   ·rename_i h0
    obtain ⟨j, h1, h2, h3, h4⟩ := hzp n (i + 1) h
    refine ⟨j, by omega, by omega, h3, fun k h5 h6 => ?_⟩
    by_cases e : k = i
    ·subst e; exact h0
    ·exact h4 k (by omega) h6
theorem Fzu {σ τ R : Type} {f : σ -> Option (Step3 σ τ R)} (st : Nat -> σ) (g : Nat -> Option R) (y : τ) :
 ∀ (n i N : Nat), n < N -> (∀ j, i ≤ j -> j < i + n -> f (st j) = match g j with | some r => some (.fin r) | none => some (.next (st (j + 1)))) -> f (st (i + n)) = some (.out y) ->
   iter f N (st i) = some (match scan g n i with | some r => .inr r | none => .inl y)
 | 0, i, 0, h, _, _ => by omega
 | 0, i, N + 1, _, _, h => by simp only [Nat.add_zero] at h; simp [iter, h, scan]
 | n + 1, i, 0, h, _, _ => by omega
 | n + 1, i, N + 1, h0, hs, he => by
   have h1 := hs i (by omega) (by omega)
   simp only [scan]
   cases hg : g i with
   | some r => rw [hg] at h1; simp [iter, h1]
   | none =>
     rw [hg] at h1
     simp only [iter, h1]
     exact Fzu st g y n (i + 1) N (by omega) (fun j a b => hs j (by omega) (by omega)) (by rw [← he]; congr 2; omega)
theorem ozr {σ τ R : Type} {f : σ -> Option (Step3 σ τ R)} {k : τ -> Option R} {x : σ} (st : Nat -> σ) (g : Nat -> Option R) (y : τ) (n : Nat) (hx : x = st 0) (hn : n < NN)
 (hs : ∀ j, j < n -> f (st j) = match g j with | some r => some (.fin r) | none => some (.next (st (j + 1)))) (he : f (st n) = some (.out y)) :
 andK (iter f NN x) k = match scan g n 0 with | some r => some r | none => k y := by
 rw [hx, Fzu st g y n 0 NN hn (fun j _ h => hs j (by omega)) (by rw [Nat.zero_add]; exact he)]
 cases scan g n 0 <;> rfl
theorem ezi {σ τ R : Type} {f : σ -> Option (Step3 σ τ R)} {k : τ -> Option R} {x : σ} (st : Nat -> σ) (y : τ) (n : Nat) (hx : x = st 0) (hn : n < NN)
 (hs : ∀ j, j < n -> f (st j) = some (.next (st (j + 1)))) (he : f (st n) = some (.out y)) : andK (iter f NN x) k = k y := by
 rw [hx, pz7 (Ozq st rfl n hn hs he)]
theorem azf {R : Type} {p : Prop} [Decidable p] {k : Option R} (h : p) : grd p k = k := by unfold grd; simp [h]
theorem dzz {α : Type} {b : Bool} {x y : α} : (bif b then some x else some y) = some (bif b then x else y) := by cases b <;> rfl
theorem bzi {σ τ R : Type} {b : Bool} {x y : τ} : (bif b then some (Step3.out x) else some (Step3.out y) : Option (Step3 σ τ R)) = some (.out (bif b then x else y)) := by cases b <;> rfl
theorem ez6 {b c : Bool} : (bif b then true else c) = (b || c) := by cases b <;> rfl
theorem mzf {b c : Bool} : (bif b then c else false) = (b && c) := by cases b <;> rfl
theorem Azs {a b : Int} (ha : InR a) (hb : 0 < b) : (izk a b).o = some (cdiv a b) := by
 show (vz0 a b).run NN = _
 have h0 : b ≠ 0 := by omega
 simp only [vz0, T.run, azf h0, bzi, az7]
 exact congrArg some (Uzm ha hb)
theorem fzl (k : Nat) : (0 : Int) < 2 ^ k := Int.pow_pos (by omega)
theorem vzo (a : Int) (k : Nat) : a.fdiv (2 ^ k) = a / 2 ^ k := Int.fdiv_eq_ediv_of_nonneg _ (Int.le_of_lt (fzl k))
theorem fzp (a : Int) (k : Nat) (hk : k ≤ 64) : (azy a (k : Int)).o = some (a / 2 ^ k) := by
 show (iz9 a (k : Int)).run NN = _
 simp only [iz9, T.run]
 rw [az6 (by omega), azf (by omega), Int.toNat_natCast, Nat.min_eq_left hk, vzo]
theorem up_w {a b : Int} (ha : InR a) (hb : 0 < b) (hlo : InR (b * (a / b))) : (bif (IntKind.i64.wrap (a / b * b) != a) then IntKind.i64.wrap (a / b + 1) else a / b) = cdiv a b := by
 rw [Int.mul_comm, hlo.w]
 have h1 := zzo (a := a) hb
 have h2 := Fzb (a := a) hb
 symm
 rw [vzh hb]
 by_cases e : b * (a / b) = a
 ·rw [czl e]; omega
 ·rw [dzf e]
  have : IntKind.i64.wrap (a / b + 1) = a / b + 1 := by
   have h3 := ha.cdiv hb
   have : cdiv a b = a / b + 1 := by rw [vzh hb, Int.mul_add]; omega
   rw [this] at h3; exact h3.w
  rw [this, Int.mul_add]; omega
theorem Uz3 {a : Int} {k : Nat} (hk : k ≤ 63) (ha : InR a) : InR (2 ^ k * (a / 2 ^ k)) := by
 have hp := fzl k
 have h1 := zzo (a := a) hp
 obtain ⟨h3, h4⟩ := ha
 have h5 : -(2 ^ (63 - k)) ≤ a / 2 ^ k := by
  rw [Int.le_ediv_iff_mul_le hp, Int.neg_mul, ← Int.pow_add, Nat.sub_add_cancel hk]
  have : (2 : Int) ^ 63 = 9223372036854775808 := by decide
  omega
 have h6 : 2 ^ k * -(2 : Int) ^ (63 - k) ≤ 2 ^ k * (a / 2 ^ k) := Int.mul_le_mul_of_nonneg_left h5 (by omega)
 rw [Int.mul_neg, ← Int.pow_add, Nat.add_sub_cancel' hk] at h6
 have : (2 : Int) ^ 63 = 9223372036854775808 := by decide
 exact ⟨by omega, by omega⟩
theorem gzy {a : Int} (k : Nat) (hk : k ≤ 63) (ha : InR a) : (bz4 a (k : Int)).o = some (cdiv a (2 ^ k)) := by
 show (lzi a (k : Int)).run NN = _
 simp only [lzi, T.run]
 rw [az6 (by omega), azf (by omega), azf (by omega), Int.toNat_natCast, Nat.min_eq_left (by omega), vzo, bzi, az7, up_w ha (fzl k) (Uz3 hk ha)]
theorem sd16 (a : Int) : (azy a 16).o = some (a / 65536) := fzp a 16 (by decide)
theorem sd30 (a : Int) : (azy a 30).o = some (a / 1073741824) := fzp a 30 (by decide)
theorem sd14 (a : Int) : (azy a 14).o = some (a / 16384) := fzp a 14 (by decide)
theorem su16 {a : Int} (h : InR a) : (bz4 a 16).o = some (cdiv a 65536) := gzy 16 (by decide) h
theorem su30 {a : Int} (h : InR a) : (bz4 a 30).o = some (cdiv a 1073741824) := gzy 30 (by decide) h
theorem su14 {a : Int} (h : InR a) : (bz4 a 14).o = some (cdiv a 16384) := gzy 14 (by decide) h
def clV (x : Int) : Int := max (-2147483648) (min x 2147483648)
def vV (a : az0) : Bool := decide (-2147483648 ≤ a.Lo) && (decide (a.Lo ≤ a.Hi) && decide (a.Hi ≤ 2147483648))
theorem vV_iff {a : az0} : vV a = true ↔ -2147483648 ≤ a.Lo /\ a.Lo ≤ a.Hi /\ a.Hi ≤ 2147483648 := by simp [vV]
def iz : az0 := ⟨0, 0⟩
def limV (lo hi : Int) : az0 := ⟨clV lo, clV hi⟩
def addV (a b : az0) : az0 := if vV a && vV b then limV (a.Lo + b.Lo) (a.Hi + b.Hi) else iz
def negV (a : az0) : az0 := if vV a then ⟨-a.Hi, -a.Lo⟩ else iz
def Iz5 (a b : az0) : Int := min (min (min (a.Lo * b.Lo) (a.Lo * b.Hi)) (a.Hi * b.Lo)) (a.Hi * b.Hi)
def Iz4 (a b : az0) : Int := max (max (max (a.Lo * b.Lo) (a.Lo * b.Hi)) (a.Hi * b.Lo)) (a.Hi * b.Hi)
def mulV (a b : az0) : az0 := if vV a && vV b then limV (Iz5 a b / 65536) (cdiv (Iz4 a b) 65536) else iz
def Ozn (a b : az0) : az0 := if vV a && vV b then ⟨min a.Lo b.Lo, max a.Hi b.Hi⟩ else iz
def ofV (x : Int) : az0 := ⟨clV x, clV x⟩
def midV (a : az0) : Int := if vV a then (a.Lo + a.Hi) / 2 else 0
theorem Dzo (a : Int) : (pzi a).o = some (clV a) := by
 show (pzj a).run NN = _
 simp only [pzj, T.run, clV, Option.some.injEq]; omega
theorem cz0 (a : az0) : (bzg a).o = some (vV a) := by
 show (jzz a).run NN = _
 simp only [jzz, T.run, vV, dzz, mzf]
theorem kz3 (a b : az0) : (gzc a b).o = some (vV a && vV b) := by
 show (kz2 a b).run NN = _
 simp only [kz2, T.run, cz0, Option.bind_some, dzz, mzf]
theorem hz3 (a b : Int) : (fz6 a b).o = some (limV a b) := by
 show (hz2 a b).run NN = _
 simp only [hz2, T.run, Dzo, Option.bind_some, limV]
theorem hz1 (a : Int) : (cz1 a).o = some (ofV a) := by
 show (pzm a).run NN = _
 simp only [pzm, T.run, hz3, Option.bind_some, limV, ofV]
theorem wsum {a b : Int} (ha : -2147483648 ≤ a /\ a ≤ 2147483648) (hb : -2147483648 ≤ b /\ b ≤ 2147483648) : IntKind.i64.wrap (a + b) = a + b := w64 (by omega) (by omega)
theorem wmul {a b : Int} (ha : -2147483648 ≤ a /\ a ≤ 2147483648) (hb : -2147483648 ≤ b /\ b ≤ 2147483648) : IntKind.i64.wrap (a * b) = a * b /\ -4611686018427387904 ≤ a * b /\ a * b ≤ 4611686018427387904 := by
 have h : -4611686018427387904 ≤ a * b /\ a * b ≤ 4611686018427387904 := by
  have h1 : (a * b).natAbs ≤ 2147483648 * 2147483648 := by rw [Int.natAbs_mul]; exact Nat.mul_le_mul (by omega) (by omega)
  omega
 exact ⟨w64 (by omega) (by omega), h⟩
theorem nzf (a b : az0) : (azi a b).o = some (addV a b) := by
 show (nze a b).run NN = _
 simp only [nze, T.run, kz3, hz3, Option.bind_some, dzz, addV]
 cases h : vV a && vV b
 ·rfl
 ·simp only [Bool.and_eq_true, vV_iff] at h
  rw [wsum ⟨by omega, by omega⟩ ⟨by omega, by omega⟩, wsum ⟨by omega, by omega⟩ ⟨by omega, by omega⟩]; rfl
theorem tzv (a : az0) : (jz5 a).o = some (negV a) := by
 show (nzj a).run NN = _
 simp only [nzj, T.run, cz0, Option.bind_some, dzz, negV]
 cases h : vV a
 ·rfl
 ·simp only [vV_iff] at h
  rw [w64 (x := 0 - a.Hi) (by omega) (by omega), w64 (x := 0 - a.Lo) (by omega) (by omega)]
  simp
theorem rzt (a b : az0) : (dzp a b).o = some (Ozn a b) := by
 show (lzl a b).run NN = _
 simp only [lzl, T.run, kz3, Option.bind_some, dzz, Ozn]
 cases h : vV a && vV b <;> rfl
theorem qzr (a : az0) (h : vV a = true) : (kz0 a).o = some (a.Hi - a.Lo) := by
 show (kz1 a).run NN = _
 simp only [kz1, T.run, cz0, Option.bind_some, dzz, h]
 simp only [vV_iff] at h
 rw [w64 (by omega) (by omega)]; rfl
theorem Bzq (a : az0) (x : Int) : (tzs a x).o = some (vV a && (decide (a.Lo ≤ x) && decide (x ≤ a.Hi))) := by
 show (nzg a x).run NN = _
 simp only [nzg, T.run, cz0, Option.bind_some, dzz, mzf]
theorem xzc {a b : Int} (hb : InR b) : (ozn a b).o = some (limV (a / 65536) (cdiv b 65536)) := by
 show (iza a b).run NN = _
 simp only [iza, T.run, sd16, su16 hb, hz3, Option.bind_some]
theorem Qzl {a b : az0} (ha : vV a = true) (hb : vV b = true) : InR (Iz5 a b) /\ InR (Iz4 a b) /\ Iz5 a b ≤ Iz4 a b := by
 simp only [vV_iff] at ha hb
 obtain ⟨-, p1, p2⟩ := wmul (a := a.Lo) (b := b.Lo) ⟨by omega, by omega⟩ ⟨by omega, by omega⟩
 obtain ⟨-, q1, q2⟩ := wmul (a := a.Lo) (b := b.Hi) ⟨by omega, by omega⟩ ⟨by omega, by omega⟩
 obtain ⟨-, r1, r2⟩ := wmul (a := a.Hi) (b := b.Lo) ⟨by omega, by omega⟩ ⟨by omega, by omega⟩
 obtain ⟨-, s1, s2⟩ := wmul (a := a.Hi) (b := b.Hi) ⟨by omega, by omega⟩ ⟨by omega, by omega⟩
 unfold Iz5 Iz4 InR
 generalize a.Lo * b.Lo = p at *
 generalize a.Lo * b.Hi = q at *
 generalize a.Hi * b.Lo = r at *
 generalize a.Hi * b.Hi = s at *
 omega
theorem tzu (a b : az0) : (azk a b).o = some (mulV a b) := by
 show (nzi a b).run NN = _
 simp only [nzi, T.run, kz3, Option.bind_some, mulV]
 cases h : vV a && vV b
 ·rfl
 ·simp only [Bool.and_eq_true] at h
  have hm := Qzl h.1 h.2
  simp only [vV_iff] at h
  rw [(wmul (a := a.Lo) (b := b.Lo) ⟨by omega, by omega⟩ ⟨by omega, by omega⟩).1, (wmul (a := a.Lo) (b := b.Hi) ⟨by omega, by omega⟩ ⟨by omega, by omega⟩).1,
      (wmul (a := a.Hi) (b := b.Lo) ⟨by omega, by omega⟩ ⟨by omega, by omega⟩).1, (wmul (a := a.Hi) (b := b.Hi) ⟨by omega, by omega⟩ ⟨by omega, by omega⟩).1]
  simp only [Bool.not_true, cond_false]
  refine Eq.trans (ezi (fun i => match i with
   | 0 => (a.Lo * b.Lo, a.Lo * b.Lo, 0)
   | 1 => (a.Lo * b.Lo, a.Lo * b.Lo, 1)
   | 2 => (min (a.Lo * b.Lo) (a.Lo * b.Hi), max (a.Lo * b.Lo) (a.Lo * b.Hi), 2)
   | 3 => (min (min (a.Lo * b.Lo) (a.Lo * b.Hi)) (a.Hi * b.Lo), max (max (a.Lo * b.Lo) (a.Lo * b.Hi)) (a.Hi * b.Lo), 3)
   | _ => (Iz5 a b, Iz4 a b, 4)) (Iz5 a b, Iz4 a b) 4 rfl (by decide) ?_ ?_) ?_
  ·intro j hj
   match j, hj with
   | 0, _ => simp [azf, IntKind.wrap, IntKind.bits, IntKind.signed]
   | 1, _ => simp [azf, IntKind.wrap, IntKind.bits, IntKind.signed]
   | 2, _ => simp [azf, IntKind.wrap, IntKind.bits, IntKind.signed]
   | 3, _ => simp [azf, IntKind.wrap, IntKind.bits, IntKind.signed, Iz5, Iz4]
  ·rfl
  ·rw [xzc hm.2.1]; rfl
def pd1 (x : Int) : Int := IntKind.i64.wrap (x * 6746518852) / 65536
def pu1 (x : Int) : Int := cdiv (IntKind.i64.wrap (x * 6746518853)) 65536
def pd (x : Int) : Nat -> Int
 | 0 => pd1 x
 | k + 1 => IntKind.i64.wrap (pd x k * pd1 x) / 1073741824
def pu (x : Int) : Nat -> Int
 | 0 => pu1 x
 | k + 1 => cdiv (IntKind.i64.wrap (pu x k * pu1 x)) 1073741824
theorem qzk (x : Int) : (jzs x).o = some ((1073741824, pd x 0, pd x 1, pd x 2, pd x 3, pd x 4, pd x 5, pd x 6, pd x 7, pd x 8, pd x 9), (1073741824, pu x 0, pu x 1, pu x 2, pu x 3, pu x 4, pu x 5, pu x 6, pu x 7, pu x 8, pu x 9)) := by
 show (jzt x).run NN = _
 simp only [jzt, T.run, sd16, su16 (InR.wr _), sd30, su30 (InR.wr _), Option.bind_some, pd, pu, pd1, pu1]
theorem Qzm {x : Int} (h0 : 0 ≤ x) (h1 : x ≤ 8192) : 0 ≤ pd1 x /\ pd1 x ≤ 1073741824 := by
 unfold pd1; rw [w64 (by omega) (by omega)]; omega
theorem Qzp {x : Int} (h0 : 0 ≤ x) (h1 : x ≤ 8192) : 0 ≤ pu1 x /\ pu1 x ≤ 1073741824 := by
 unfold pu1 cdiv; rw [w64 (by omega) (by omega)]; omega
theorem Nz0 {a b : Int} (ha : 0 ≤ a /\ a ≤ 1073741824) (hb : 0 ≤ b /\ b ≤ 1073741824) : 0 ≤ a * b /\ a * b ≤ 1152921504606846976 := by
 refine ⟨Int.mul_nonneg ha.1 hb.1, ?_⟩
 have := Int.mul_le_mul ha.2 hb.2 hb.1 (by omega : (0 : Int) ≤ 1073741824)
 omega
theorem Sz5 {x : Int} (h0 : 0 ≤ x) (h1 : x ≤ 8192) : ∀ k, 0 ≤ pd x k /\ pd x k ≤ 1073741824
 | 0 => Qzm h0 h1
 | k + 1 => by
   have := Nz0 (Sz5 h0 h1 k) (Qzm h0 h1)
   simp only [pd]
   generalize pd x k * pd1 x = y at this ⊢
   rw [w64 (by omega) (by omega)]; omega
theorem Sz7 {x : Int} (h0 : 0 ≤ x) (h1 : x ≤ 8192) : ∀ k, 0 ≤ pu x k /\ pu x k ≤ 1073741824
 | 0 => Qzp h0 h1
 | k + 1 => by
   have := Nz0 (Sz7 h0 h1 k) (Qzp h0 h1)
   simp only [pu]
   generalize pu x k * pu1 x = y at this ⊢
   rw [w64 (by omega) (by omega)]; unfold cdiv; omega
theorem czj {n d : Int} (h0 : 0 ≤ n) (h1 : n ≤ 1073741824) (h2 : 0 < d) (h3 : d ≤ 1073741824) : (cz4 n d).o = some (cdiv n d) := by
 show (lz8 n d).run NN = _
 simp only [lz8, T.run]
 rw [azf (by omega), w64 (x := n + d) (by omega) (by omega), w64 (x := n + d - 1) (by omega) (by omega), fza (by omega)]
 have h4 := zzo (a := n + d - 1) h2
 have h5 := Fzb (a := n + d - 1) h2
 have h6 := (zzn (a := n + d - 1) h2).1 (by omega)
 rw [w64 (by omega) (by omega)]
 congr 1; symm
 rw [vzh h2]; omega
def alt (l : List Int) : Nat -> Int × Int
 | 0 => (0, 1)
 | k + 1 => (IntKind.i64.wrap ((alt l k).1 + IntKind.i64.wrap ((alt l k).2 * l.getD k default)), IntKind.i64.wrap (0 - (alt l k).2))
theorem gzh (l : List Int) (h : l.length < 4294967296) : (bzw l).o = some (alt l l.length).1 := by
 show (gzg l).run NN = _
 simp only [gzg, T.run]
 refine Eq.trans (ezi (fun i => ((alt l i).1, (alt l i).2, (i : Int))) (alt l l.length).1 l.length rfl h ?_ ?_) rfl
 ·intro j hj
  rw [az9 (by simpa using hj), azf ⟨by simp, by simpa using hj⟩]
  simp only [alt, w64n (show j < 9223372036854775807 by omega), Int.toNat_natCast]
 ·rw [az6 (by simp)]
theorem alt4 {a b c d : Int} (ha : 0 ≤ a /\ a ≤ 1073741824) (hb : 0 ≤ b /\ b ≤ 1073741824) (hc : 0 ≤ c /\ c ≤ 1073741824) (hd : 0 ≤ d /\ d ≤ 1073741824) : (bzw [a, b, c, d]).o = some (a - b + c - d) := by
 rw [gzh _ (by simp)]
 simp [alt, wr]; omega
theorem alt5 {a b c d e : Int} (ha : 0 ≤ a /\ a ≤ 1073741824) (hb : 0 ≤ b /\ b ≤ 1073741824) (hc : 0 ≤ c /\ c ≤ 1073741824) (hd : 0 ≤ d /\ d ≤ 1073741824) (he : 0 ≤ e /\ e ≤ 1073741824) : (bzw [a, b, c, d, e]).o = some (a - b + c - d + e) := by
 rw [gzh _ (by simp)]
 simp [alt, wr]; omega
theorem alt6 {a b c d e f : Int} (ha : 0 ≤ a /\ a ≤ 1073741824) (hb : 0 ≤ b /\ b ≤ 1073741824) (hc : 0 ≤ c /\ c ≤ 1073741824) (hd : 0 ≤ d /\ d ≤ 1073741824) (he : 0 ≤ e /\ e ≤ 1073741824) (hf : 0 ≤ f /\ f ≤ 1073741824) : (bzw [a, b, c, d, e, f]).o = some (a - b + c - d + e - f) := by
 rw [gzh _ (by simp)]
 simp [alt, wr]; omega
def encV (lo hi : Int) : az0 := ⟨max 0 (lo / 16384), min 65536 (cdiv hi 16384)⟩
theorem ozg {a b : Int} (hb : InR b) : (iz3 a b).o = some (encV a b) := by
 show (iz4 a b).run NN = _
 simp only [iz4, T.run, sd14, su14 hb, Option.bind_some, encV]
def sLo (x : Int) : Int := pd x 0 - cdiv (pu x 2) 6 + pd x 4 / 120 - cdiv (pu x 6) 5040
def sHi (x : Int) : Int := pu x 0 - pd x 2 / 6 + cdiv (pu x 4) 120 - pd x 6 / 5040 + cdiv (pu x 8) 362880
def cLo (x : Int) : Int := 1073741824 - cdiv (pu x 1) 2 + pd x 3 / 24 - cdiv (pu x 5) 720 + pd x 7 / 40320 - cdiv (pu x 9) 3628800
def cHi (x : Int) : Int := 1073741824 - pd x 1 / 2 + cdiv (pu x 3) 24 - pd x 5 / 720 + cdiv (pu x 7) 40320
theorem q_bd {a b : Int} (ha : 0 ≤ a /\ a ≤ 1073741824) (hb : 0 < b) : 0 ≤ a / b /\ a / b ≤ 1073741824 := by
 have := (zzn (a := a) hb).1 ha.1; omega
theorem c_bd {a b : Int} (ha : 0 ≤ a /\ a ≤ 1073741824) (hb : 0 < b) : 0 ≤ cdiv a b /\ cdiv a b ≤ 1073741824 := by
 have h := Dz6 (a := a) hb
 by_cases h0 : a = 0
 ·have := h.2 (by omega); omega
 ·have := h.1 (by omega); omega
theorem wq {a b : Int} (ha : 0 ≤ a /\ a ≤ 1073741824) (hb : 0 < b) : IntKind.i64.wrap (a.tdiv b) = a / b := by
 rw [fza ha.1]; have := q_bd ha hb; exact w64 (by omega) (by omega)
section
variable {x : Int} (h0 : 0 ≤ x) (h1 : x ≤ 8192)
include h0 h1
theorem Ezz : (yz2 x).o = some (encV (sLo x) (sHi x)) := by
 have P := Sz5 h0 h1
 have U := Sz7 h0 h1
 show (rze x).run NN = _
 simp only [rze, T.run, T.ix, qzk, Option.bind_some, czj (U 2).1 (U 2).2 (show (0 : Int) < 6 by decide) (by decide), czj (U 6).1 (U 6).2 (show (0 : Int) < 5040 by decide) (by decide),
  czj (U 4).1 (U 4).2 (show (0 : Int) < 120 by decide) (by decide), czj (U 8).1 (U 8).2 (show (0 : Int) < 362880 by decide) (by decide), wq (P 4) (show (0 : Int) < 120 by decide), wq (P 2) (show (0 : Int) < 6 by decide), wq (P 6) (show (0 : Int) < 5040 by decide),
  alt4 (P 0) (c_bd (U 2) (show (0 : Int) < 6 by decide)) (q_bd (P 4) (show (0 : Int) < 120 by decide)) (c_bd (U 6) (show (0 : Int) < 5040 by decide)),
  alt5 (U 0) (q_bd (P 2) (show (0 : Int) < 6 by decide)) (c_bd (U 4) (show (0 : Int) < 120 by decide)) (q_bd (P 6) (show (0 : Int) < 5040 by decide)) (c_bd (U 8) (show (0 : Int) < 362880 by decide))]
 have a0 := U 0; have a1 := q_bd (P 2) (show (0 : Int) < 6 by decide); have a2 := c_bd (U 4) (show (0 : Int) < 120 by decide); have a3 := q_bd (P 6) (show (0 : Int) < 5040 by decide); have a4 := c_bd (U 8) (show (0 : Int) < 362880 by decide)
 rw [ozg ⟨by omega, by omega⟩]; rfl
theorem Bzh : (tzl x).o = some (encV (cLo x) (cHi x)) := by
 have P := Sz5 h0 h1
 have U := Sz7 h0 h1
 have one : (0 : Int) ≤ 1073741824 /\ (1073741824 : Int) ≤ 1073741824 := by decide
 show (nz2 x).run NN = _
 simp only [nz2, T.run, T.ix, qzk, Option.bind_some, czj (U 1).1 (U 1).2 (show (0 : Int) < 2 by decide) (by decide), czj (U 5).1 (U 5).2 (show (0 : Int) < 720 by decide) (by decide), czj (U 9).1 (U 9).2 (show (0 : Int) < 3628800 by decide) (by decide),
  czj (U 3).1 (U 3).2 (show (0 : Int) < 24 by decide) (by decide), czj (U 7).1 (U 7).2 (show (0 : Int) < 40320 by decide) (by decide), wq (P 3) (show (0 : Int) < 24 by decide), wq (P 7) (show (0 : Int) < 40320 by decide), wq (P 1) (show (0 : Int) < 2 by decide), wq (P 5) (show (0 : Int) < 720 by decide),
  alt6 one (c_bd (U 1) (show (0 : Int) < 2 by decide)) (q_bd (P 3) (show (0 : Int) < 24 by decide)) (c_bd (U 5) (show (0 : Int) < 720 by decide)) (q_bd (P 7) (show (0 : Int) < 40320 by decide)) (c_bd (U 9) (show (0 : Int) < 3628800 by decide)),
  alt5 one (q_bd (P 1) (show (0 : Int) < 2 by decide)) (c_bd (U 3) (show (0 : Int) < 24 by decide)) (q_bd (P 5) (show (0 : Int) < 720 by decide)) (c_bd (U 7) (show (0 : Int) < 40320 by decide))]
 have a1 := q_bd (P 1) (show (0 : Int) < 2 by decide); have a2 := c_bd (U 3) (show (0 : Int) < 24 by decide); have a3 := q_bd (P 5) (show (0 : Int) < 720 by decide); have a4 := c_bd (U 7) (show (0 : Int) < 40320 by decide)
 rw [ozg ⟨by omega, by omega⟩]; rfl
end
def qV (r : Int) : az0 := if r ≤ 8192 then encV (sLo r) (sHi r) else encV (cLo (16384 - r)) (cHi (16384 - r))
theorem vzf {r : Int} (h0 : 0 ≤ r) (h1 : r ≤ 16384) : (gzs r).o = some (qV r) := by
 show (pz9 r).run NN = _
 simp only [pz9, T.run, qV]
 by_cases h : r ≤ 8192
 ·rw [az9 h, if_pos h, Ezz h0 h]; rfl
 ·rw [az6 h, if_neg h, w64 (by omega) (by omega), Bzh (by omega) (by omega)]; rfl
theorem Nzz (a : Int) : (((BitVec.ofInt 64 a &&& BitVec.ofInt 64 65535).toNat : Nat) : Int) = a % 65536 := by
 have h1 : (BitVec.ofInt 64 65535).toNat = 2 ^ 16 - 1 := by decide
 rw [BitVec.toNat_and, h1, Nat.and_two_pow_sub_one_eq_mod, BitVec.toNat_ofInt]
 omega
theorem lza (a : Int) : (gzu a).o = some (a % 65536) := by
 show (lz9 a).run NN = _
 simp only [lz9, T.run]
 rw [Nzz, w64 (by omega) (by omega)]
def sinV (a : Int) : az0 :=
 if a % 65536 / 16384 = 0 then qV (a % 65536 % 16384) else if a % 65536 / 16384 = 1 then qV (16384 - a % 65536 % 16384) else
 if a % 65536 / 16384 = 2 then negV (qV (a % 65536 % 16384)) else negV (qV (16384 - a % 65536 % 16384))
theorem zze (a : Int) : (pz8 a).o = some (sinV a) := by
 show (uzi a).run NN = _
 simp only [uzi, T.run, lza, Option.bind_some, sinV]
 rw [fza (by omega), Qz1 (by omega), w64 (x := a % 65536 / 16384) (by omega) (by omega), w64 (x := 16384 - a % 65536 % 16384) (by omega) (by omega), vzf (by omega) (by omega), vzf (by omega) (by omega)]
 simp only [Option.bind_some, tzv]
 by_cases h0 : a % 65536 / 16384 = 0
 ·rw [dz0 h0, if_pos h0]
 ·rw [dz1 h0, if_neg h0]
  by_cases h1 : a % 65536 / 16384 = 1
  ·rw [dz0 h1, if_pos h1]
  ·rw [dz1 h1, if_neg h1]
   by_cases h2 : a % 65536 / 16384 = 2
   ·rw [dz0 h2, if_pos h2]
   ·rw [dz1 h2, if_neg h2]
def cosV (a : Int) : az0 := sinV (a % 65536 + 16384)
theorem Hzh (a : Int) : (uzg a).o = some (cosV a) := by
 show (uzh a).run NN = _
 simp only [uzh, T.run, lza, Option.bind_some, cosV]
 rw [w64 (by omega) (by omega), zze]; rfl
def Gz9 (a : az0) (c : Int) : Bool := decide (a.Lo + (c - a.Lo) % 65536 ≤ a.Hi)
def Tzd (b : Bool) (x y : az0) : az0 := if b then Ozn x y else x
def Kzl (a lo hi : az0) (top bot : Int) : az0 :=
 if vV a then (if a.Hi - a.Lo ≥ 65536 then ⟨-65536, 65536⟩ else Tzd (Gz9 a bot) (Tzd (Gz9 a top) (Ozn lo hi) (ofV 65536)) (ofV (-65536))) else iz
section
variable {a : az0} (h : vV a = true) {c : Int} (h0 : 0 ≤ c) (h1 : c ≤ 65536)
include h h0 h1
theorem kzu : (gzt a c).o = some (Gz9 a c) := by
 show (pza a c).run NN = _
 have hv := h
 simp only [vV_iff] at hv
 simp only [pza, T.run, lza, Option.bind_some, Bzq, h, Bool.true_and, Gz9]
 rw [w64 (x := c - a.Lo) (by omega) (by omega), w64 (by omega) (by omega), decide_eq_true (p := a.Lo ≤ _) (by omega), Bool.true_and]
end
theorem Ezy (a : az0) {t b : Int} (ht : 0 ≤ t /\ t ≤ 65536) (hb : 0 ≤ b /\ b ≤ 65536) : (yz1 a t b).o = some (Kzl a (cosV a.Lo) (cosV a.Hi) t b) := by
 show (rzd a t b).run NN = _
 simp only [rzd, T.run, cz0, Option.bind_some, Kzl]
 cases h : vV a
 ·rfl
 ·simp only [Bool.not_true, cond_false, qzr a h, Option.bind_some, Hzh, rzt, kzu h ht.1 ht.2, kzu h hb.1 hb.2, hz1, if_true]
  by_cases hw : a.Hi - a.Lo ≥ 65536
  ·rw [az9 hw, if_pos hw]
  ·rw [az6 hw, if_neg hw]
   cases Gz9 a t <;> cases Gz9 a b <;> rfl
theorem Bzi (a : az0) {t b : Int} (ht : 0 ≤ t /\ t ≤ 65536) (hb : 0 ≤ b /\ b ≤ 65536) : (tzm a t b).o = some (Kzl a (sinV a.Lo) (sinV a.Hi) t b) := by
 show (nz3 a t b).run NN = _
 simp only [nz3, T.run, cz0, Option.bind_some, Kzl]
 cases h : vV a
 ·rfl
 ·simp only [Bool.not_true, cond_false, qzr a h, Option.bind_some, zze, rzt, kzu h ht.1 ht.2, kzu h hb.1 hb.2, hz1, if_true]
  by_cases hw : a.Hi - a.Lo ≥ 65536
  ·rw [az9 hw, if_pos hw]
  ·rw [az6 hw, if_neg hw]
   cases Gz9 a t <;> cases Gz9 a b <;> rfl
def sinO (a : az0) : az0 := Kzl a (sinV a.Lo) (sinV a.Hi) 16384 49152
def cosO (a : az0) : az0 := Kzl a (cosV a.Lo) (cosV a.Hi) 0 32768
theorem zzd (a : az0) : (rzc a).o = some (sinO a) := by
 show (lz7 a).run NN = _
 simp only [lz7, T.run, Bzi a (show (0 : Int) ≤ 16384 /\ (16384 : Int) ≤ 65536 by decide) (show (0 : Int) ≤ 49152 /\ (49152 : Int) ≤ 65536 by decide), Option.bind_some, sinO]
theorem zzc (a : az0) : (rzb a).o = some (cosO a) := by
 show (lz6 a).run NN = _
 simp only [lz6, T.run, Ezy a (show (0 : Int) ≤ 0 /\ (0 : Int) ≤ 65536 by decide) (show (0 : Int) ≤ 32768 /\ (32768 : Int) ≤ 65536 by decide), Option.bind_some, cosO]
abbrev IV3 := az0 × az0 × az0
abbrev IM3 := IV3 × IV3 × IV3
def izv : IV3 := (iz, iz, iz)
def Azp (v : Int × Int × Int) : IV3 := (ofV v.1, ofV v.2.1, ofV v.2.2)
def Qz2 : IM3 := ((ofV 65536, iz, iz), (iz, ofV 65536, iz), (iz, iz, ofV 65536))
def Nzy (a b : IV3) : IV3 := (addV a.1 b.1, addV a.2.1 b.2.1, addV a.2.2 b.2.2)
def dotV (r v : IV3) : az0 := addV (addV (mulV r.1 v.1) (mulV r.2.1 v.2.1)) (mulV r.2.2 v.2.2)
def Jz2 (m : IM3) (v : IV3) : IV3 := (dotV m.1 v, dotV m.2.1 v, dotV m.2.2 v)
def lim1 (a : az0) : az0 := ⟨max (-65536) (min a.Lo 65536), max (-65536) (min a.Hi 65536)⟩
def rowV (r : IV3) (b : IM3) : IV3 := (lim1 (dotV r (b.1.1, b.2.1.1, b.2.2.1)), lim1 (dotV r (b.1.2.1, b.2.1.2.1, b.2.2.2.1)), lim1 (dotV r (b.1.2.2, b.2.1.2.2, b.2.2.2.2)))
def Rz6 (a b : IM3) : IM3 := (rowV a.1 b, rowV a.2.1 b, rowV a.2.2 b)
def Nzs (axis : Int) (a : az0) : IM3 :=
 if vV a then (if axis = 0 then ((ofV 65536, iz, iz), (iz, cosO a, negV (sinO a)), (iz, sinO a, cosO a)) else
  if axis = 1 then ((cosO a, iz, sinO a), (iz, ofV 65536, iz), (negV (sinO a), iz, cosO a)) else
  if axis = 2 then ((cosO a, negV (sinO a), iz), (sinO a, cosO a, iz), (iz, iz, ofV 65536)) else (izv, izv, izv)) else (izv, izv, izv)
def Czv (v : IV3) : bzb := ⟨Qz2, v⟩
def Kzq : bzb := ⟨Qz2, izv⟩
def Oz6 (a b : bzb) : bzb := ⟨Rz6 a.R b.R, Nzy a.T (Jz2 a.R b.T)⟩
def Pz3 (p : bzb) (v : IV3) : IV3 := Nzy p.T (Jz2 p.R v)
def Qzt (k : Int) (a : az0) : IV3 := if k = 4 then (a, iz, iz) else if k = 5 then (iz, a, iz) else (iz, iz, a)
def Czj (j : azs) (a : az0) : bzb :=
 Oz6 (Czv (Azp j.Offset)) (if j.Kind = 1 \/ j.Kind = 2 \/ j.Kind = 3 then ⟨Nzs (j.Kind - 1) a, izv⟩ else if j.Kind = 4 \/ j.Kind = 5 \/ j.Kind = 6 then Czv (Qzt j.Kind a) else Kzq)
theorem Oz4 {a b : Int} (h : a ≤ b) : clV a ≤ clV b := by unfold clV; omega
theorem Qz7 (a : Int) : -2147483648 ≤ clV a /\ clV a ≤ 2147483648 := by unfold clV; omega
theorem Tzr {a b : Int} (h : a ≤ b) : vV (limV a b) = true := by
 rw [vV_iff]; exact ⟨(Qz7 a).1, Oz4 h, (Qz7 b).2⟩
theorem iz_v : vV iz = true := rfl
theorem of0 : ofV 0 = iz := rfl
theorem Dzp {a b c : Int} (h : a ≤ b) (hc : 0 < c) : a / c ≤ cdiv b c := by
 have h1 := zzo (a := a) hc
 have h2 := zzo (a := -b) hc
 unfold cdiv
 by_cases e : a / c ≤ -(-b / c)
 ·exact e
 ·exfalso
  have h3 : c * (-(-b / c)) < c * (a / c) := Int.mul_lt_mul_of_pos_left (by omega) hc
  rw [Int.mul_neg] at h3
  omega
theorem Tzw (a b : az0) : vV (mulV a b) = true := by
 unfold mulV
 split
 ·rename_i h
  simp only [Bool.and_eq_true] at h
  exact Tzr (Dzp (Qzl h.1 h.2).2.2 (by decide))
 ·exact iz_v
theorem Qzz {x : az0} (h : vV x = true) : addV iz x = x := by
 have hv := h
 rw [vV_iff] at hv
 obtain ⟨lo, hi⟩ := x
 simp only at hv
 have e1 : clV (0 + lo) = lo := by unfold clV; omega
 have e2 : clV (0 + hi) = hi := by unfold clV; omega
 simp only [addV, h, iz_v, Bool.and_self, if_true, limV]
 exact congr (congrArg az0.mk e1) e2
theorem add0 (a b : az0) : addV ⟨0, 0⟩ (mulV a b) = mulV a b := Qzz (Tzw a b)
theorem nzn (v : Int × Int × Int) : (jz6 v).o = some (Azp v) := by
 show (nzm v).run NN = _
 simp only [nzm, T.run, T.ix, hz1, Option.bind_some, Azp]
theorem xzh : matrix_Identity_C.o = some Qz2 := by
 show matrix_Identity_T.run NN = _
 simp only [matrix_Identity_T, T.run, T.ix, hz1, Option.bind_some, Qz2, iz]
theorem yzb (a b : IV3) : (yza a b).o = some (Nzy a b) := by
 show (sz2 a b).run NN = _
 simp only [sz2, T.run, T.ix, nzf, Option.bind_some, Nzy]
theorem uz0 (m : IM3) (v : IV3) : (tzz m v).o = some (Jz2 m v) := by
 show (nzl m v).run NN = _
 simp only [nzl, T.run, T.ix, nzf, tzu, Option.bind_some, add0, Jz2, dotV]
theorem yzw (x : Int) : (azx x).o = some (max (-65536) (min x 65536)) := by
 show (kz5 x).run NN = _
 simp only [kz5, T.run, Option.some.injEq]; omega
set_option maxRecDepth 20000 in
theorem yzv (a b : IM3) : (qzv a b).o = some (Rz6 a b) := by
 show (kz4 a b).run NN = _
 simp only [kz4, T.run, T.ix, nzf, tzu, yzw, Option.bind_some, add0, Rz6, rowV, dotV, lim1]
theorem Ez3 (k : Int) (a : az0) : (vzx k a).o = some (Nzs k a) := by
 show (pzv k a).run NN = _
 simp only [pzv, T.run, cz0, zzc, zzd, tzv, hz1, Option.bind_some, Nzs, of0]
 cases h : vV a
 ·rfl
 ·simp only [Bool.not_true, cond_false, if_true]
  by_cases h0 : k = 0
  ·rw [dz0 h0, if_pos h0]
  ·rw [dz1 h0, if_neg h0]
   by_cases h1 : k = 1
   ·rw [dz0 h1, if_pos h1]
   ·rw [dz1 h1, if_neg h1]
    by_cases h2 : k = 2
    ·rw [dz0 h2, if_pos h2]
    ·rw [dz1 h2, if_neg h2]; rfl
theorem yzf : pose_still_C.o = some izv := by
 show pose_still_T.run NN = _
 simp only [pose_still_T, T.run, nzn, Option.bind_some, Azp, of0, izv]
theorem jzl (v : IV3) : (mzp v).o = some (Czv v) := by
 show (sz7 v).run NN = _
 simp only [sz7, T.run, xzh, Option.bind_some, Czv]
theorem sz6 : pose_Identity_C.o = some Kzq := by
 show pose_Identity_T.run NN = _
 simp only [pose_Identity_T, T.run, yzf, jzl, Option.bind_some, Czv, Kzq]
theorem Izc (k : Int) (a : az0) : (Azq k a).o = some ⟨Nzs k a, izv⟩ := by
 show (uzx k a).run NN = _
 simp only [uzx, T.run, Ez3, yzf, Option.bind_some]
theorem jz9 (a b : bzb) : (gz4 a b).o = some (Oz6 a b) := by
 show (nzs a b).run NN = _
 have h1 : (mzq a).o = (jzm a).run NN := rfl
 simp only [nzs, T.run, h1, jzm, Option.bind_some, yzv]
 refine Eq.trans (congrArg (fun o => Option.bind o _) (show (jza _ _ _ _ _ _ _ _ _ _ _ _ _ _ _ _ _ _ _ _ _ _ _ _ _).o = (gz5 _ _ _ _ _ _ _ _ _ _ _ _ _ _ _ _ _ _ _ _ _ _ _ _ _).run NN from rfl)) ?_
 simp only [gz5, T.run, uz0, yzb, Option.bind_some]; rfl
theorem Gzj (a : bzb) (v : IV3) : (yze a v).o = some (Pz3 a v) := by
 show (sz5 a v).run NN = _
 have h1 : (mzq a).o = (jzm a).run NN := rfl
 simp only [sz5, T.run, h1, jzm, Option.bind_some]
 refine Eq.trans (congrArg (fun o => Option.bind o _) (show (jza _ _ _ _ _ _ _ _ _ _ _ _ _ _ _ _ _ _ _ _ _ _ _ _ _).o = (gz5 _ _ _ _ _ _ _ _ _ _ _ _ _ _ _ _ _ _ _ _ _ _ _ _ _).run NN from rfl)) ?_
 simp only [gz5, T.run, uz0, yzb, Option.bind_some]; rfl
theorem Hzk (k : Int) (a : az0) : (zzg k a).o = some ⟨Nzs k a, izv⟩ := by
 show (uzk k a).run NN = _
 simp only [uzk, T.run, Izc, Option.bind_some]
theorem Hzj (k : Int) (a : az0) : (zzf k a).o = some Kzq := by
 show (uzj k a).run NN = _
 simp only [uzj, T.run, sz6, Option.bind_some]
theorem Fz1 {k : Int} (a : az0) (h : k = 4 \/ k = 5 \/ k = 6) : (yz3 (k - 4) a).o = some (Czv (Qzt k a)) := by
 show (rzf (k - 4) a).run NN = _
 simp only [rzf, T.run, T.ix]
 rcases h with rfl | rfl | rfl
 ·simp only [show ((4 - 4 : Int) == 0) = true from rfl, cond_true, az7, jzl]; rfl
 ·simp only [show ((5 - 4 : Int) == 0) = false from rfl, show ((5 - 4 : Int) == 1) = true from rfl, cond_true, cond_false, az7, jzl]; rfl
 ·simp only [show ((6 - 4 : Int) == 0) = false from rfl, show ((6 - 4 : Int) == 1) = false from rfl, show ((6 - 4 : Int) == 2) = true from rfl, cond_true, cond_false, az7, jzl]; rfl
theorem Mze (k a b c : Int) {R : Type} : (bif k == a then some (.out (k == a)) else bif k == b then some (.out (k == b)) else some (.out (k == c)) : Option (Step3 Unit Bool R)) = some (.out (decide (k = a \/ k = b \/ k = c))) := by
 by_cases h1 : k = a
 ·rw [dz0 h1]; simp [h1]
 ·rw [dz1 h1]
  by_cases h2 : k = b
  ·rw [dz0 h2]; simp [h2]
  ·rw [dz1 h2]; simp [h1, h2, Bool.beq_eq_decide_eq]
theorem mo0 (k : Int) : (ezd k).o = if k = 1 \/ k = 2 \/ k = 3 then some (k - 1) else none := by
 show (eze k).run NN = _
 simp only [eze, T.run, Mze, az7]
 by_cases h : k = 1 \/ k = 2 \/ k = 3
 ·rw [az9 h, if_pos h, w64 (by omega) (by omega)]
 ·rw [az6 h, if_neg h]; cases decide (k = 4 \/ k = 5 \/ k = 6) <;> rfl
theorem mo1 (k : Int) (h : ¬ (k = 1 \/ k = 2 \/ k = 3)) : (ezf k).o = if k = 4 \/ k = 5 \/ k = 6 then some (k - 4) else none := by
 show (ezg k).run NN = _
 simp only [ezg, T.run, Mze, az7]
 rw [az6 h]
 by_cases h : k = 4 \/ k = 5 \/ k = 6
 ·rw [az9 h, if_pos h, w64 (by omega) (by omega)]
 ·rw [az6 h, if_neg h]
theorem mo2 (k : Int) (h : ¬ (k = 1 \/ k = 2 \/ k = 3)) (h' : ¬ (k = 4 \/ k = 5 \/ k = 6)) : (gzo k).o = some 0 := by
 show (ezh k).run NN = _
 simp only [ezh, T.run, Mze, az7]
 rw [az6 h, az6 h']
theorem vzq (j : azs) (a : az0) : (mzi j a).o = some (Czj j a) := by
 show (hz4 j a).run NN = _
 simp only [hz4, T.run, nzn, jzl, Option.bind_some, mo0, Czj]
 by_cases h : j.Kind = 1 \/ j.Kind = 2 \/ j.Kind = 3
 ·simp only [if_pos h, Option.isSome_some, cond_true, Option.bind_some, Hzk, jz9]
 ·simp only [if_neg h, Option.isSome_none, cond_false, mo1 _ h]
  by_cases h' : j.Kind = 4 \/ j.Kind = 5 \/ j.Kind = 6
  ·simp only [if_pos h', Option.isSome_some, cond_true, Option.bind_some, Fz1 a h', jz9]
  ·simp only [if_neg h', Option.isSome_none, cond_false, mo2 _ h h', Option.bind_some, Hzj, jz9]
theorem izs {R : Type} {f : Int -> Option (Step3 Int U0 R)} {k : U0 -> Option R} (g : Nat -> Option R) (n : Nat) (hn : n < 4294967296)
 (hs : ∀ j, j < n -> f (j : Int) = match g j with | some r => some (.fin r) | none => some (.next ((j + 1 : Nat) : Int))) (he : f (n : Int) = some (.out .u)) :
 andK (iter f NN 0) k = match scan g n 0 with | some r => some r | none => k .u := ozr (fun j => (j : Int)) g .u n rfl hn hs he
theorem wn {n : Nat} (h : n < 4294967296) : IntKind.i64.wrap ((n : Int) + 1) = ((n + 1 : Nat) : Int) := w64n (by omega)
def sw {R : Type} (b : Bool) (r : R) : Option R := bif b then some r else none
theorem fzk {σ τ R : Type} {b : Bool} {r : R} {x : σ} : (bif b then some (.fin r) else some (.next x) : Option (Step3 σ τ R)) = match sw b r with | some r => some (.fin r) | none => some (.next x) := by cases b <;> rfl
def cz5 (g : Nat -> Bool) (n : Nat) : Bool := decide (∀ i, i < n -> g i = false)
theorem ez4 {R : Type} {g : Nat -> Bool} {n : Nat} {r : R} : scan (fun i => sw (g i) r) n 0 = sw (!cz5 g n) r := by
 cases h : scan (fun i => sw (g i) r) n 0 with
 | none =>
   rw [gz9] at h
   have : cz5 g n = true := decide_eq_true fun i hi => by
    have := h i (Nat.zero_le _) (by omega)
    unfold sw at this
    cases hg : g i with
    | true => rw [hg] at this; cases this
    | false => rfl
   rw [this]; rfl
 | some x =>
   obtain ⟨j, h1, h2, h3, -⟩ := hzp _ _ h
   have : cz5 g n = false := decide_eq_false fun hn => by
    have := hn j (by omega)
    simp only [this, sw, cond_false] at h3; cases h3
   rw [this]
   unfold sw at h3 ⊢
   cases hg : g j with
   | true => rw [hg] at h3; simpa using h3.symm
   | false => rw [hg] at h3; cases h3
theorem noneB_iff {g : Nat -> Bool} {n : Nat} : cz5 g n = true ↔ ∀ i, i < n -> g i = false := by simp [cz5]
theorem Qze (s : ByteArray) (i : Nat) : s.get! i = s.data.getD i 0 := by
 cases s with | mk d => simp only [ByteArray.get!]; rw [getElem!_def, Array.getD_eq_getD_getElem?]; cases d[i]? <;> rfl
def yzo (s : ByteArray) (i : Nat) : Nat := (s.data.getD i 0).toNat
theorem Qzb {s : ByteArray} {i : Nat} (h : yzo s i < 128) : Utf8.decode s i = (yzo s i, 1) := by
 rw [Lib.decode_at, Qze]; exact if_pos h
theorem Tza {s : ByteArray} {i : Nat} (h : 128 ≤ yzo s i) : 128 ≤ (Utf8.decode s i).1 := by
 rw [Lib.decode_at, Qze]
 unfold Lib.decodeN
 rw [if_neg (by unfold yzo at h; omega)]
 repeat' split
 all_goals (simp only; omega)
def badN (s : ByteArray) (i : Nat) : Bool := decide (¬ (97 ≤ yzo s i /\ yzo s i ≤ 122) /\ (i = 0 \/ (yzo s i ≠ 95 /\ ¬ (48 ≤ yzo s i /\ yzo s i ≤ 57))))
def Azi (s : ByteArray) : Bool := !(decide (s.size = 0) || (decide (16 < s.size) || (s == ⟨#[119, 111, 114, 108, 100]⟩))) && cz5 (badN s) s.size
theorem Izi (s : ByteArray) : (Azu s).o = some (Azi s) := by
 show (vz2 s).run NN = _
 simp only [vz2, T.run, bzi, az7, Azi, ez6]
 have e1 : decide ((s.size : Int) < 1) = decide (s.size = 0) := by congr 1; apply propext; omega
 have e2 : decide ((s.size : Int) > 16) = decide (16 < s.size) := by congr 1; apply propext; omega
 rw [e1, e2]
 cases h : (decide (s.size = 0) || (decide (16 < s.size) || (s == ⟨#[119, 111, 114, 108, 100]⟩)))
 ·simp only [Bool.or_eq_false_iff, decide_eq_false_iff_not] at h
  rw [cond_false]
  refine (izs (fun i => sw (badN s i) false) s.size (by omega) (fun j hj => ?_) ?_).trans ?_
  ·rw [az9 (by omega), ← fzk, wn (by omega)]
   simp only [Int.toNat_natCast, azf (show 0 ≤ (j : Int) /\ (j : Int) < (s.size : Int) by omega), bzi, az7]
   refine congrArg (fun b => bif b then some (Step3.fin false) else some (Step3.next ((j + 1 : Nat) : Int))) ?_
   rw [Bool.eq_iff_iff]
   simp only [ez6, mzf, badN, Bool.and_eq_true, Bool.or_eq_true, Bool.not_eq_true', Bool.and_eq_false_iff, Bool.or_eq_false_iff, decide_eq_true_eq, decide_eq_false_iff_not, beq_iff_eq, bne_iff_ne, ne_eq]
   unfold yzo
   omega
  ·rw [az6 (by omega)]
  ·rw [ez4]
   cases cz5 (badN s) s.size <;> rfl
 ·rfl
theorem zz5 (a : Int) : (rz8 a).o = some (decide (97 ≤ a) && decide (a ≤ 122)) := by
 show (kzn a).run NN = _
 simp only [kzn, T.run, dzz, mzf]
theorem Bza (a : Int) : (tz3 a).o = some (decide (48 ≤ a) && decide (a ≤ 57)) := by
 show (mz6 a).run NN = _
 simp only [mz6, T.run, dzz, mzf]
theorem Hz8 (s : ByteArray) : (yzm s).o = some (Azi s) := by
 show (tz2 s).run NN = _
 simp only [tz2, T.run, bzi, az7, Azi, ez6]
 have e1 : ((s.size : Int) == 0) = decide (s.size = 0) := by rw [Bool.eq_iff_iff]; simp
 have e2 : decide ((s.size : Int) > 16) = decide (16 < s.size) := by congr 1; apply propext; omega
 rw [e1, e2]
 cases h : (decide (s.size = 0) || (decide (16 < s.size) || (s == ⟨#[119, 111, 114, 108, 100]⟩)))
 ·simp only [Bool.or_eq_false_iff, decide_eq_false_iff_not] at h
  rw [cond_false]
  refine (ozr (fun j => j) (fun i => sw (badN s i) false) .u s.size rfl (show s.size < 4294967296 by omega) (fun j hj => ?_) ?_).trans ?_
  ·rw [az9 hj]
   simp only [zz5, Bza, Option.bind_some, bzi, az7]
   have key : (bif !(decide (97 ≤ ((Utf8.decode s j).1 : Int)) && decide (((Utf8.decode s j).1 : Int) ≤ 122)) then bif ((j : Int) == 0) then true else
    bif !(decide (48 ≤ ((Utf8.decode s j).1 : Int)) && decide (((Utf8.decode s j).1 : Int) ≤ 57)) then ((Utf8.decode s j).1 : Int) != 95 else false else false) = badN s j := by
    by_cases hb : yzo s j < 128
    ·rw [Qzb hb, Bool.eq_iff_iff]
     simp only [ez6, mzf, badN, Bool.and_eq_true, Bool.or_eq_true, Bool.not_eq_true', Bool.and_eq_false_iff, Bool.or_eq_false_iff, decide_eq_true_eq, decide_eq_false_iff_not, beq_iff_eq, bne_iff_ne, ne_eq]
     omega
    ·have := Tza (s := s) (i := j) (by omega)
     rw [Bool.eq_iff_iff]
     simp only [ez6, mzf, badN, Bool.and_eq_true, Bool.or_eq_true, Bool.not_eq_true', Bool.and_eq_false_iff, Bool.or_eq_false_iff, decide_eq_true_eq, decide_eq_false_iff_not, beq_iff_eq, bne_iff_ne, ne_eq]
     omega
   rw [key]
   cases hbad : badN s j
   ·have : yzo s j < 128 := by
     simp only [badN, decide_eq_false_iff_not] at hbad
     omega
    rw [Qzb this]; rfl
   ·rfl
  ·rw [az6 (by omega)]
  ·rw [ez4]
   cases cz5 (badN s) s.size <;> rfl
 ·rfl
def tzg (l : List azs) (nm : ByteArray) (i : Nat) : Bool := (l.getD i default).Name == nm
theorem Gzs (r : azn) (nm : ByteArray) (h : r.Joints.length < 4294967296) : (yzj r nm).o = some (match scan (fun i => sw (tzg r.Joints nm i) (i : Int)) r.Joints.length 0 with | some x => x | none => -1) := by
 show (szm r nm).run NN = _
 simp only [szm, T.run]
 refine (izs (fun i => sw (tzg r.Joints nm i) (i : Int)) r.Joints.length h (fun j hj => ?_) ?_).trans ?_
 ·rw [az9 (by omega), azf (by omega), wn (by omega), Int.toNat_natCast, ← fzk]; rfl
 ·rw [az6 (by omega)]
 ·cases scan (fun i => sw (tzg r.Joints nm i) (i : Int)) r.Joints.length 0 <;> rfl
theorem Rz1 (b : ByteArray) : (b == b) = true := by
 obtain ⟨d⟩ := b
 show (d == d) = true
 exact beq_self_eq_true d
theorem Rzh {l : List azs} {i : Nat} (hi : i < l.length) : ((match scan (fun k => sw (tzg l (l.getD i default).Name k) (k : Int)) l.length 0 with | some x => x | none => -1) != (i : Int)) = !cz5 (tzg l (l.getD i default).Name) i := by
 have hself : tzg l (l.getD i default).Name i = true := Rz1 _
 cases h : scan (fun k => sw (tzg l (l.getD i default).Name k) (k : Int)) l.length 0 with
 | none =>
   rw [gz9] at h
   have := h i (Nat.zero_le _) (by omega)
   simp only [hself, sw, cond_true] at this; cases this
 | some x =>
   obtain ⟨j, h1, h2, h3, h4⟩ := hzp _ _ h
   have hj : tzg l (l.getD i default).Name j = true /\ x = (j : Int) := by
    cases hb : tzg l (l.getD i default).Name j with
    | false => simp only [hb, sw, cond_false] at h3; cases h3
    | true => simp only [hb, sw, cond_true, Option.some.injEq] at h3; exact ⟨rfl, h3.symm⟩
   have hji : j ≤ i := by
    by_cases e : j ≤ i
    ·exact e
    ·have := h4 i (Nat.zero_le _) (by omega)
     simp only [hself, sw, cond_true] at this; cases this
   simp only [hj.2]
   rw [Bool.eq_iff_iff]
   rw [bne_iff_ne, Bool.not_eq_true', ← Bool.not_eq_true]
   constructor
   ·intro hne hall
    have := noneB_iff.1 hall j (by omega)
    rw [hj.1] at this; cases this
   ·intro hn e
    apply hn
    rw [noneB_iff]
    intro k hk
    have := h4 k (Nat.zero_le _) (by omega)
    cases hb : tzg l (l.getD i default).Name k with
    | false => rfl
    | true => simp only [hb, sw, cond_true] at this; cases this
def ize (v : Int × Int × Int) (m : Int) : Bool := decide (-m ≤ v.1) && (decide (v.1 ≤ m) && (decide (-m ≤ v.2.1) && (decide (v.2.1 ≤ m) && (decide (-m ≤ v.2.2) && decide (v.2.2 ≤ m)))))
theorem nearV_iff {v : Int × Int × Int} {m : Int} : ize v m = true ↔ (-m ≤ v.1 /\ v.1 ≤ m) /\ (-m ≤ v.2.1 /\ v.2.1 ≤ m) /\ (-m ≤ v.2.2 /\ v.2.2 ≤ m) := by
 simp only [ize, Bool.and_eq_true, decide_eq_true_eq, and_assoc]
theorem Azv (v : Int × Int × Int) {m : Int} (h0 : 0 ≤ m) (h1 : m ≤ 9223372036854775807) : (vz3 v m).o = some (ize v m) := by
 show (vz4 v m).run NN = _
 simp only [vz4, T.run, T.ix, bzi, az7]
 simp only [dzz]
 rw [w64 (x := 0 - m) (by omega) (by omega)]
 congr 1
 rw [Bool.eq_iff_iff, nearV_iff]
 simp only [ez6]
 cases h1 : decide (v.1 < 0 - m) || decide (v.1 > m) <;> cases h2 : decide (v.2.1 < 0 - m) || decide (v.2.1 > m) <;> cases h3 : decide (v.2.2 < 0 - m) || decide (v.2.2 > m) <;>
  simp only [Bool.or_eq_true, Bool.or_eq_false_iff, decide_eq_true_eq, decide_eq_false_iff_not] at h1 h2 h3 <;> simp only [cond_true, cond_false, true_iff, false_iff, reduceCtorEq] <;> omega
def bey (x : Int) : Bool := decide (x < -4194304) || decide (x > 4194304)
theorem uzb (v : Int × Int × Int) : (oz5 v).o = some (!ize v 4194304) := by
 show (oz6 v).run NN = _
 simp only [oz6, T.run, bzi, az7, ez6]
 refine (izs (fun i => sw (bey (([v.1, v.2.1, v.2.2] : List Int).getD i 0)) true) 3 (by decide) (fun j hj => ?_) ?_).trans ?_
 ·rw [az9 (by omega), azf (by omega), wn (by omega), Int.toNat_natCast, ← fzk]; rfl
 ·rw [az6 (by omega)]
 ·rw [ez4]
  have : cz5 (fun i => bey (([v.1, v.2.1, v.2.2] : List Int).getD i 0)) 3 = ize v 4194304 := by
   rw [Bool.eq_iff_iff, noneB_iff, nearV_iff]
   constructor
   ·intro h
    have a := h 0 (by decide); have b := h 1 (by decide); have c := h 2 (by decide)
    simp only [bey, List.getD_cons_zero, List.getD_cons_succ, Bool.or_eq_false_iff, decide_eq_false_iff_not] at a b c
    omega
   ·intro h i hi
    match i, hi with
    | 0, _ => simp only [bey, List.getD_cons_zero, Bool.or_eq_false_iff, decide_eq_false_iff_not]; omega
    | 1, _ => simp only [bey, List.getD_cons_zero, List.getD_cons_succ, Bool.or_eq_false_iff, decide_eq_false_iff_not]; omega
    | 2, _ => simp only [bey, List.getD_cons_zero, List.getD_cons_succ, Bool.or_eq_false_iff, decide_eq_false_iff_not]; omega
  rw [this]; cases ize v 4194304 <;> rfl
def dzs (k : Int) : Int := if k = 0 then 0 else if k = 1 \/ k = 2 \/ k = 3 then 524288 else 4194304
theorem Ezh {k : Int} (h0 : 0 ≤ k) (h1 : k ≤ 6) : (wzc k).o = some (dzs k) := by
 show (qz7 k).run NN = _
 simp only [qz7, T.run, Mze, az7, dzs]
 by_cases h : k = 1 \/ k = 2 \/ k = 3
 ·rw [az9 h, if_neg (by omega), if_pos h]
 ·rw [az6 h]
  by_cases h' : k = 4 \/ k = 5 \/ k = 6
  ·rw [az9 h', if_neg (by omega), if_neg h]
  ·rw [az6 h', if_pos (by omega)]
theorem Gzq (k : Int) : (yzi k).o = some (dzs k) := by
 show (szg k).run NN = _
 simp only [szg, T.run, Mze, az7, dzs]
 by_cases h0 : k = 0
 ·rw [dz0 h0, if_pos h0]
 ·rw [dz1 h0, if_neg h0]
  by_cases h : k = 1 \/ k = 2 \/ k = 3
  ·rw [az9 h, if_pos h]
  ·rw [az6 h, if_neg h]
def betV (x a b : Int) : Bool := decide (a ≤ x) && decide (x ≤ b)
theorem wzb (x m : Int) : (fzt x m).o = some (betV x 1 m) := by
 show (qz6 x m).run NN = _
 simp only [qz6, T.run, dzz, mzf, betV]
theorem uz7 (x a b : Int) : (fz0 x a b).o = some (betV x a b) := by
 show (oz3 x a b).run NN = _
 simp only [oz3, T.run, dzz, mzf, betV]
def Kz9 (j : azs) : Bool := betV j.Weight 1 1024 && (betV j.Speed 1 1048576 && (betV j.Accel 1 1048576 && betV j.Torque 1 1099511627776))
def ozp (l : List azs) (i : Nat) : Int :=
 let j := l.getD i default
 if !Azi j.Name || !cz5 (tzg l j.Name) i then 802 else if decide (j.Kind < 0) || decide (j.Kind > 6) then 803 else if decide (j.Parent < -1) || decide (j.Parent ≥ (i : Int)) then 804 else if !ize j.Offset 4194304 then 805 else
 if decide (j.Lo > j.Hi) || (decide (j.Lo < -dzs j.Kind) || decide (j.Hi > dzs j.Kind)) then 806 else if !Kz9 j then 807 else 0
theorem Tz7 : ∀ a b c d : Bool, (bif !a || (!b || (!c || !d)) then some (807 : Int) else some 0) = some (if (!(a && (b && (c && d)))) = true then 807 else 0) := by decide
theorem Jzw (k : Int) : 0 ≤ dzs k /\ dzs k ≤ 4194304 := by unfold dzs; split <;> (try split) <;> omega
theorem Gzd (k : Int) : IntKind.i64.wrap (0 - dzs k) = -dzs k := by
 have := Jzw k; rw [w64 (by omega) (by omega)]; omega
theorem wza (r : azn) {i : Nat} (hi : i < r.Joints.length) (h : r.Joints.length < 4294967296) : (mzt r (i : Int)).o = some (ozp r.Joints i) := by
 show (hzo r (i : Int)).run NN = _
 simp only [hzo, T.run]
 rw [azf (by omega), Int.toNat_natCast]
 simp only [Hz8, Gzs r _ h, uzb, wzb, Option.bind_some, bzi, az7, ozp]
 rw [Rzh hi]
 generalize r.Joints.getD i default = j
 cases h1 : Azi j.Name
 ·rfl
 ·cases h2 : cz5 (tzg r.Joints j.Name) i
  ·rfl
  ·simp only [Bool.not_true, cond_false, Bool.or_self, if_neg Bool.false_ne_true]
   by_cases h3 : j.Kind < 0
   ·rw [decide_eq_true h3]; rfl
   ·by_cases h4 : j.Kind > 6
    ·rw [decide_eq_true h4, decide_eq_false h3]; rfl
    ·simp only [decide_eq_false h3, decide_eq_false h4, cond_false, Bool.or_self, if_neg Bool.false_ne_true, Ezh (show 0 ≤ j.Kind by omega) (by omega), Option.bind_some, Gzd, bzi, az7, ez6]
     cases decide (j.Parent < -1) || decide (j.Parent ≥ (i : Int))
     ·cases ize j.Offset 4194304
      ·rfl
      ·simp only [Bool.not_true, cond_false, if_neg Bool.false_ne_true]
       cases decide (j.Lo > j.Hi) || (decide (j.Lo < -dzs j.Kind) || decide (j.Hi > dzs j.Kind))
       ·simp only [cond_false, if_neg Bool.false_ne_true, Kz9]
        exact Tz7 _ _ _ _
       ·rfl
     ·rfl
theorem xzp (l : List azs) {i : Nat} (hi : i < l.length) (h : l.length < 4294967296) : (ozw l (i : Int)).o = some (ozp l i) := by
 show (izn l (i : Int)).run NN = _
 simp only [izn, T.run]
 rw [azf (by omega), Int.toNat_natCast]
 simp only [Izi, Option.bind_some, ozp]
 cases h1 : Azi (l.getD i default).Name
 ·rfl
 ·simp only [Bool.not_true, cond_false, Bool.false_or]
  refine (izs (fun k => sw (tzg l (l.getD i default).Name k) 802) i (by omega) (fun j hj => ?_) ?_).trans ?_
  ·rw [az9 (by omega), azf (by omega), wn (by omega), Int.toNat_natCast, ← fzk]; rfl
  ·rw [az6 (by omega)]
  ·rw [ez4]
   generalize l.getD i default = j
   cases h2 : cz5 (tzg l j.Name) i
   ·rfl
   ·simp only [Bool.not_true, sw, cond_false, if_neg Bool.false_ne_true, Azv _ (show (0 : Int) ≤ 4194304 by decide) (by decide), Gzq, uz7, Option.bind_some, Gzd, bzi, az7, ez6]
    cases decide (j.Kind < 0) || decide (j.Kind > 6)
    ·cases decide (j.Parent < -1) || decide (j.Parent ≥ (i : Int))
     ·cases ize j.Offset 4194304
      ·rfl
      ·simp only [Bool.not_true, cond_false, if_neg Bool.false_ne_true]
       cases decide (j.Lo > j.Hi) || (decide (j.Lo < -dzs j.Kind) || decide (j.Hi > dzs j.Kind))
       ·simp only [cond_false, if_neg Bool.false_ne_true, Kz9]
        exact Tz7 _ _ _ _
       ·rfl
     ·rfl
    ·rfl
def tab {α : Type} (f : Nat -> α) (n : Nat) : List α := (List.range n).map f
theorem Ezt {α : Type} (f : Nat -> α) (n : Nat) : tab f (n + 1) = tab f n ++ [f n] := by simp [tab, List.range_succ]
theorem mz5 {α : Type} (f : Nat -> α) (n : Nat) : (tab f n).length = n := by simp [tab]
theorem tz1 {α : Type} {f : Nat -> α} {n i : Nat} {d : α} (h : i < n) : (tab f n).getD i d = f i := by simp [tab, List.getD_eq_getElem?_getD, h]
def half {α : Type} (f : Nat -> α) (z : α) (n j : Nat) : List α := tab f j ++ List.replicate (n - j) z
theorem mzh {α : Type} {f : Nat -> α} {z : α} {n j : Nat} (h : j ≤ n) : (half f z n j).length = n := by simp [half, mz5]; omega
theorem jz4 {α : Type} {f : Nat -> α} {z : α} {n j : Nat} (h : j < n) : (half f z n j).set j (f j) = half f z n (j + 1) := by
 unfold half
 rw [List.set_append_right _ _ (by rw [mz5]; omega), mz5, Nat.sub_self]
 obtain ⟨m, hm⟩ : ∃ m, n - j = m + 1 := ⟨n - j - 1, by omega⟩
 rw [hm, List.replicate_succ, List.set_cons_zero, Ezt, show n - (j + 1) = m by omega]; simp
theorem lzk {α : Type} (f : Nat -> α) (z : α) (n : Nat) : half f z n 0 = List.replicate n z := by simp [half, tab]
theorem pzl {α : Type} (f : Nat -> α) (z : α) (n : Nat) : half f z n n = tab f n := by simp [half]
def Bzt (n : Nat) (m : bzh) : Bool := (decide (0 ≤ m.Link) && decide (m.Link < (n : Int))) && (betV m.Mass 1 65536 && ize m.Point 4194304)
theorem xzr (r : azn) (m : bzh) : (ozy r m).o = some (Bzt r.Joints.length m) := by
 show (izr r m).run NN = _
 simp only [izr, T.run, wzb, uzb, Option.bind_some, Bzt]
 cases decide (0 ≤ m.Link) <;> cases decide (m.Link < (r.Joints.length : Int)) <;> cases betV m.Mass 1 65536 <;> cases ize m.Point 4194304 <;> rfl
def badM (n : Nat) (l : List bzh) (i : Nat) : Bool := !Bzt n (l.getD i default)
theorem Rzr (l : List bzh) (js : List azs) (ms : List bzh) (h : l.length < 4294967296) : (dzm l js ms).o = some (match scan (fun i => sw (badM js.length l i) (i : Int)) l.length 0 with | some x => x | none => -1, js, ms) := by
 show (cz8 l js ms).run NN = _
 simp only [cz8, T.run]
 have e1 : ∀ m, (szl m js ms).o = some (!Bzt js.length m, js, ms) := fun m => by
  show (lzx m js ms).run NN = _
  simp only [lzx, T.run, xzr, Option.bind_some]
 refine (ozr (fun j => (js, ms, (j : Int))) (fun i => sw (badM js.length l i) ((i : Int), js, ms)) (js, ms) l.length rfl h (fun j hj => ?_) ?_).trans ?_
 ·rw [az9 (by simpa using hj), azf ⟨by simp, by simpa using hj⟩]
  simp only [e1, Option.bind_some, Int.toNat_natCast]
  rw [wn (by omega)]; unfold badM; cases Bzt js.length (l.getD j default) <;> rfl
 ·rw [az6 (by simp)]
 ·have : ∀ n i, scan (fun i => sw (badM js.length l i) ((i : Int), js, ms)) n i = (scan (fun i => sw (badM js.length l i) (i : Int)) n i).map fun x => (x, js, ms) := by
   intro n
   induction n with
   | zero => intro i; rfl
   | succ n ih =>
     intro i; simp only [scan]
     cases badM js.length l i with
     | true => rfl
     | false => exact ih (i + 1)
  rw [this]
  cases scan (fun i => sw (badM js.length l i) (i : Int)) l.length 0 <;> rfl
theorem Ezm {g : Nat -> Bool} {n : Nat} : decide ((match scan (fun i => sw (g i) (i : Int)) n 0 with | some x => x | none => -1) ≥ 0) = !cz5 g n := by
 cases h : scan (fun i => sw (g i) (i : Int)) n 0 with
 | none =>
   rw [gz9] at h
   have : cz5 g n = true := noneB_iff.2 fun i hi => by
    have := h i (Nat.zero_le _) (by omega)
    cases hg : g i with
    | true => rw [hg] at this; cases this
    | false => rfl
   rw [this]; rfl
 | some x =>
   obtain ⟨j, h1, h2, h3, -⟩ := hzp _ _ h
   cases hg : g j with
   | false => rw [hg] at h3; cases h3
   | true =>
     rw [hg] at h3; simp only [sw, cond_true, Option.some.injEq] at h3
     have : cz5 g n = false := by
      cases hn : cz5 g n with
      | false => rfl
      | true => have := noneB_iff.1 hn j (by omega); rw [hg] at this; cases this
     rw [this, ← h3]; simp
theorem Rz3 (l : List bzh) (js : List azs) (ms : List bzh) (h : l.length < 4294967296) : (dz7 l js ms).o = some (!cz5 (badM js.length l) l.length, js, ms) := by
 show (bzy l js ms).run NN = _
 simp only [bzy, T.run, Rzr l js ms h, Option.bind_some]
 rw [Ezm]
def errJ (l : List azs) (i : Nat) : Option Int := sw (ozp l i != 0) (ozp l i)
def dza (r : azn) : Int :=
 if r.Joints.length = 0 \/ 10 < r.Joints.length then 801 else match scan (errJ r.Joints) r.Joints.length 0 with
  | some e => e
  | none => if 32 < r.Masses.length \/ cz5 (badM r.Joints.length r.Masses) r.Masses.length = false then 808 else 0
theorem wz9 (r : azn) : (qz4 r).o = some (dza r) := by
 show (qz5 r).run NN = _
 simp only [qz5, T.run, bzi, az7, dza]
 by_cases h : r.Joints.length = 0 \/ 10 < r.Joints.length
 ·rw [if_pos h]
  rcases h with h | h
  ·rw [dz0 (by omega)]; rfl
  ·rw [dz1 (by omega), az9 (by omega)]
 ·rw [if_neg h, dz1 (by omega), az6 (by omega)]
  refine (izs (errJ r.Joints) r.Joints.length (by omega) (fun j hj => ?_) ?_).trans ?_
  ·rw [az9 (by omega)]
   simp only [wza ⟨r.Joints, r.Masses⟩ hj (show r.Joints.length < 4294967296 by omega), Option.bind_some]
   rw [wn (by omega), fzk]; rfl
  ·rw [az6 (by omega)]
  ·cases scan (errJ r.Joints) r.Joints.length 0 with
   | some e => rfl
   | none =>
     simp only
     by_cases hm : 32 < r.Masses.length
     ·rw [az9 (by omega), if_pos (Or.inl hm)]; rfl
     ·rw [az6 (by omega), Rz3 _ _ _ (by omega)]
      cases hn : cz5 (badM r.Joints.length r.Masses) r.Masses.length
      ·rw [if_pos (Or.inr rfl)]; rfl
      ·rw [if_neg (by simp; omega)]; rfl
theorem izm (r : azn) : (fzs r).o = some (dza r) := by
 show (izl r).run NN = _
 simp only [izl, T.run, bzi, az7, dza]
 by_cases h : r.Joints.length = 0 \/ 10 < r.Joints.length
 ·rw [if_pos h]
  rcases h with h | h
  ·rw [az9 (by omega)]; rfl
  ·rw [az6 (by omega), az9 (by omega)]
 ·rw [if_neg h, az6 (by omega), az6 (by omega)]
  refine (izs (errJ r.Joints) r.Joints.length (by omega) (fun j hj => ?_) ?_).trans ?_
  ·rw [az9 (by omega)]
   simp only [xzp r.Joints hj (show r.Joints.length < 4294967296 by omega), Option.bind_some]
   rw [wn (by omega), fzk]; rfl
  ·rw [az6 (by omega)]
  ·cases scan (errJ r.Joints) r.Joints.length 0 with
   | some e => rfl
   | none =>
     simp only
     by_cases hm : 32 < r.Masses.length
     ·rw [az9 (by omega), if_pos (Or.inl hm)]
     ·rw [az6 (by omega)]
      refine (izs (fun i => sw (badM r.Joints.length r.Masses i) 808) r.Masses.length (by omega) (fun j hj => ?_) ?_).trans ?_
      ·rw [az9 (by omega), azf (by omega), wn (by omega), Int.toNat_natCast, ← fzk]
       simp only [uz7, Azv _ (show (0 : Int) ≤ 4194304 by decide) (by decide), Option.bind_some, bzi, az7]
       refine congrArg (fun b => bif b then some (Step3.fin 808) else some (Step3.next ((j + 1 : Nat) : Int))) ?_
       unfold badM Bzt
       generalize r.Masses.getD j default = m
       have e1 : decide (m.Link < 0) = !decide (0 ≤ m.Link) := by rw [Bool.eq_iff_iff]; simp
       have e2 : decide (m.Link ≥ (r.Joints.length : Int)) = !decide (m.Link < (r.Joints.length : Int)) := by rw [Bool.eq_iff_iff]; simp
       rw [e1, e2]
       cases decide (0 ≤ m.Link) <;> cases decide (m.Link < (r.Joints.length : Int)) <;> cases betV m.Mass 1 65536 <;> cases ize m.Point 4194304 <;> rfl
      ·rw [az6 (by omega)]
      ·rw [ez4]
       cases hn : cz5 (badM r.Joints.length r.Masses) r.Masses.length
       ·rw [if_pos (Or.inr rfl)]; rfl
       ·rw [if_neg (by simp; omega)]; rfl
theorem jzn {r : azn} (h : dza r = 0) : 1 ≤ r.Joints.length /\ r.Joints.length ≤ 10 /\ ∀ i, i < r.Joints.length -> ozp r.Joints i = 0 := by
 unfold dza at h
 split at h
 ·cases h
 ·refine ⟨by omega, by omega, fun i hi => ?_⟩
  split at h
  ·rename_i e he
   obtain ⟨j, -, -, h3, -⟩ := hzp _ _ he
   unfold errJ sw at h3
   cases hb : ozp r.Joints j != 0 with
   | false => rw [hb] at h3; cases h3
   | true =>
     rw [hb] at h3; simp only [cond_true, Option.some.injEq] at h3
     simp only [bne_iff_ne] at hb
     rw [h3] at hb; exact absurd h hb
  ·rename_i he
   have := (gz9 _ _).1 he i (Nat.zero_le _) (by omega)
   unfold errJ sw at this
   cases hb : ozp r.Joints i != 0 with
   | false => simpa using hb
   | true => rw [hb] at this; cases this
def Az7 (n : Nat) (k : Int) : Bool := decide (-1 ≤ k) && decide (k < (n : Int))
theorem uzc (s : azm) (k : Int) : (jzd s k).o = some (Az7 s.Robot.Joints.length k) := by
 show (oz7 s k).run NN = _
 simp only [oz7, T.run, dzz, mzf, Az7]
def farP (l : List (Int × Int × Int)) (i : Nat) : Bool := !ize (l.getD i default) 4194304
def wzi (n : Nat) (x : bz1) : Int :=
 if (Az7 n x.Link && betV x.Radius 1 1048576) = false \/ x.Points.length = 0 \/ 8 < x.Points.length then 902 else if cz5 (farP x.Points) x.Points.length then 0 else 805
theorem far3 (v : Int × Int × Int) : cz5 (fun i => bey (([v.1, v.2.1, v.2.2] : List Int).getD i 0)) 3 = ize v 4194304 := by
 rw [Bool.eq_iff_iff, noneB_iff, nearV_iff]
 constructor
 ·intro h
  have a := h 0 (by decide); have b := h 1 (by decide); have c := h 2 (by decide)
  simp only [bey, List.getD_cons_zero, List.getD_cons_succ, Bool.or_eq_false_iff, decide_eq_false_iff_not] at a b c
  omega
 ·intro h i hi
  match i, hi with
  | 0, _ => simp only [bey, List.getD_cons_zero, Bool.or_eq_false_iff, decide_eq_false_iff_not]; omega
  | 1, _ => simp only [bey, List.getD_cons_zero, List.getD_cons_succ, Bool.or_eq_false_iff, decide_eq_false_iff_not]; omega
  | 2, _ => simp only [bey, List.getD_cons_zero, List.getD_cons_succ, Bool.or_eq_false_iff, decide_eq_false_iff_not]; omega
theorem wzf (s : azm) (x : bz1) : (mzv s x).o = some (wzi s.Robot.Joints.length x) := by
 show (hzr s x).run NN = _
 simp only [hzr, T.run, uzc, Option.bind_some, bzi, az7, wzi]
 cases hl : Az7 s.Robot.Joints.length x.Link
 ·rfl
 ·simp only [Bool.not_true, cond_false, Bool.true_and]
  by_cases h1 : x.Radius < 1
  ·rw [az9 h1, if_pos]; · rfl
   simp [betV]; omega
  ·rw [az6 h1]
   by_cases h2 : x.Radius > 1048576
   ·rw [az9 h2, if_pos]; · rfl
    simp [betV]; omega
   ·rw [az6 h2]
    by_cases h3 : x.Points.length = 0
    ·rw [az9 (by omega), if_pos (Or.inr (Or.inl h3))]; rfl
    ·rw [az6 (by omega)]
     by_cases h4 : 8 < x.Points.length
     ·rw [az9 (by omega), if_pos (Or.inr (Or.inr h4))]
     ·have hb : betV x.Radius 1 1048576 = true := by simp [betV]; omega
      rw [az6 (by omega), hb, if_neg (fun h5 => by rcases h5 with h5 | h5 | h5; · cases h5
                                                   ·omega
                                                   ·omega)]
      refine (izs (fun i => sw (farP x.Points i) 805) x.Points.length (by omega) (fun j hj => ?_) ?_).trans ?_
      ·rw [az9 (by omega), azf (by omega), Int.toNat_natCast, wn (by omega)]
       refine (izs (fun i => sw (bey (([(x.Points.getD j default).1, (x.Points.getD j default).2.1, (x.Points.getD j default).2.2] : List Int).getD i 0)) (Step3.fin 805)) 3 (by decide) (fun k hk => ?_) ?_).trans ?_
       ·rw [az9 (by omega), azf (by omega), wn (by omega), Int.toNat_natCast, ← fzk]
        simp only [ez6]; rfl
       ·rw [az6 (by omega)]
       ·rw [ez4, far3]; unfold farP
        cases ize (x.Points.getD j default) 4194304 <;> rfl
      ·rw [az6 (by omega)]
      ·rw [ez4]; cases cz5 (farP x.Points) x.Points.length <;> rfl
def errS (n : Nat) (l : List bz1) (i : Nat) : Option Int := sw (wzi n (l.getD i default) != 0) (wzi n (l.getD i default))
def badK (n : Nat) (l : List gzn) (i : Nat) : Bool := !(Az7 n (l.getD i default).A && Az7 n (l.getD i default).B)
def ezl (s : azm) : Int :=
 if dza s.Robot ≠ 0 then dza s.Robot else if 24 < s.Shapes.length then 901 else match scan (errS s.Robot.Joints.length s.Shapes) s.Shapes.length 0 with
  | some e => e
  | none => if 64 < s.Skips.length then 903 else if cz5 (badK s.Robot.Joints.length s.Skips) s.Skips.length then 0 else 903
theorem hzq (s : azm) : (dzg s).o = some (ezl s) := by
 show (qz8 s).run NN = _
 simp only [qz8, T.run, wz9, Option.bind_some, ezl]
 by_cases h : dza s.Robot = 0
 ·rw [czl h, if_neg (by simpa using h)]
  by_cases h1 : 24 < s.Shapes.length
  ·rw [az9 (by omega), if_pos h1]
  ·rw [az6 (by omega), if_neg h1]
   refine (izs (errS s.Robot.Joints.length s.Shapes) s.Shapes.length (by omega) (fun j hj => ?_) ?_).trans ?_
   ·rw [az9 (by omega), azf (by omega), wn (by omega), Int.toNat_natCast]
    simp only [wzf, Option.bind_some]
    rw [fzk]; rfl
   ·rw [az6 (by omega)]
   ·cases scan (errS s.Robot.Joints.length s.Shapes) s.Shapes.length 0 with
    | some e => rfl
    | none =>
      simp only
      by_cases h2 : 64 < s.Skips.length
      ·rw [az9 (by omega), if_pos h2]
      ·rw [az6 (by omega), if_neg h2]
       refine (izs (fun i => sw (badK s.Robot.Joints.length s.Skips i) 903) s.Skips.length (by omega) (fun j hj => ?_) ?_).trans ?_
       ·rw [az9 (by omega), azf (by omega), wn (by omega), Int.toNat_natCast, ← fzk]
        simp only [uzc, Option.bind_some, bzi, az7, badK]
        cases Az7 s.Robot.Joints.length (s.Skips.getD j default).A <;> cases Az7 s.Robot.Joints.length (s.Skips.getD j default).B <;> rfl
       ·rw [az6 (by omega)]
       ·rw [ez4]; cases cz5 (badK s.Robot.Joints.length s.Skips) s.Skips.length <;> rfl
 ·rw [dzf h, if_pos h]
def outJ (l : List azs) (c : List Int) (i : Nat) : Bool := decide (c.getD i default < (l.getD i default).Lo) || decide (c.getD i default > (l.getD i default).Hi)
def czd (r : azn) (c : List Int) : Bool := decide (dza r = 0) && (decide (c.length = r.Joints.length) && cz5 (outJ r.Joints c) c.length)
theorem Bzm (l : List azs) (c : List Int) (h : l.length < 4294967296) : (ezk l c).o = some (decide (c.length = l.length) && cz5 (outJ l c) c.length) := by
 show (dz2 l c).run NN = _
 simp only [dz2, T.run]
 have e1 : ∀ j x, (ozi j x).o = some (decide (j.Lo ≤ x) && decide (x ≤ j.Hi)) := fun j x => by
  show (iz6 j x).run NN = _
  simp only [iz6, T.run, dzz, mzf]
 by_cases h1 : c.length = l.length
 ·rw [czl (by omega), decide_eq_true h1, Bool.true_and]
  refine (izs (fun i => sw (outJ l c i) false) l.length h (fun j hj => ?_) ?_).trans ?_
  ·rw [az9 (by omega), azf (by omega), azf (by omega), wn (by omega), Int.toNat_natCast, ← fzk]
   simp only [e1, Option.bind_some]
   refine congrArg (fun b => bif b then some (Step3.fin false) else some (Step3.next ((j + 1 : Nat) : Int))) ?_
   rw [Bool.eq_iff_iff]
   simp only [outJ, Bool.not_eq_true', Bool.and_eq_false_iff, Bool.or_eq_true, decide_eq_true_eq, decide_eq_false_iff_not]
   omega
  ·rw [az6 (by omega)]
  ·rw [ez4, h1]; cases cz5 (outJ l c) l.length <;> rfl
 ·rw [dzf (by omega), decide_eq_false h1]; rfl
theorem zzi (r : azn) (c : List Int) : (lze r c).o = some (czd r c) := by
 show (lzf r c).run NN = _
 simp only [lzf, T.run, wz9, Option.bind_some, czd]
 by_cases h : dza r = 0
 ·have := jzn h
  rw [dz0 h, Bzm _ _ (by omega), decide_eq_true h]; rfl
 ·rw [dz1 h, decide_eq_false h]; rfl
theorem Bzz (r : azn) (c : List Int) : (uz4 r c).o = some (czd r c) := by
 show (nzt r c).run NN = _
 simp only [nzt, T.run, izm, Option.bind_some, bzi, az7, czd]
 by_cases h : dza r = 0
 ·have := jzn h
  rw [czl h, decide_eq_true h, Bool.true_and]
  by_cases h1 : c.length = r.Joints.length
  ·rw [czl (by omega), decide_eq_true h1, Bool.true_and]
   refine (izs (fun i => sw (outJ r.Joints c i) false) c.length (by omega) (fun j hj => ?_) ?_).trans ?_
   ·rw [az9 (by omega), wn (by omega), ← fzk]
    simp only [Int.toNat_natCast, azf (show 0 ≤ (j : Int) /\ (j : Int) < (c.length : Int) by omega), azf (show 0 ≤ (j : Int) /\ (j : Int) < (r.Joints.length : Int) by omega), bzi, az7, ez6, outJ]
   ·rw [az6 (by omega)]
   ·rw [ez4]; cases cz5 (outJ r.Joints c) c.length <;> rfl
  ·rw [dzf (by omega), decide_eq_false h1]; rfl
 ·rw [dzf h, decide_eq_false h]; rfl
def big1 (l : List Int) (i : Nat) : Bool := decide (l.getD i default < -2147483648) || decide (l.getD i default > 2147483648)
def jzp (l : List Int) : Bool := cz5 (big1 l) l.length
theorem tzo (l : List Int) (h : l.length < 4294967296) : (nz8 l).o = some (jzp l) := by
 show (nz9 l).run NN = _
 have e1 : ∀ x, (qzo x).o = some (decide (x < -2147483648) || decide (x > 2147483648)) := fun x => by
  show (jzw x).run NN = _
  simp only [jzw, T.run, dzz, ez6]
 have e2 : (ezm l).o = some (match scan (fun i => sw (big1 l i) (i : Int)) l.length 0 with | some x => x | none => -1) := by
  show (dz8 l).run NN = _
  simp only [dz8, T.run]
  refine (izs (fun i => sw (big1 l i) (i : Int)) l.length h (fun j hj => ?_) ?_).trans ?_
  ·rw [az9 (by omega), azf (by omega), wn (by omega), Int.toNat_natCast, ← fzk]
   simp only [e1, Option.bind_some, big1]
  ·rw [az6 (by omega)]
  ·cases scan (fun i => sw (big1 l i) (i : Int)) l.length 0 <;> rfl
 have e3 : (ez2 l).o = some (!jzp l) := by
  show (czn l).run NN = _
  simp only [czn, T.run, e2, Option.bind_some]
  rw [Ezm]; rfl
 simp only [nz9, T.run, e3, Option.bind_some, Bool.not_not]
theorem wz7 (l : List Int) (h : l.length < 4294967296) : (pzz l).o = some (jzp l) := by
 show (qz0 l).run NN = _
 simp only [qz0, T.run]
 refine (izs (fun i => sw (big1 l i) false) l.length h (fun j hj => ?_) ?_).trans ?_
 ·rw [az9 (by omega), wn (by omega), ← fzk]
  simp only [Int.toNat_natCast, azf (show 0 ≤ (j : Int) /\ (j : Int) < (l.length : Int) by omega), bzi, az7, ez6, big1]
 ·rw [az6 (by omega)]
 ·rw [ez4]; unfold jzp; cases cz5 (big1 l) l.length <;> rfl
def xzi (p q : List Int) (d : Int) : Bool := jzp p && (jzp q && (decide (p.length = q.length) && (decide (0 ≤ d) && decide (d ≤ 20))))
theorem Lz3 {a b : Nat} : ((a : Int) == (b : Int)) = decide (a = b) := by rw [Bool.eq_iff_iff]; simp only [beq_iff_eq, decide_eq_true_eq]; omega
theorem xz5 (p q : List Int) (d : Int) (hp : p.length < 4294967296) (hq : q.length < 4294967296) : (ozj p q d).o = some (xzi p q d) := by
 show (iz7 p q d).run NN = _
 simp only [iz7, T.run, tzo p hp, tzo q hq, Option.bind_some, xzi, Lz3]
 cases decide (p.length = q.length) <;> cases jzp p <;> cases jzp q <;> cases decide (0 ≤ d) <;> rfl
def Jzt (p q : List Int) (d : Nat) (i : Int) (k : Nat) : az0 :=
 ⟨p.getD k default + min (i * (q.getD k default - p.getD k default)) ((i + 1) * (q.getD k default - p.getD k default)) / 2 ^ d,
  p.getD k default + cdiv (max (i * (q.getD k default - p.getD k default)) ((i + 1) * (q.getD k default - p.getD k default))) (2 ^ d)⟩
def kzp (p q : List Int) (d i : Int) : List az0 × Bool :=
 if xzi p q d = true /\ 0 ≤ i /\ i < 2 ^ d.toNat then (tab (Jzt p q d.toNat i) p.length, true) else (nl, false)
theorem Hz4 {l : List Int} (h : jzp l = true) {i : Nat} (hi : i < l.length) : -2147483648 ≤ l.getD i default /\ l.getD i default ≤ 2147483648 := by
 have := noneB_iff.1 h i hi
 simp only [big1, Bool.or_eq_false_iff, decide_eq_false_iff_not] at this
 omega
theorem motionV_iff {p q : List Int} {d : Int} : xzi p q d = true ↔ jzp p = true /\ jzp q = true /\ p.length = q.length /\ 0 ≤ d /\ d ≤ 20 := by
 simp only [xzi, Bool.and_eq_true, decide_eq_true_eq]
theorem Sz6 {k : Nat} (h : k ≤ 20) : (2 : Int) ^ k ≤ 1048576 := by
 have : (2 : Int) ^ k ≤ 2 ^ 20 := by
  exact_mod_cast Nat.pow_le_pow_right (by decide : 0 < 2) h
 have e : (2 : Int) ^ 20 = 1048576 := by decide
 omega
theorem Tzv {i D : Int} (h0 : 0 ≤ i) (h1 : i ≤ 1048576) (h2 : -4294967296 ≤ D /\ D ≤ 4294967296) : -4503599627370496 ≤ i * D /\ i * D ≤ 4503599627370496 := by
 have h : (i * D).natAbs ≤ 1048576 * 4294967296 := by rw [Int.natAbs_mul]; exact Nat.mul_le_mul (by omega) (by omega)
 omega
theorem Dz8 (a : Int) (k : Nat) (hk : k ≤ 64) : (pze a (k : Int)).o = some (a / 2 ^ k) := by
 show (pzf a (k : Int)).run NN = _
 simp only [pzf, T.run]
 rw [azf (by omega), Int.toNat_natCast, Nat.min_eq_left hk, vzo]
section
variable {a b i : Int} {k : Nat} (ha : -2147483648 ≤ a /\ a ≤ 2147483648) (hb : -2147483648 ≤ b /\ b ≤ 2147483648) (h0 : 0 ≤ i) (hi : i < 2 ^ k) (hk : k ≤ 20)
include ha hb h0 hi hk
theorem Pzb : IntKind.i64.wrap (b - a) = b - a /\ IntKind.i64.wrap (i + 1) = i + 1 /\ IntKind.i64.wrap (i * (b - a)) = i * (b - a) /\ IntKind.i64.wrap ((i + 1) * (b - a)) = (i + 1) * (b - a) /\
 InR (min (i * (b - a)) ((i + 1) * (b - a))) /\ InR (max (i * (b - a)) ((i + 1) * (b - a))) /\ InR (-(max (i * (b - a)) ((i + 1) * (b - a)))) /\
 InR (a + min (i * (b - a)) ((i + 1) * (b - a)) / 2 ^ k) /\ InR (a + cdiv (max (i * (b - a)) ((i + 1) * (b - a))) (2 ^ k)) := by
 have p20 := Sz6 hk
 have hp := fzl k
 have m1 := Tzv h0 (by omega) (show -4294967296 ≤ b - a /\ b - a ≤ 4294967296 by omega)
 have m2 := Tzv (i := i + 1) (by omega) (by omega) (show -4294967296 ≤ b - a /\ b - a ≤ 4294967296 by omega)
 generalize i * (b - a) = u at *
 generalize (i + 1) * (b - a) = v at *
 have b1 : -4503599627370496 ≤ min u v /\ min u v ≤ 4503599627370496 := by omega
 have b2 : -4503599627370496 ≤ max u v /\ max u v ≤ 4503599627370496 := by omega
 have d1 := zzn (a := min u v) hp
 have d2 := Dz6 (a := max u v) hp
 refine ⟨w64 (by omega) (by omega), w64 (by omega) (by omega), w64 (by omega) (by omega), w64 (by omega) (by omega), ⟨by omega, by omega⟩, ⟨by omega, by omega⟩, ⟨by omega, by omega⟩, ?_, ?_⟩
 ·generalize min u v = x at *
  generalize x / 2 ^ k = y at *
  by_cases hx : 0 ≤ x
  ·have := d1.1 hx; exact ⟨by omega, by omega⟩
  ·have := d1.2 (by omega); exact ⟨by omega, by omega⟩
 ·generalize max u v = x at *
  generalize cdiv x (2 ^ k) = y at *
  by_cases hx : 0 < x
  ·have := d2.1 hx; exact ⟨by omega, by omega⟩
  ·have := d2.2 (by omega); exact ⟨by omega, by omega⟩
theorem yzq : (qzn a b i (k : Int)).o = some (⟨a + min (i * (b - a)) ((i + 1) * (b - a)) / 2 ^ k, a + cdiv (max (i * (b - a)) ((i + 1) * (b - a))) (2 ^ k)⟩, i, (k : Int)) := by
 obtain ⟨e1, e2, e3, e4, e5, e6, e7, e8, e9⟩ := Pzb ha hb h0 hi hk
 show (jzv a b i (k : Int)).run NN = _
 have e0 : IntKind.i64.wrap (0 - max (i * (b - a)) ((i + 1) * (b - a))) = -(max (i * (b - a)) ((i + 1) * (b - a))) := by rw [Int.zero_sub]; exact e7.w
 have e10 : a - -(max (i * (b - a)) ((i + 1) * (b - a))) / 2 ^ k = a + cdiv (max (i * (b - a)) ((i + 1) * (b - a))) (2 ^ k) := by unfold cdiv; omega
 simp only [jzv, T.run, e1, e2, e3, e4, e0, Dz8 _ k (show k ≤ 64 by omega), Option.bind_some, e8.w, e10, e9.w]
end
theorem zzj {p q : List Int} {k : Nat} {i : Int} (hp : jzp p = true) (hq : jzp q = true) (hl : p.length = q.length) (hn : p.length < 4294967296) (h0 : 0 ≤ i) (hi : i < 2 ^ k) (hk : k ≤ 20) :
 (czx p q i (k : Int)).o = some (tab (Jzt p q k i) p.length, i, (k : Int)) := by
 show (bzt p q i (k : Int)).run NN = _
 simp only [bzt, T.run]
 rw [azf ⟨by omega, by omega, by omega, by omega⟩, Int.toNat_natCast]
 refine (ezi (fun j => (i, (k : Int), half (Jzt p q k i) ⟨0, 0⟩ p.length j, (j : Int))) (i, (k : Int), tab (Jzt p q k i) p.length) p.length ?_ hn (fun j hj => ?_) ?_).trans rfl
 ·rw [lzk]; rfl
 ·rw [az9 (by simpa using hj), azf ⟨by simp, by simpa using hj⟩, azf ⟨by simp, by simp; omega⟩]
  simp only [Int.toNat_natCast, yzq (Hz4 hp hj) (Hz4 hq (by omega : j < q.length)) h0 hi hk, Option.bind_some, mzh (show j ≤ p.length by omega)]
  rw [azf ⟨by omega, by omega⟩, azf ⟨hj, by omega⟩, wn (by omega)]
  exact congrArg (fun x => some (Step3.next (i, (k : Int), x, ((j + 1 : Nat) : Int)))) (jz4 hj)
 ·rw [az6 (by simp)]; simp only [pzl]
theorem w2k {k : Nat} (h : k ≤ 20) : IntKind.i64.wrap (1 * 2 ^ k) = 2 ^ k := by
 have := Sz6 h; have := fzl k
 rw [Int.one_mul]; exact w64 (by omega) (by omega)
theorem Bzl (p q : List Int) (d i : Int) (hp : p.length < 4294967296) (hq : q.length < 4294967296) : (tzn p q d i).o = some (kzp p q d i) := by
 show (nz7 p q d i).run NN = _
 simp only [nz7, T.run, xz5 p q d hp hq, Option.bind_some, kzp]
 by_cases hm : xzi p q d = true
 ·have hm' := motionV_iff.1 hm
  obtain ⟨k, rfl⟩ : ∃ k : Nat, d = (k : Int) := ⟨d.toNat, by omega⟩
  have hk : k ≤ 20 := by omega
  rw [hm, Int.toNat_natCast]
  simp only [Bool.not_true, cond_false]
  by_cases h0 : i < 0
  ·rw [az9 h0, if_neg (by omega)]; rfl
  ·rw [az6 h0, azf (by omega), Nat.min_eq_left (by omega), w2k hk]
   simp only [az7]
   by_cases h1 : i ≥ 2 ^ k
   ·rw [az9 h1, if_neg (by omega)]
   ·rw [az6 h1, if_pos ⟨trivial, by omega, by omega⟩, zzj hm'.1 hm'.2.1 hm'.2.2.1 hp (by omega) (by omega) hk]; rfl
 ·rw [if_neg (fun h => hm h.1)]
  simp only [Bool.not_eq_true] at hm
  rw [hm]; rfl
structure JointOk (l : List azs) (i : Nat) : Prop where
 kind : 0 ≤ (l.getD i default).Kind /\ (l.getD i default).Kind ≤ 6
 parent : -1 ≤ (l.getD i default).Parent /\ (l.getD i default).Parent < (i : Int)
 off : ize (l.getD i default).Offset 4194304 = true
 lim : (l.getD i default).Lo ≤ (l.getD i default).Hi /\ -dzs (l.getD i default).Kind ≤ (l.getD i default).Lo /\ (l.getD i default).Hi ≤ dzs (l.getD i default).Kind
 cost : Kz9 (l.getD i default) = true
theorem Mzd {l : List azs} {i : Nat} (h : ozp l i = 0) : JointOk l i := by
 unfold ozp at h
 simp only at h
 split at h
 ·cases h
 ·split at h
  ·cases h
  ·rename_i h2
   split at h
   ·cases h
   ·rename_i h3
    split at h
    ·cases h
    ·rename_i h4
     split at h
     ·cases h
     ·rename_i h5
      split at h
      ·cases h
      ·rename_i h6
       simp only [Bool.or_eq_true, decide_eq_true_eq, Bool.not_eq_true', Bool.not_eq_false] at h2 h3 h4 h5 h6
       exact ⟨by omega, by omega, h4, by omega, h6⟩
theorem vz7 {r : azn} (h : dza r = 0) {i : Nat} (hi : i < r.Joints.length) : JointOk r.Joints i := Mzd ((jzn h).2.2 i hi)
def notV (b : List az0) (i : Nat) : Bool := !vV (b.getD i default)
def boxV (r : azn) (b : List az0) : Bool := decide (b.length = r.Joints.length) && cz5 (notV b) b.length
theorem vzr (r : azn) (b : List az0) (h : b.length < 4294967296) : (mzj r b).o = some (boxV r b) := by
 have e1 : ∀ x, (kzo x).o = some (!vV x) := fun x => by
  show (fzw x).run NN = _
  simp only [fzw, T.run, cz0, Option.bind_some]
 have e2 : (czg b).o = some (match scan (fun i => sw (notV b i) (i : Int)) b.length 0 with | some x => x | none => -1) := by
  show (bzk b).run NN = _
  simp only [bzk, T.run, e1, Option.bind_some]
  refine (izs (fun i => sw (notV b i) (i : Int)) b.length h (fun j hj => ?_) ?_).trans ?_
  ·rw [az9 (by omega), azf (by omega), wn (by omega), Int.toNat_natCast, ← fzk]; rfl
  ·rw [az6 (by omega)]
  ·cases scan (fun i => sw (notV b i) (i : Int)) b.length 0 <;> rfl
 have e3 : (cz7 b).o = some (!cz5 (notV b) b.length) := by
  show (bze b).run NN = _
  simp only [bze, T.run, e2, Option.bind_some]
  exact congrArg some Ezm
 show (hz5 r b).run NN = _
 simp only [hz5, T.run, e3, Option.bind_some, boxV, Lz3, Bool.not_not]
 cases decide (b.length = r.Joints.length) <;> rfl
section
variable (r : azn) (b : List az0)
def lk1 (L : List bzb) (i : Nat) : bzb :=
 if (r.Joints.getD i default).Parent = -1 then Czj (r.Joints.getD i default) (b.getD i default) else Oz6 (L.getD (r.Joints.getD i default).Parent.toNat default) (Czj (r.Joints.getD i default) (b.getD i default))
def lkL : Nat -> List bzb
 | 0 => []
 | i + 1 => lkL i ++ [lk1 r b (lkL i) i]
def lkP (i : Nat) : bzb := lk1 r b (lkL r b i) i
theorem Qzj : ∀ j, lkL r b j = tab (lkP r b) j
 | 0 => rfl
 | j + 1 => by rw [Ezt, ← Qzj j]; rfl
end
variable {r : azn} {b : List az0}
theorem Jzk {α : Type} {f : Nat -> α} {z d : α} {n j i : Nat} (h : i < j) : (half f z n j).getD i d = f i := by
 unfold half
 rw [List.getD_eq_getElem?_getD, List.getElem?_append_left (by rw [mz5]; exact h), ← List.getD_eq_getElem?_getD, tz1 h]
theorem Czu {α : Type} {l : List α} {i j : Nat} {x d : α} (h : i ≠ j) : (l.set i x).getD j d = l.getD j d := by
 rw [List.getD_eq_getElem?_getD, List.getElem?_set_ne h, List.getD_eq_getElem?_getD]
theorem Czt {α : Type} {l : List α} {i : Nat} {x d : α} (h : i < l.length) : (l.set i x).getD i d = x := by
 rw [List.getD_eq_getElem?_getD, List.getElem?_set_self h]; rfl
theorem vzs (hr : dza r = 0) (hb : boxV r b = true) : (mzk r b).o = some (tab (lkP r b) r.Joints.length) := by
 have hr' := jzn hr
 have hb' := hb
 simp only [boxV, Bool.and_eq_true, decide_eq_true_eq] at hb'
 show (hz6 r b).run NN = _
 simp only [hz6, T.run]
 rw [azf ⟨by omega, by omega, by omega, by omega⟩, Int.toNat_natCast]
 refine (ezi (fun j => (half (lkP r b) (⟨(izv, izv, izv), izv⟩ : bzb) r.Joints.length j, (j : Int))) (tab (lkP r b) r.Joints.length) r.Joints.length ?_ (show r.Joints.length < 4294967296 by omega) (fun j hj => ?_) ?_).trans rfl
 ·rw [lzk]; rfl
 ·have jo := vz7 hr hj
  have jp := jo.parent
  rw [az9 (by simp; omega), azf ⟨by simp, by simpa using hj⟩, azf ⟨by simp, by simp; omega⟩]
  simp only [Int.toNat_natCast, vzq, Option.bind_some, List.length_set, mzh (show j ≤ r.Joints.length by omega)]
  rw [azf ⟨by omega, by omega⟩, azf ⟨hj, by omega⟩, wn (by omega)]
  by_cases hp : (r.Joints.getD j default).Parent = -1
  ·have e : lkP r b j = Czj (r.Joints.getD j default) (b.getD j default) := by unfold lkP lk1; rw [if_pos hp]
   rw [czl hp]
   simp only [az7]
   rw [← jz4 hj, e]
  ·have e : lkP r b j = Oz6 (lkP r b (r.Joints.getD j default).Parent.toNat) (Czj (r.Joints.getD j default) (b.getD j default)) := by
    conv => lhs; unfold lkP lk1
    rw [if_neg hp, Qzj, tz1 (by omega)]
   rw [dzf hp, azf ⟨by omega, by omega⟩, azf (by omega), azf ⟨by omega, by omega⟩, azf hj, Czu (by omega), Jzk (by omega), Czt (by rw [mzh (by omega)]; exact hj)]
   simp only [jz9, Option.bind_some]
   rw [azf ⟨by omega, by omega⟩, azf ⟨hj, by omega⟩, az7, List.set_set, ← e, jz4 hj]
 ·rw [az6 (by simp)]; simp only [pzl]
def szr (x : bz1) : Bool := (betV x.Radius 1 1048576 && decide (1 ≤ x.Points.length /\ x.Points.length ≤ 8)) && cz5 (farP x.Points) x.Points.length
def Gzh (x : bz1) (p : bzb) : List IV3 := if szr x then tab (fun i => Pz3 p (Azp (x.Points.getD i default))) x.Points.length else nl
theorem Izs {x : bz1} (h : szr x = true) : 1 ≤ x.Points.length /\ x.Points.length ≤ 8 := by
 simp only [szr, Bool.and_eq_true, decide_eq_true_eq] at h; exact h.1.2
theorem Kzy (x : bz1) {α : Type} (k : Bool -> Option α) : (andC (bif decide (x.Radius < 1) then some (.out true) else bif decide (x.Radius > 1048576) then some (.out true) else bif decide ((x.Points.length : Int) < 1) then some (.out true) else
 some (.out (decide ((x.Points.length : Int) > 8)))) k) = k (!(betV x.Radius 1 1048576 && decide (1 ≤ x.Points.length /\ x.Points.length ≤ 8))) := by
 simp only [bzi, az7]
 congr 1
 rw [Bool.eq_iff_iff]
 simp only [ez6, betV, Bool.or_eq_true, Bool.not_eq_true', Bool.and_eq_false_iff, decide_eq_true_eq, decide_eq_false_iff_not]
 omega
theorem Ezp (x : bz1) : (wzj x).o = some (szr x) := by
 show (qzc x).run NN = _
 simp only [qzc, T.run, Kzy, szr]
 cases h : betV x.Radius 1 1048576 && decide (1 ≤ x.Points.length /\ x.Points.length ≤ 8)
 ·rfl
 ·simp only [Bool.and_eq_true, decide_eq_true_eq] at h
  simp only [Bool.not_true, cond_false, Bool.true_and]
  refine (izs (fun i => sw (farP x.Points i) false) x.Points.length (by omega) (fun j hj => ?_) ?_).trans ?_
  ·rw [az9 (by omega), azf (by omega), Int.toNat_natCast, wn (by omega)]
   refine (izs (fun i => sw (bey (([(x.Points.getD j default).1, (x.Points.getD j default).2.1, (x.Points.getD j default).2.2] : List Int).getD i 0)) (Step3.fin false)) 3 (by decide) (fun k hk => ?_) ?_).trans ?_
   ·rw [az9 (by omega), azf (by omega), wn (by omega), Int.toNat_natCast, ← fzk]
    simp only [bzi, az7, ez6]; rfl
   ·rw [az6 (by omega)]
   ·rw [ez4, far3]; unfold farP
    cases ize (x.Points.getD j default) 4194304 <;> rfl
  ·rw [az6 (by omega)]
  ·rw [ez4]; cases cz5 (farP x.Points) x.Points.length <;> rfl
theorem wzl (x : bz1) (p : bzb) : (wzk x p).o = some (Gzh x p) := by
 show (qzd x p).run NN = _
 simp only [qzd, T.run, Ezp, Option.bind_some, Gzh]
 cases h : szr x
 ·rfl
 ·have hl := Izs h
  simp only [Bool.not_true, cond_false, if_true]
  rw [azf ⟨by omega, by omega, by omega, by omega⟩, Int.toNat_natCast]
  refine (ezi (fun j => (half (fun i => Pz3 p (Azp (x.Points.getD i default))) izv x.Points.length j, (j : Int))) (tab (fun i => Pz3 p (Azp (x.Points.getD i default))) x.Points.length) x.Points.length ?_ (show x.Points.length < 4294967296 by omega) (fun j hj => ?_) ?_).trans rfl
  ·rw [lzk]; rfl
  ·rw [az9 (by simpa using hj), azf ⟨by simp, by simpa using hj⟩]
   simp only [Int.toNat_natCast, nzn, Gzj, Option.bind_some, mzh (show j ≤ x.Points.length by omega)]
   rw [azf ⟨by omega, by omega⟩, azf ⟨hj, by omega⟩, wn (by omega), ← jz4 hj]
  ·rw [az6 (by simp)]; simp only [pzl]
def Sz0 (r : azn) (b : List az0) (k : Int) : bzb := if k = -1 then Kzq else lkP r b k.toNat
def cze (s : azm) (b : List az0) (i : Nat) : List IV3 := Gzh (s.Shapes.getD i default) (Sz0 s.Robot b (s.Shapes.getD i default).Link)
def uzw (s : azm) (b : List az0) : List (List IV3) := if ezl s = 0 /\ boxV s.Robot b = true then tab (cze s b) s.Shapes.length else nl
structure SceneOk (s : azm) : Prop where
 robot : dza s.Robot = 0
 len : s.Shapes.length ≤ 24
 shape : ∀ i, i < s.Shapes.length -> wzi s.Robot.Joints.length (s.Shapes.getD i default) = 0
 skips : s.Skips.length ≤ 64
theorem Bz3 {s : azm} (h : ezl s = 0) : SceneOk s := by
 unfold ezl at h
 split at h
 ·rename_i h1; exact absurd h h1
 ·rename_i h1
  split at h
  ·cases h
  ·rename_i h2
   split at h
   ·rename_i e he
    obtain ⟨j, -, -, h3, -⟩ := hzp _ _ he
    unfold errS sw at h3
    cases hb : wzi s.Robot.Joints.length (s.Shapes.getD j default) != 0 with
    | false => rw [hb] at h3; cases h3
    | true =>
      rw [hb] at h3; simp only [cond_true, Option.some.injEq] at h3
      simp only [bne_iff_ne] at hb
      rw [h3] at hb; exact absurd h hb
   ·rename_i he
    split at h
    ·cases h
    ·rename_i h4
     refine ⟨by simpa using h1, by omega, fun i hi => ?_, by omega⟩
     have := (gz9 _ _).1 he i (Nat.zero_le _) (by omega)
     unfold errS sw at this
     cases hb : wzi s.Robot.Joints.length (s.Shapes.getD i default) != 0 with
     | false => simpa using hb
     | true => rw [hb] at this; cases this
theorem Bz6 {n : Nat} {x : bz1} (h : wzi n x = 0) : szr x = true /\ -1 ≤ x.Link /\ x.Link < (n : Int) := by
 unfold wzi at h
 split at h
 ·cases h
 ·rename_i h1
  split at h
  ·rename_i h2
   have hb : (Az7 n x.Link && betV x.Radius 1 1048576) = true := by
    cases hc : (Az7 n x.Link && betV x.Radius 1 1048576) with
    | true => rfl
    | false => exact absurd (Or.inl hc) h1
   simp only [Bool.and_eq_true] at hb
   refine ⟨?_, ?_⟩
   ·simp only [szr, Bool.and_eq_true, decide_eq_true_eq]; exact ⟨⟨hb.2, by omega⟩, h2⟩
   ·have := hb.1; simp only [Az7, Bool.and_eq_true, decide_eq_true_eq] at this; exact this
  ·cases h
theorem uzt (s : azm) (b : List az0) (hbl : b.length < 4294967296) : (lzm s b).o = some (uzw s b) := by
 show (gzi s b).run NN = _
 simp only [gzi, T.run, hzq, vzr _ b hbl, Option.bind_some, uzw]
 cases hb : boxV s.Robot b
 ·rw [if_neg (fun h => by cases h.2)]; rfl
 ·simp only [Bool.not_true, cond_false, az7]
  by_cases h : ezl s = 0
  ·have so := Bz3 h
   have so2 := so.len
   rw [if_pos ⟨h, trivial⟩, czl h, vzs so.robot hb, Option.bind_some, azf ⟨by omega, by omega, by omega, by omega⟩, Int.toNat_natCast]
   refine (ezi (fun j => (half (cze s b) nl s.Shapes.length j, (j : Int))) (tab (cze s b) s.Shapes.length) s.Shapes.length ?_ (show s.Shapes.length < 4294967296 by omega) (fun j hj => ?_) ?_).trans rfl
   ·rw [lzk]; rfl
   ·have sl := (Bz6 (so.shape j hj)).2
    rw [az9 (by simpa using hj), azf ⟨by simp, by simpa using hj⟩]
    simp only [Int.toNat_natCast, sz6, Option.bind_some, mzh (show j ≤ s.Shapes.length by omega)]
    rw [wn (by omega), ← jz4 hj]
    by_cases hp : (s.Shapes.getD j default).Link = -1
    ·have e : cze s b j = Gzh (s.Shapes.getD j default) Kzq := by unfold cze Sz0; rw [if_pos hp]
     rw [czl hp]
     simp only [az7, wzl, Option.bind_some]
     rw [azf ⟨by omega, by omega⟩, azf ⟨hj, by omega⟩, e]
    ·have e : cze s b j = Gzh (s.Shapes.getD j default) ((tab (lkP s.Robot b) s.Robot.Joints.length).getD (s.Shapes.getD j default).Link.toNat default) := by
      unfold cze Sz0; rw [if_neg hp, tz1 (by omega)]
     rw [dzf hp, azf ⟨by omega, by rw [mz5]; omega⟩]
     simp only [az7, wzl, Option.bind_some]
     rw [azf ⟨by omega, by omega⟩, azf ⟨hj, by omega⟩, e]
   ·rw [az6 (by simp)]; simp only [pzl]
  ·rw [if_neg (fun h' => h h'.1), dzf h]
section
variable (par : Nat -> Nat) (mv : Nat -> Prop) [DecidablePred mv]
inductive AncN : Nat -> Nat -> Prop
 | self {m : Nat} : 0 < m -> AncN m m
 | up {m x : Nat} : 0 < m -> AncN (par m) x -> AncN m x
def cF : Nat -> Nat -> Nat
 | 0, _ => 0
 | d + 1, m => if m = 0 then 0 else if mv m then m else cF d (par m)
end
section
variable {par : Nat -> Nat} {mv : Nat -> Prop} [DecidablePred mv]
theorem Lz5 {n : Nat} (hp : ∀ m, 0 < m -> m ≤ n -> par m < m) : ∀ (d d' m : Nat), m ≤ n -> m < d -> m < d' -> cF par mv d m = cF par mv d' m
 | 0, _, _, _, h, _ => by omega
 | _, 0, _, _, _, h => by omega
 | d + 1, d' + 1, m, hm, h1, h2 => by
   simp only [cF]
   by_cases h0 : m = 0
   ·simp only [h0, if_true]
   ·simp only [h0, if_false]
    have := hp m (by omega) hm
    by_cases hv : mv m
    ·simp only [hv, if_true]
    ·simp only [hv, if_false]; exact Lz5 hp d d' (par m) (by omega) (by omega) (by omega)
end
section
variable (r : azn)
def parN (m : Nat) : Nat := ((r.Joints.getD (m - 1) default).Parent + 1).toNat
def mvN (m : Nat) : Prop := (r.Joints.getD (m - 1) default).Lo ≠ (r.Joints.getD (m - 1) default).Hi
instance : DecidablePred (mvN r) := fun m => inferInstanceAs (Decidable (_ ≠ _))
def carN (m : Nat) : Nat := cF (parN r) (mvN r) (r.Joints.length + 1) m
end
variable {r : azn} (hr : dza r = 0)
include hr
theorem Mzw : ∀ m, 0 < m -> m ≤ r.Joints.length -> parN r m < m := fun m h0 hm => by
 have := (vz7 hr (show m - 1 < r.Joints.length by omega)).parent
 unfold parN; omega
omit hr in
theorem Lz7 : carN r 0 = 0 := by
 unfold carN; simp only [cF, if_true]
theorem Lz6 {i : Nat} (hi : i < r.Joints.length) : carN r (i + 1) = if (r.Joints.getD i default).Lo = (r.Joints.getD i default).Hi then carN r ((r.Joints.getD i default).Parent + 1).toNat else i + 1 := by
 have hl := Mzw hr (i + 1) (by omega) (by omega)
 unfold carN
 conv => lhs; simp only [cF]
 rw [if_neg (by omega)]
 by_cases h : (r.Joints.getD i default).Lo = (r.Joints.getD i default).Hi
 ·rw [if_neg (fun hm => hm h), if_pos h]
  exact Lz5 (Mzw hr) _ _ (parN r (i + 1)) (by omega) (by omega) (by omega)
 ·rw [if_pos (show mvN r (i + 1) from h), if_neg h]
def caP (r : azn) (m : Nat) : Int := (carN r m : Int) - 1
theorem zz1 : (rz4 r).o = some (tab (caP r) (r.Joints.length + 1)) := by
 have hr' := jzn hr
 show (kzf r).run NN = _
 simp only [kzf, T.run]
 rw [wn (by omega), Int.toNat_natCast, azf ⟨by omega, by omega, by omega, by omega⟩]
 simp only [List.length_replicate]
 rw [azf ⟨by omega, by omega⟩, azf ⟨by simp, by omega⟩]
 refine (ezi (fun j => (half (caP r) 0 (r.Joints.length + 1) (j + 1), (j : Int))) (tab (caP r) (r.Joints.length + 1)) r.Joints.length ?_ (show r.Joints.length < 4294967296 by omega) (fun j hj => ?_) ?_).trans rfl
 ·rw [← jz4 (by omega), lzk]
  have : caP r 0 = -1 := by unfold caP; rw [Lz7]; rfl
  rw [this]; rfl
 ·have jp := (vz7 hr hj).parent
  rw [az9 (by simpa using hj), azf ⟨by simp, by simpa using hj⟩]
  simp only [Int.toNat_natCast, mzh (show j + 1 ≤ r.Joints.length + 1 by omega), List.length_set]
  rw [wn (by omega), Int.toNat_natCast, azf ⟨by omega, by omega⟩, azf ⟨by omega, by omega⟩, w64 (x := (r.Joints.getD j default).Parent + 1) (by omega) (by omega)]
  have e := Lz6 hr hj
  by_cases h : (r.Joints.getD j default).Lo = (r.Joints.getD j default).Hi
  ·have e2 : caP r (j + 1) = caP r ((r.Joints.getD j default).Parent + 1).toNat := by unfold caP; rw [e, if_pos h]
   rw [dz0 h, azf ⟨by omega, by omega⟩, azf (by omega), azf ⟨by omega, by omega⟩, azf ⟨by omega, by omega⟩, Czu (by omega), Jzk (by omega), az7, List.set_set, ← jz4 (j := j + 1) (by omega), e2]
  ·have e2 : caP r (j + 1) = (j : Int) := by unfold caP; rw [e, if_neg h]; omega
   rw [dz1 h, az7, ← jz4 (j := j + 1) (by omega), e2]
 ·rw [az6 (by simp)]; simp only [pzl]
omit hr
def skB (l : List gzn) (a b : Int) (i : Nat) : Bool := ((l.getD i default).A == a && (l.getD i default).B == b) || ((l.getD i default).A == b && (l.getD i default).B == a)
def skV (s : azm) (a b : Int) : Bool := !cz5 (skB s.Skips a b) s.Skips.length
theorem Bz4 (s : azm) (a b : Int) (h : s.Skips.length < 4294967296) : (szp s a b).o = some (skV s a b) := by
 show (lzz s a b).run NN = _
 simp only [lzz, T.run, bzi, az7, Bool.and_true, ez6]
 refine (izs (fun i => sw (skB s.Skips a b i) true) s.Skips.length h (fun j hj => ?_) ?_).trans ?_
 ·rw [az9 (by omega), azf (by omega), wn (by omega), Int.toNat_natCast, ← fzk]; rfl
 ·rw [az6 (by omega)]
 ·rw [ez4]; unfold skV; cases cz5 (skB s.Skips a b) s.Skips.length <;> rfl
section
variable (c : Nat -> Nat -> Bool)
def pin (L : List dz9) (i : Nat) : Nat -> List dz9
 | 0 => L
 | m + 1 => if c i (i + 1 + m) then pin L i m ++ [⟨(i : Int), ((i + 1 + m : Nat) : Int)⟩] else pin L i m
def pou (n : Nat) : Nat -> List dz9
 | 0 => nl
 | i + 1 => pin c (pou n i) i (n - (i + 1))
theorem Iz9 (L : List dz9) (i : Nat) : ∀ m, (pin c L i m).length ≤ L.length + m
 | 0 => by simp [pin]
 | m + 1 => by
   have := Iz9 L i m
   simp only [pin]; split
   ·simp; omega
   ·omega
theorem Izd {n : Nat} : ∀ i, (pou c n i).length ≤ i * n
 | 0 => by simp [pou, nl]
 | i + 1 => by
   have h1 := Izd (n := n) i
   have h2 := Iz9 c (pou c n i) i (n - (i + 1))
   simp only [pou]; rw [Nat.add_mul]; omega
end
def Gz0 (s : azm) (i : Nat) : Int := (s.Shapes.getD i default).Link
def xzl (s : azm) (i k : Nat) : Bool := !decide (carN s.Robot (Gz0 s i + 1).toNat = carN s.Robot (Gz0 s k + 1).toNat) && !skV s (Gz0 s i) (Gz0 s k)
def czt (s : azm) : List dz9 := if ezl s = 0 then pou (xzl s) s.Shapes.length s.Shapes.length else nl
theorem Ezn (s : azm) : (wze s).o = some (czt s) := by
 show (qz9 s).run NN = _
 simp only [qz9, T.run, hzq, Option.bind_some, czt]
 by_cases h : ezl s = 0
 ·have so := Bz3 h
  have so2 := so.len
  have so3 := so.skips
  have so4 := jzn so.robot
  rw [czl h, if_pos h, zz1 so.robot, Option.bind_some]
  refine (ezi (fun i => (pou (xzl s) s.Shapes.length i, (i : Int))) (pou (xzl s) s.Shapes.length s.Shapes.length) s.Shapes.length rfl (show s.Shapes.length < 4294967296 by omega) (fun i hi => ?_) ?_).trans rfl
  ·rw [az9 (by simpa using hi), azf ⟨by simp, by simpa using hi⟩]
   simp only [Int.toNat_natCast]
   rw [wn (by omega)]
   refine (ezi (fun m => (pin (xzl s) (pou (xzl s) s.Shapes.length i) i m, ((i + 1 + m : Nat) : Int))) (pou (xzl s) s.Shapes.length (i + 1)) (s.Shapes.length - (i + 1)) rfl (show s.Shapes.length - (i + 1) < 4294967296 by omega) (fun m hm => ?_) ?_).trans rfl
   ·have hk : i + 1 + m < s.Shapes.length := by omega
    have l1 := (Bz6 (so.shape i hi)).2
    have l2 := (Bz6 (so.shape (i + 1 + m) hk)).2
    have lp := Iz9 (xzl s) (pou (xzl s) s.Shapes.length i) i m
    have lo := Izd (xzl s) (n := s.Shapes.length) i
    have li : i * s.Shapes.length ≤ 24 * 24 := Nat.mul_le_mul (by omega) (by omega)
    simp only [Int.toNat_natCast, mz5]
    rw [az9 (by omega), azf ⟨by omega, by omega⟩, w64 (x := (s.Shapes.getD i default).Link + 1) (by omega) (by omega), w64 (x := (s.Shapes.getD (i + 1 + m) default).Link + 1) (by omega) (by omega),
     azf ⟨by omega, by omega⟩, azf ⟨by omega, by omega⟩, wn (by omega), tz1 (by omega), tz1 (by omega)]
    simp only [Bz4 s _ _ (show s.Skips.length < 4294967296 by omega), Option.bind_some, pin]
    have e : (andC (bif !(caP s.Robot ((s.Shapes.getD i default).Link + 1).toNat == caP s.Robot ((s.Shapes.getD (i + 1 + m) default).Link + 1).toNat) then
     some (.out (!skV s (s.Shapes.getD i default).Link (s.Shapes.getD (i + 1 + m) default).Link)) else some (.out false)) : (Bool -> Option (Step3 Unit (List dz9) (Step3 (List dz9 × Int) (List dz9) (Step3 (List dz9 × Int) (List dz9) (List dz9))))) -> _) = fun k => k (xzl s i (i + 1 + m)) := by
     funext k
     have e1 : (caP s.Robot ((s.Shapes.getD i default).Link + 1).toNat == caP s.Robot ((s.Shapes.getD (i + 1 + m) default).Link + 1).toNat) = decide (carN s.Robot ((s.Shapes.getD i default).Link + 1).toNat = carN s.Robot ((s.Shapes.getD (i + 1 + m) default).Link + 1).toNat) := by
      rw [Bool.eq_iff_iff]; unfold caP; simp only [beq_iff_eq, decide_eq_true_eq]; omega
     rw [e1]; unfold xzl Gz0
     cases decide (carN s.Robot ((s.Shapes.getD i default).Link + 1).toNat = carN s.Robot ((s.Shapes.getD (i + 1 + m) default).Link + 1).toNat) <;> rfl
    rw [e]
    simp only
    rw [azf ⟨by simp; omega, by simp [azz]; omega⟩]
    cases xzl s i (i + 1 + m) <;> rfl
   ·rw [az6 (by omega)]; rfl
  ·rw [az6 (by simp)]
 ·rw [dzf h, if_neg h]
theorem u64w {x : Int} (h0 : 0 ≤ x) (h1 : x < 18446744073709551616) : IntKind.u64.wrap x = x := by
 show (if (false && decide (x % 18446744073709551616 ≥ 9223372036854775808)) = true then x % 18446744073709551616 - 18446744073709551616 else x % 18446744073709551616) = x
 rw [if_neg (by simp)]; omega
theorem u8w {x : Int} (h0 : 0 ≤ x) (h1 : x < 256) : IntKind.u8.wrap x = x := by
 show (if (false && decide (x % 256 ≥ 128)) = true then x % 256 - 256 else x % 256) = x
 rw [if_neg (by simp)]; omega
def IsRoot (n s : Int) : Prop := 0 ≤ s /\ s * s ≤ n /\ n < (s + 1) * (s + 1)
theorem IsRoot.uniq {n s t : Int} (h1 : IsRoot n s) (h2 : IsRoot n t) : s = t := by
 obtain ⟨a0, a1, a2⟩ := h1
 obtain ⟨b0, b1, b2⟩ := h2
 by_cases h : s < t
 ·have : (s + 1) * (s + 1) ≤ t * t := Int.mul_le_mul (by omega) (by omega) (by omega) (by omega)
  omega
 ·by_cases h' : t < s
  ·have : (t + 1) * (t + 1) ≤ s * s := Int.mul_le_mul (by omega) (by omega) (by omega) (by omega)
   omega
  ·omega
theorem Izh {n : Int} (h0 : 1 ≤ n) (h1 : n < 4611686018427387904) : ∃ s, (qz1 n).o = some s /\ IsRoot n s := by
 have e0 : (qz1 n).o = (vz1 n).run NN := rfl
 rw [e0]
 simp only [vz1, T.run]
 rw [az6 (by omega)]
 refine Lzn (β := Int) (g := fun s => some s) (P := fun s => IsRoot n s) (fun (y : Int × Int) => 1 ≤ y.1 /\ y.1 < y.2 /\ y.2 ≤ 4294967296 /\ y.1 * y.1 ≤ n /\ n < y.2 * y.2) (fun y => (y.2 - y.1).toNat) (fun s => IsRoot n s)
  ⟨by decide, by decide, by decide, by omega, by simp only; omega⟩ (by decide) (fun y hy => ?_) (fun s hs => ⟨s, rfl, hs⟩)
 obtain ⟨a1, a2, a3, a4, a5⟩ := hy
 rw [w64 (x := y.2 - y.1) (by omega) (by omega)]
 by_cases hd : y.2 - y.1 > 1
 ·left
  rw [az9 hd, fza (by omega), w64 (x := (y.2 - y.1) / 2) (by omega) (by omega), w64 (x := y.1 + (y.2 - y.1) / 2) (by omega) (by omega), azf (by omega)]
  generalize hm : y.1 + (y.2 - y.1) / 2 = m
  have m1 : y.1 < m /\ m < y.2 := by omega
  have q := zzn (a := n) (b := m) (by omega)
  have q1 := q.1 (by omega)
  rw [fza (by omega), w64 (x := n / m) (by omega) (by omega)]
  have key : m ≤ n / m ↔ m * m ≤ n := Int.le_ediv_iff_mul_le (by omega)
  by_cases hc : m ≤ n / m
  ·rw [az9 hc]; exact ⟨_, rfl, ⟨by simp only; omega, by simp only; omega, a3, key.1 hc, a5⟩, by simp only; omega⟩
  ·rw [az6 hc]; exact ⟨_, rfl, ⟨a1, by simp only; omega, by simp only; omega, a4, by simp only; have := mt key.2 hc; omega⟩, by simp only; omega⟩
 ·right
  rw [az6 hd]
  exact ⟨_, rfl, by omega, a4, by rw [show y.1 + 1 = y.2 by omega]; exact a5⟩
def lenT (b : Nat) : Nat := ((#[0, 1, 2, 2, 3, 3, 3, 3, 4, 4, 4, 4, 4, 4, 4, 4, 5, 5, 5, 5, 5, 5, 5, 5, 5, 5, 5, 5, 5, 5, 5, 5, 6, 6, 6, 6, 6, 6, 6, 6, 6, 6, 6, 6, 6, 6, 6, 6, 6, 6, 6, 6, 6, 6, 6, 6, 6, 6, 6, 6, 6, 6, 6, 6, 7, 7, 7, 7, 7, 7, 7, 7, 7, 7, 7, 7, 7, 7, 7, 7, 7, 7, 7, 7, 7, 7, 7, 7, 7, 7, 7, 7, 7, 7, 7, 7, 7, 7, 7, 7, 7, 7, 7, 7, 7, 7, 7, 7, 7, 7, 7, 7, 7, 7, 7, 7, 7, 7, 7, 7, 7, 7, 7, 7, 7, 7, 7, 7, 8, 8, 8, 8, 8, 8, 8, 8, 8, 8, 8, 8, 8, 8, 8, 8, 8, 8, 8, 8, 8, 8, 8, 8, 8, 8, 8, 8, 8, 8, 8, 8, 8, 8, 8, 8, 8, 8, 8, 8, 8, 8, 8, 8, 8, 8, 8, 8, 8, 8, 8, 8, 8, 8, 8, 8, 8, 8, 8, 8, 8, 8, 8, 8, 8, 8, 8, 8, 8, 8, 8, 8, 8, 8, 8, 8, 8, 8, 8, 8, 8, 8, 8, 8, 8, 8, 8, 8, 8, 8, 8, 8, 8, 8, 8, 8, 8, 8, 8, 8, 8, 8, 8, 8, 8, 8, 8, 8, 8, 8, 8, 8, 8, 8, 8, 8, 8, 8, 8, 8, 8, 8, 8, 8, 8, 8, 8, 8] : Array UInt8).getD b 0).toNat
theorem Rzy : ∀ b, b < 256 -> b < 2 ^ lenT b /\ lenT b ≤ 8 := of_decide_eq_true (by kernel_rfl)
def lenE (y : Int × Int) : Option Int := grd (0 ≤ IntKind.u8.wrap y.1 /\ IntKind.u8.wrap y.1 < ((256 : Nat) : Int)) (some (IntKind.i64.wrap (y.2 + IntKind.i64.wrap ((lenT (IntKind.u8.wrap y.1).toNat : Nat) : Int))))
theorem Tzp (n : Int) : (izd n).o =
 andC (bif decide (n ≥ 4294967296) then some (.out (n.fdiv (2 ^ min (32 : Int).toNat 64), 32)) else some (.out (n, 0)) : Option (Step3 Unit (Int × Int) Int)) fun y5 =>
 andC (bif decide (y5.1 ≥ 65536) then some (.out (y5.1.fdiv (2 ^ min (16 : Int).toNat 64), IntKind.i64.wrap (y5.2 + 16))) else some (.out (y5.1, y5.2)) : Option (Step3 Unit (Int × Int) Int)) fun y6 =>
 andC (bif decide (y6.1 ≥ 256) then some (.out (y6.1.fdiv (2 ^ min (8 : Int).toNat 64), IntKind.i64.wrap (y6.2 + 8))) else some (.out (y6.1, y6.2)) : Option (Step3 Unit (Int × Int) Int)) fun y7 => lenE y7 := by kernel_rfl
theorem xzg {n : Int} (h0 : 0 ≤ n) (h1 : n < 4294967296) : ∃ L : Nat, (izd n).o = some (L : Int) /\ n < 2 ^ L /\ L ≤ 32 := by
 rw [Tzp, az6 (by omega), az7]
 have fin : ∀ (x : Int) (k : Nat), 0 ≤ x -> x < 256 -> k ≤ 24 -> n < (x + 1) * 2 ^ k -> ∃ L : Nat, lenE (x, (k : Int)) = some (L : Int) /\ n < 2 ^ L /\ L ≤ 32 := by
  intro x k x0 x1 hk hn
  obtain ⟨b, rfl⟩ : ∃ b : Nat, x = (b : Int) := ⟨x.toNat, by omega⟩
  have hb := Rzy b (by omega)
  unfold lenE
  simp only
  rw [u8w (by omega) (by omega), azf ⟨by omega, by omega⟩, Int.toNat_natCast, w64 (x := ((lenT b : Nat) : Int)) (by omega) (by omega), w64 (by omega) (by omega)]
  refine ⟨k + lenT b, by rw [Int.natCast_add], ?_, by omega⟩
  have h2 : (((b + 1 : Nat) : Int)) * 2 ^ k ≤ 2 ^ lenT b * 2 ^ k := by
   refine Int.mul_le_mul_of_nonneg_right ?_ (Int.le_of_lt (fzl k))
   exact_mod_cast hb.1
  rw [Nat.add_comm, Int.pow_add]
  have h3 : ((b : Int) + 1) = ((b + 1 : Nat) : Int) := by omega
  rw [h3] at hn
  omega
 have s16 : ∀ x : Int, x.fdiv (2 ^ min (Int.toNat 16) 64) = x / 65536 := fun x => vzo x 16
 have s8 : ∀ x : Int, x.fdiv (2 ^ min (Int.toNat 8) 64) = x / 256 := fun x => vzo x 8
 have p24 : (2 : Int) ^ 24 = 16777216 := by decide
 have p16 : (2 : Int) ^ 16 = 65536 := by decide
 have p8 : (2 : Int) ^ 8 = 256 := by decide
 have e16 : IntKind.i64.wrap (0 + 16) = 16 := by decide
 have e8 : IntKind.i64.wrap (0 + 8) = 8 := by decide
 have e24 : IntKind.i64.wrap (16 + 8) = 24 := by decide
 by_cases c1 : n ≥ 65536
 ·rw [az9 c1, az7, s16, e16]
  by_cases c2 : n / 65536 ≥ 256
  ·rw [az9 c2, az7, s8, e24]; exact fin _ 24 (by omega) (by omega) (by omega) (by rw [p24]; omega)
  ·rw [az6 c2, az7]; exact fin _ 16 (by omega) (by omega) (by omega) (by rw [p16]; omega)
 ·rw [az6 c1, az7]
  by_cases c2 : n ≥ 256
  ·rw [az9 c2, az7, s8, e8]; exact fin _ 8 (by omega) (by omega) (by omega) (by rw [p8]; omega)
  ·rw [az6 c2, az7]; exact fin _ 0 (by omega) (by omega) (by omega) (by simp only [Int.pow_zero]; omega)
theorem Fzj {n : Int} (h0 : 1 ≤ n) (h1 : n < 4294967296) : ∃ s, (rzp n).o = some s /\ IsRoot n s := by
 have e0 : (rzp n).o = (rzq n).run NN := rfl
 rw [e0]
 obtain ⟨L, l1, l2, l3⟩ := xzg (n := n) (by omega) h1
 simp only [rzq, T.run]
 rw [az6 (by omega), u64w (x := n) (by omega) (by omega), l1, Option.bind_some, w64 (x := (L : Int) + 1) (by omega) (by omega), fza (by omega), w64 (x := ((L : Int) + 1) / 2) (by omega) (by omega), azf (by omega)]
 obtain ⟨W, hW⟩ : ∃ W : Nat, ((L : Int) + 1) / 2 = (W : Int) := ⟨(L + 1) / 2, by omega⟩
 rw [hW, Int.toNat_natCast, Nat.min_eq_left (by omega), Int.one_mul]
 have hw16 : W ≤ 16 := by omega
 have hpw : (2 : Int) ^ W ≤ 65536 := by
  have : (2 : Int) ^ W ≤ 2 ^ 16 := by exact_mod_cast Nat.pow_le_pow_right (by decide : 0 < 2) hw16
  have e : (2 : Int) ^ 16 = 65536 := by decide
  omega
 have hp0 := fzl W
 rw [u64w (x := 2 ^ W) (by omega) (by omega)]
 have hn4 : n < 2 ^ W * 2 ^ W := by
  rw [← Int.pow_add]
  have : (2 : Int) ^ L ≤ 2 ^ (W + W) := by exact_mod_cast Nat.pow_le_pow_right (by decide : 0 < 2) (show L ≤ W + W by omega)
  omega
 refine Lzn (β := Int) (g := fun s => some s) (P := fun s => IsRoot n s) (fun (y : Int × Int × Int) => ∃ k : Nat, y.2.2 = ((W - k : Nat) : Int) /\ k ≤ W /\ y.2.1 = 2 ^ k /\ 0 ≤ y.1 /\ y.1 ≤ 2 ^ W - 2 ^ k /\ y.1 * y.1 ≤ n /\ n < (y.1 + 2 ^ k) * (y.1 + 2 ^ k))
  (fun y => ((W : Int) - y.2.2).toNat) (fun s => IsRoot n s) ⟨W, by simp, Nat.le_refl _, rfl, by simp, by simp, by simp; omega, by simp only [Int.zero_add]; exact hn4⟩ (by show _ < 4294967296; simp only; omega) (fun y hy => ?_) (fun s hs => ⟨IntKind.i64.wrap s, rfl, ?_⟩)
 ·obtain ⟨k, b1, b2, b3, b4, b5, b6, b7⟩ := hy
  rw [b1, b3]
  cases k with
  | zero =>
    right
    rw [az6 (by omega)]
    exact ⟨_, rfl, b4, b6, by simpa using b7⟩
  | succ k =>
    left
    have hk2 : (2 : Int) ^ (k + 1) = 2 * 2 ^ k := by rw [Int.pow_succ]; omega
    have hkp := fzl k
    rw [az9 (by omega), fza (by omega), show (2 : Int) ^ (k + 1) / 2 = 2 ^ k by omega, u64w (x := 2 ^ k) (by omega) (by omega), u64w (x := y.1 + 2 ^ k) (by omega) (by omega)]
    have hsq : (y.1 + 2 ^ k) * (y.1 + 2 ^ k) ≤ 65536 * 65536 := Int.mul_le_mul (by omega) (by omega) (by omega) (by omega)
    have hsq0 : 0 ≤ (y.1 + 2 ^ k) * (y.1 + 2 ^ k) := Int.mul_nonneg (by omega) (by omega)
    rw [u64w (x := (y.1 + 2 ^ k) * (y.1 + 2 ^ k)) hsq0 (by omega)]
    have hi : IntKind.i64.wrap (((W - (k + 1) : Nat) : Int) + 1) = ((W - k : Nat) : Int) := by rw [w64 (by omega) (by omega)]; omega
    rw [hi]
    by_cases hc : (y.1 + 2 ^ k) * (y.1 + 2 ^ k) ≤ n
    ·rw [az9 hc, az7]
     exact ⟨_, rfl, ⟨k, rfl, by omega, rfl, by simp only; omega, by simp only; omega, hc, by simp only; rw [show y.1 + 2 ^ k + 2 ^ k = y.1 + 2 ^ (k + 1) by omega]; exact b7⟩, by simp only; omega⟩
    ·rw [az6 hc, az7]
     exact ⟨_, rfl, ⟨k, rfl, by omega, rfl, b4, by simp only; omega, b6, by simp only; omega⟩, by simp only; omega⟩
 ·obtain ⟨c1, c2, c3⟩ := hs
  have : s ≤ n := by
   by_cases hz : s = 0
   ·omega
   ·have : s * 1 ≤ s * s := Int.mul_le_mul_of_nonneg_left (by omega) c1
    omega
  rw [w64 (by omega) (by omega)]; exact ⟨c1, c2, c3⟩
noncomputable def xzs (n : Int) : Int := (qz1 n).o.getD 0
theorem Pzf {n : Int} (h0 : 1 ≤ n) (h1 : n < 4294967296) : IsRoot n (xzs n) /\ (qz1 n).o = some (xzs n) := by
 obtain ⟨s, e, h⟩ := Izh h0 (by omega)
 unfold xzs; rw [e]; exact ⟨h, rfl⟩
theorem Szb {n s : Int} (h0 : 1 ≤ n) (h : IsRoot n s) : s ≤ n := by
 obtain ⟨c1, c2, -⟩ := h
 by_cases hz : s = 0
 ·omega
 ·have : s * 1 ≤ s * s := Int.mul_le_mul_of_nonneg_left (by omega) c1
  omega
noncomputable def rupV (n : Int) : Int := if xzs n * xzs n < n then xzs n + 1 else xzs n
theorem Bzp {n : Int} (h0 : 1 ≤ n) (h1 : n < 4294967296) : (tzr n).o = some (rupV n) := by
 obtain ⟨s, e, h⟩ := Fzj h0 h1
 obtain ⟨k1, k2⟩ := Pzf h0 h1
 have es : s = xzs n := h.uniq k1
 have sl := Szb h0 k1
 obtain ⟨r1, r2, r3⟩ := k1
 show (nzd n).run NN = _
 simp only [nzd, T.run, e, Option.bind_some, es, rupV]
 rw [w64 (x := xzs n * xzs n) (by have := Int.mul_nonneg r1 r1; omega) (by omega), w64 (x := xzs n + 1) (by omega) (by omega)]
 by_cases hc : xzs n * xzs n < n
 ·rw [az9 hc, if_pos hc, az7]
 ·rw [az6 hc, if_neg hc, az7]
abbrev V3 := Int × Int × Int
def dzj (n : V3) : Bool := !((n.1 == 0) && ((n.2.1 == 0) && ((n.2.2 == 0) && true))) && ize n 16384
def bey2 (x : Int) : Bool := decide (x < -16384) || decide (x > 16384)
theorem pz1 (v : V3) : (izx v).o = some (ize v 16384) := by
 show (izy v).run NN = _
 simp only [izy, T.run, bzi, az7, ez6]
 refine (izs (fun i => sw (bey2 (([v.1, v.2.1, v.2.2] : List Int).getD i 0)) false) 3 (by decide) (fun j hj => ?_) ?_).trans ?_
 ·rw [az9 (by omega), azf (by omega), wn (by omega), Int.toNat_natCast, ← fzk]; rfl
 ·rw [az6 (by omega)]
 ·rw [ez4]
  have : cz5 (fun i => bey2 (([v.1, v.2.1, v.2.2] : List Int).getD i 0)) 3 = ize v 16384 := by
   rw [Bool.eq_iff_iff, noneB_iff, nearV_iff]
   constructor
   ·intro h
    have a := h 0 (by decide); have b := h 1 (by decide); have c := h 2 (by decide)
    simp only [bey2, List.getD_cons_zero, List.getD_cons_succ, Bool.or_eq_false_iff, decide_eq_false_iff_not] at a b c
    omega
   ·intro h i hi
    match i, hi with
    | 0, _ => simp only [bey2, List.getD_cons_zero, Bool.or_eq_false_iff, decide_eq_false_iff_not]; omega
    | 1, _ => simp only [bey2, List.getD_cons_zero, List.getD_cons_succ, Bool.or_eq_false_iff, decide_eq_false_iff_not]; omega
    | 2, _ => simp only [bey2, List.getD_cons_zero, List.getD_cons_succ, Bool.or_eq_false_iff, decide_eq_false_iff_not]; omega
  rw [this]; cases ize v 16384 <;> rfl
theorem dzx (n : V3) : (dzw n).o = some (dzj n) := by
 show (kzm n).run NN = _
 simp only [kzm, T.run, pz1, Option.bind_some, dzj]
 cases ize n 16384 <;> cases (n.1 == 0) && ((n.2.1 == 0) && ((n.2.2 == 0) && true)) <;> rfl
theorem Hz9 {n : V3} (h : dzj n = true) : ((-16384 ≤ n.1 /\ n.1 ≤ 16384) /\ (-16384 ≤ n.2.1 /\ n.2.1 ≤ 16384) /\ (-16384 ≤ n.2.2 /\ n.2.2 ≤ 16384)) /\ (n.1 ≠ 0 \/ n.2.1 ≠ 0 \/ n.2.2 ≠ 0) := by
 simp only [dzj, Bool.and_eq_true, nearV_iff, Bool.not_eq_true', Bool.and_eq_false_iff, beq_eq_false_iff_ne, ne_eq, Bool.and_true] at h
 refine ⟨h.2, ?_⟩
 rcases h.1 with h | h | h
 ·exact Or.inl h
 ·exact Or.inr (Or.inl h)
 ·exact Or.inr (Or.inr h)
theorem Szq {x : Int} (h : -16384 ≤ x /\ x ≤ 16384) : 0 ≤ x * x /\ x * x ≤ 268435456 /\ (x ≠ 0 -> 1 ≤ x * x) := by
 have h1 : (x * x).natAbs ≤ 16384 * 16384 := by rw [Int.natAbs_mul]; exact Nat.mul_le_mul (by omega) (by omega)
 have h0 : 0 ≤ x * x := by
  by_cases hx : 0 ≤ x
  ·exact Int.mul_nonneg hx hx
  ·exact Int.mul_nonneg_of_nonpos_of_nonpos (by omega) (by omega)
 refine ⟨h0, by omega, fun hx => ?_⟩
 have : x * x ≠ 0 := Int.mul_ne_zero hx hx
 omega
def sqV (n : V3) : Int := n.1 * n.1 + n.2.1 * n.2.1 + n.2.2 * n.2.2
noncomputable def Pz8 (n : V3) : Int := if dzj n then rupV (sqV n) else 0
theorem Uzd {n : V3} (h : dzj n = true) : 1 ≤ sqV n /\ sqV n < 4294967296 /\ IntKind.i64.wrap (IntKind.i64.wrap (IntKind.i64.wrap (n.1 * n.1) + IntKind.i64.wrap (n.2.1 * n.2.1)) + IntKind.i64.wrap (n.2.2 * n.2.2)) = sqV n := by
 obtain ⟨⟨b1, b2, b3⟩, hz⟩ := Hz9 h
 have s1 := Szq b1; have s2 := Szq b2; have s3 := Szq b3
 unfold sqV
 rw [w64 (x := n.1 * n.1) (by omega) (by omega), w64 (x := n.2.1 * n.2.1) (by omega) (by omega), w64 (x := n.2.2 * n.2.2) (by omega) (by omega), w64 (x := n.1 * n.1 + n.2.1 * n.2.1) (by omega) (by omega), w64 (by omega) (by omega)]
 refine ⟨?_, by omega, rfl⟩
 rcases hz with h | h | h
 ·have := s1.2.2 h; omega
 ·have := s2.2.2 h; omega
 ·have := s3.2.2 h; omega
theorem uze (n : V3) : (ozc n).o = some (Pz8 n) := by
 show (ozd n).run NN = _
 simp only [ozd, T.run, T.ix, dzx, Option.bind_some, Pz8]
 cases h : dzj n
 ·rfl
 ·have hs := Uzd h
  simp only [Bool.not_true, cond_false, if_true]
  rw [hs.2.2, Bzp hs.1 hs.2.1]; rfl
def rng (x : az0) : Bool := !(decide (x.Lo < -268435456) || (decide (x.Lo > x.Hi) || decide (x.Hi > 268435456)))
theorem Nzb {x : az0} : rng x = true ↔ -268435456 ≤ x.Lo /\ x.Lo ≤ x.Hi /\ x.Hi ≤ 268435456 := by
 simp only [rng, Bool.not_eq_true', Bool.or_eq_false_iff, decide_eq_false_iff_not]; omega
def gzd (v : IV3) : Bool := rng v.1 && (rng v.2.1 && rng v.2.2)
def farL (l : List IV3) (i : Nat) : Bool := !gzd (l.getD i default)
def bzx (l : List IV3) : Bool := decide (1 ≤ l.length /\ l.length ≤ 8) && cz5 (farL l) l.length
theorem xzn {l : List IV3} (h : bzx l = true) {i : Nat} (hi : i < l.length) : gzd (l.getD i default) = true := by
 simp only [bzx, Bool.and_eq_true] at h
 have := noneB_iff.1 h.2 i hi
 simpa [farL] using this
theorem fzr {l : List IV3} (h : bzx l = true) : 1 ≤ l.length /\ l.length ≤ 8 := by
 simp only [bzx, Bool.and_eq_true, decide_eq_true_eq] at h; exact h.1
theorem Azr (v : IV3) : (szd v).o = some (gzd v) := by
 show (lzq v).run NN = _
 simp only [lzq, T.run, T.ix, bzi, az7, ez6, gzd, rng]
 cases decide (v.1.Lo < -268435456) || (decide (v.1.Lo > v.1.Hi) || decide (v.1.Hi > 268435456)) <;> cases decide (v.2.1.Lo < -268435456) || (decide (v.2.1.Lo > v.2.1.Hi) || decide (v.2.1.Hi > 268435456)) <;>
  cases decide (v.2.2.Lo < -268435456) || (decide (v.2.2.Lo > v.2.2.Hi) || decide (v.2.2.Hi > 268435456)) <;> rfl
theorem dzl (l : List IV3) : (czh l).o = some (bzx l) := by
 show (oz9 l).run NN = _
 simp only [oz9, T.run, T.ix, bzi, az7, ez6, bzx]
 by_cases h : 1 ≤ l.length /\ l.length ≤ 8
 ·rw [decide_eq_true h, decide_eq_false (p := (l.length : Int) < 1) (by omega), decide_eq_false (p := (l.length : Int) > 8) (by omega)]
  simp only [Bool.or_self, cond_false, Bool.true_and]
  refine (izs (fun i => sw (farL l i) false) l.length (by omega) (fun j hj => ?_) ?_).trans ?_
  ·rw [az9 (by omega), azf (by omega), wn (by omega), Int.toNat_natCast, ← fzk]
   unfold farL gzd rng
   generalize l.getD j default = v
   cases decide (v.1.Lo < -268435456) || (decide (v.1.Lo > v.1.Hi) || decide (v.1.Hi > 268435456)) <;> cases decide (v.2.1.Lo < -268435456) || (decide (v.2.1.Lo > v.2.1.Hi) || decide (v.2.1.Hi > 268435456)) <;>
    cases decide (v.2.2.Lo < -268435456) || (decide (v.2.2.Lo > v.2.2.Hi) || decide (v.2.2.Hi > 268435456)) <;> rfl
  ·rw [az6 (by omega)]
  ·rw [ez4]; cases cz5 (farL l) l.length <;> rfl
 ·rw [decide_eq_false h]
  by_cases h1 : (l.length : Int) < 1
  ·rw [decide_eq_true h1]; rfl
  ·rw [decide_eq_false h1, decide_eq_true (p := (l.length : Int) > 8) (by omega)]; rfl
theorem Cz0 (l : List IV3) : (uz5 l).o = some (bzx l) := by
 show (nzu l).run NN = _
 simp only [nzu, T.run, bzi, az7, Azr, Option.bind_some]
 refine (izs (fun i => sw (farL l i) false) (min l.length 9) (by omega) (fun j hj => ?_) ?_).trans ?_
 ·have e : (bif decide ((j : Int) < (l.length : Int)) then decide ((j : Int) ≤ 8) else false) = true := by rw [az9 (by omega), decide_eq_true (p := (j : Int) ≤ 8) (by omega)]
  rw [e, cond_true, azf (by omega), wn (by omega), Int.toNat_natCast, ← fzk]; rfl
 ·have e : (bif decide (((min l.length 9 : Nat) : Int) < (l.length : Int)) then decide (((min l.length 9 : Nat) : Int) ≤ 8) else false) = false := by
   by_cases hl : l.length ≤ 8
   ·rw [az6 (by omega)]
   ·by_cases h9 : ((min l.length 9 : Nat) : Int) < (l.length : Int)
    ·rw [az9 h9, decide_eq_false (p := ((min l.length 9 : Nat) : Int) ≤ 8) (by omega)]
    ·rw [az6 h9]
  rw [e, cond_false]
 ·rw [ez4]
  unfold bzx
  by_cases h : 1 ≤ l.length /\ l.length ≤ 8
  ·rw [decide_eq_true h, Nat.min_eq_left (by omega), Bool.true_and]
   cases cz5 (farL l) l.length
   ·rfl
   ·show (bif decide ((l.length : Int) ≥ 1) then _ else _) = _
    rw [az9 (by omega), decide_eq_true (p := (l.length : Int) ≤ 8) (by omega)]
  ·rw [decide_eq_false h, Bool.false_and]
   cases cz5 (farL l) (min l.length 9)
   ·rfl
   ·show (bif decide ((l.length : Int) ≥ 1) then _ else _) = _
    by_cases h1 : (l.length : Int) ≥ 1
    ·rw [az9 h1, decide_eq_false (p := (l.length : Int) ≤ 8) (by omega)]
    ·rw [az6 h1]
def dLo (n : V3) (v : IV3) : Int := min (n.1 * v.1.Lo) (n.1 * v.1.Hi) + min (n.2.1 * v.2.1.Lo) (n.2.1 * v.2.1.Hi) + min (n.2.2 * v.2.2.Lo) (n.2.2 * v.2.2.Hi)
def dHi (n : V3) (v : IV3) : Int := max (n.1 * v.1.Lo) (n.1 * v.1.Hi) + max (n.2.1 * v.2.1.Lo) (n.2.1 * v.2.1.Hi) + max (n.2.2 * v.2.2.Lo) (n.2.2 * v.2.2.Hi)
theorem Kzi {a b : Int} (ha : -16384 ≤ a /\ a ≤ 16384) (hb : -268435456 ≤ b /\ b ≤ 268435456) : -4398046511104 ≤ a * b /\ a * b ≤ 4398046511104 := by
 have h : (a * b).natAbs ≤ 16384 * 268435456 := by rw [Int.natAbs_mul]; exact Nat.mul_le_mul (by omega) (by omega)
 omega
theorem Tzb {n : V3} {v : IV3} (hn : dzj n = true) (hv : gzd v = true) :
 IntKind.i64.wrap (IntKind.i64.wrap (IntKind.i64.wrap (0 + min (IntKind.i64.wrap (n.1 * v.1.Lo)) (IntKind.i64.wrap (n.1 * v.1.Hi))) + min (IntKind.i64.wrap (n.2.1 * v.2.1.Lo)) (IntKind.i64.wrap (n.2.1 * v.2.1.Hi))) + min (IntKind.i64.wrap (n.2.2 * v.2.2.Lo)) (IntKind.i64.wrap (n.2.2 * v.2.2.Hi))) = dLo n v /\
 IntKind.i64.wrap (IntKind.i64.wrap (IntKind.i64.wrap (0 + max (IntKind.i64.wrap (n.1 * v.1.Lo)) (IntKind.i64.wrap (n.1 * v.1.Hi))) + max (IntKind.i64.wrap (n.2.1 * v.2.1.Lo)) (IntKind.i64.wrap (n.2.1 * v.2.1.Hi))) + max (IntKind.i64.wrap (n.2.2 * v.2.2.Lo)) (IntKind.i64.wrap (n.2.2 * v.2.2.Hi))) = dHi n v /\
 (-13194139533312 ≤ dLo n v /\ dLo n v ≤ 13194139533312) /\ (-13194139533312 ≤ dHi n v /\ dHi n v ≤ 13194139533312) := by
 obtain ⟨⟨b1, b2, b3⟩, -⟩ := Hz9 hn
 simp only [gzd, Bool.and_eq_true, Nzb] at hv
 obtain ⟨v1, v2, v3⟩ := hv
 have p1 := Kzi b1 (show -268435456 ≤ v.1.Lo /\ v.1.Lo ≤ 268435456 by omega)
 have p2 := Kzi b1 (show -268435456 ≤ v.1.Hi /\ v.1.Hi ≤ 268435456 by omega)
 have p3 := Kzi b2 (show -268435456 ≤ v.2.1.Lo /\ v.2.1.Lo ≤ 268435456 by omega)
 have p4 := Kzi b2 (show -268435456 ≤ v.2.1.Hi /\ v.2.1.Hi ≤ 268435456 by omega)
 have p5 := Kzi b3 (show -268435456 ≤ v.2.2.Lo /\ v.2.2.Lo ≤ 268435456 by omega)
 have p6 := Kzi b3 (show -268435456 ≤ v.2.2.Hi /\ v.2.2.Hi ≤ 268435456 by omega)
 unfold dLo dHi
 generalize n.1 * v.1.Lo = x1 at *
 generalize n.1 * v.1.Hi = x2 at *
 generalize n.2.1 * v.2.1.Lo = x3 at *
 generalize n.2.1 * v.2.1.Hi = x4 at *
 generalize n.2.2 * v.2.2.Lo = x5 at *
 generalize n.2.2 * v.2.2.Hi = x6 at *
 rw [w64 (x := x1) (by omega) (by omega), w64 (x := x2) (by omega) (by omega), w64 (x := x3) (by omega) (by omega), w64 (x := x4) (by omega) (by omega), w64 (x := x5) (by omega) (by omega), w64 (x := x6) (by omega) (by omega)]
 rw [w64 (x := 0 + min x1 x2) (by omega) (by omega), w64 (x := 0 + max x1 x2) (by omega) (by omega), w64 (x := 0 + min x1 x2 + min x3 x4) (by omega) (by omega), w64 (x := 0 + max x1 x2 + max x3 x4) (by omega) (by omega), w64 (by omega) (by omega), w64 (by omega) (by omega)]
 refine ⟨by omega, by omega, ⟨by omega, by omega⟩, ⟨by omega, by omega⟩⟩
theorem wzt {n : V3} {v : IV3} (hn : dzj n = true) (hv : gzd v = true) : (qzh n v).o = some (dLo n v, dHi n v) := by
 have h := Tzb hn hv
 show (qzi n v).run NN = _
 simp only [qzi, T.run, T.ix, h.1, h.2.1]
def bst (c : Int -> Int -> Bool) (f : Nat -> Int) : Nat -> Int × Int
 | 0 => (0, 0)
 | j + 1 => if decide (j = 0) || c (f j) (bst c f j).1 then (f j, (j : Int)) else bst c f j
def ltB (a b : Int) : Bool := decide (a < b)
def gtB (a b : Int) : Bool := decide (a > b)
def Az5 (n : V3) (l : List IV3) : Int × Int := bst ltB (fun i => dLo n (l.getD i default)) l.length
def zzw (n : V3) (l : List IV3) : Int × Int := bst gtB (fun i => dHi n (l.getD i default)) l.length
section
variable {n : V3} {l : List IV3} (hn : dzj n = true) (hl : bzx l = true)
include hn hl
theorem yzr : (qzp n.1 n.2.1 n.2.2 l).o = some ((Az5 n l).1, (Az5 n l).2, n.1, n.2.1, n.2.2) := by
 have hlen := fzr hl
 show (jzx n.1 n.2.1 n.2.2 l).run NN = _
 simp only [jzx, T.run]
 refine (ezi (fun j => (n.1, n.2.1, n.2.2, (bst ltB (fun i => dLo n (l.getD i default)) j).1, (bst ltB (fun i => dLo n (l.getD i default)) j).2, (j : Int))) (n.1, n.2.1, n.2.2, (Az5 n l).1, (Az5 n l).2) l.length rfl (show l.length < 4294967296 by omega) (fun j hj => ?_) ?_).trans rfl
 ·rw [az9 (by simpa using hj), azf ⟨by simp, by simpa using hj⟩]
  have e1 : (kzr (l.getD j default) n.1 n.2.1 n.2.2).o = some (dLo n (l.getD j default), n.1, n.2.1, n.2.2) := by
   show (gz1 (l.getD j default) n.1 n.2.1 n.2.2).run NN = _
   simp only [gz1, T.run, wzt (n := (n.1, n.2.1, n.2.2)) hn (xzn hl hj), Option.bind_some]
  have e2 : ∀ a b, (kzs a b).o = some (ltB a b) := fun a b => rfl
  simp only [Int.toNat_natCast, e1, e2, Option.bind_some]
  rw [wn (by omega)]
  simp only [bzi, az7, bst]
  have e : ((j : Int) == 0) = decide (j = 0) := by rw [Bool.eq_iff_iff]; simp
  rw [e, ez6]
  cases decide (j = 0) || ltB (dLo n (l.getD j default)) (bst ltB (fun i => dLo n (l.getD i default)) j).1 <;> rfl
 ·rw [az6 (by simp)]; rfl
theorem vzk : (mzg n.1 n.2.1 n.2.2 l).o = some ((zzw n l).1, (zzw n l).2, n.1, n.2.1, n.2.2) := by
 have hlen := fzr hl
 show (gzw n.1 n.2.1 n.2.2 l).run NN = _
 simp only [gzw, T.run]
 refine (ezi (fun j => (n.1, n.2.1, n.2.2, (bst gtB (fun i => dHi n (l.getD i default)) j).1, (bst gtB (fun i => dHi n (l.getD i default)) j).2, (j : Int))) (n.1, n.2.1, n.2.2, (zzw n l).1, (zzw n l).2) l.length rfl (show l.length < 4294967296 by omega) (fun j hj => ?_) ?_).trans rfl
 ·rw [az9 (by simpa using hj), azf ⟨by simp, by simpa using hj⟩]
  have e1 : (mzz (l.getD j default) n.1 n.2.1 n.2.2).o = some (dHi n (l.getD j default), n.1, n.2.1, n.2.2) := by
   show (iz1 (l.getD j default) n.1 n.2.1 n.2.2).run NN = _
   simp only [iz1, T.run, wzt (n := (n.1, n.2.1, n.2.2)) hn (xzn hl hj), Option.bind_some]
  have e2 : ∀ a b, (nz0 a b).o = some (gtB a b) := fun a b => rfl
  simp only [Int.toNat_natCast, e1, e2, Option.bind_some]
  rw [wn (by omega)]
  simp only [bzi, az7, bst]
  have e : ((j : Int) == 0) = decide (j = 0) := by rw [Bool.eq_iff_iff]; simp
  rw [e, ez6]
  cases decide (j = 0) || gtB (dHi n (l.getD j default)) (bst gtB (fun i => dHi n (l.getD i default)) j).1 <;> rfl
 ·rw [az6 (by simp)]; rfl
end
def Mzi (n : V3) (l : List IV3) : Int × Int × Bool := bif dzj n && bzx l then ((Az5 n l).1, (Az5 n l).2, true) else (0, 0, false)
def Lzu (n : V3) (l : List IV3) : Int × Int × Bool := bif dzj n && bzx l then ((zzw n l).1, (zzw n l).2, true) else (0, 0, false)
theorem Bz9 (n : V3) (l : List IV3) : (tz0 n l).o = some (Mzi n l) := by
 show (mz4 n l).run NN = _
 have e1 : (mzy (n.1, n.2.1, n.2.2)).o = some (n.1, n.2.1, n.2.2) := rfl
 simp only [mz4, T.run, dzx, dzl, Option.bind_some, Mzi, e1]
 cases hn : dzj n
 ·rfl
 ·cases hl : bzx l
  ·rfl
  ·simp only [Bool.not_true, cond_false, az7, yzr hn hl, Option.bind_some, Bool.and_self, cond_true]
theorem wzs (n : V3) (l : List IV3) : (mzx n l).o = some (Lzu n l) := by
 show (iz0 n l).run NN = _
 have e1 : (rz7 (n.1, n.2.1, n.2.2)).o = some (n.1, n.2.1, n.2.2) := rfl
 simp only [iz0, T.run, dzx, dzl, Option.bind_some, Lzu, e1]
 cases hn : dzj n
 ·rfl
 ·cases hl : bzx l
  ·rfl
  ·simp only [Bool.not_true, cond_false, az7, vzk hn hl, Option.bind_some, Bool.and_self, cond_true]
def radV (r : Int) : Bool := decide (0 ≤ r) && decide (r ≤ 1048576)
noncomputable def Iz1 (n : V3) (a : List IV3) (ra : Int) (b : List IV3) (rb : Int) : Int :=
 IntKind.i64.wrap (IntKind.i64.wrap ((Az5 n a).1 - (zzw n b).1) - IntKind.i64.wrap (Pz8 n * IntKind.i64.wrap (ra + rb)))
def Pzy (n : V3) (a : List IV3) (ra : Int) (b : List IV3) (rb : Int) : Bool := dzj n && (bzx a && (bzx b && (radV ra && radV rb)))
noncomputable def sepV (n : V3) (a : List IV3) (ra : Int) (b : List IV3) (rb : Int) : Bool := Pzy n a ra b rb && decide (Iz1 n a ra b rb > 0)
theorem nzv (r : Int) : (jzc r).o = some (radV r) := by
 show (gz7 r).run NN = _
 simp only [gz7, T.run, dzz, mzf, radV, ge_iff_le]
theorem Hz2 (x : dzy) : (szx x).o = some (bzx x.points && radV x.radius) := by
 show (szy x).run NN = _
 simp only [szy, T.run, dzl, Option.bind_some, radV]
 cases bzx x.points <;> cases decide (0 ≤ x.radius) <;> rfl
theorem xzo (n : V3) (a : List IV3) (ra : Int) (b : List IV3) (rb : Int) : (ozv n a ra b rb).o = some (sepV n a ra b rb) := by
 have e1 : (yzd a ra b rb).o = some ⟨⟨a, ra⟩, ⟨b, rb⟩⟩ := rfl
 have e2 : (uzd ⟨⟨a, ra⟩, ⟨b, rb⟩⟩ n).o = some (bif Pzy n a ra b rb then (Iz1 n a ra b rb, true) else (0, false)) := by
  show (oza ⟨⟨a, ra⟩, ⟨b, rb⟩⟩ n).run NN = _
  simp only [oza, T.run, Hz2, Bz9, wzs, uze, Option.bind_some, Mzi, Lzu, Pzy, Iz1]
  cases dzj n <;> cases bzx a <;> cases bzx b <;> cases radV ra <;> cases radV rb <;> rfl
 have e3 : (pz0 ⟨⟨a, ra⟩, ⟨b, rb⟩⟩ n).o = some (sepV n a ra b rb) := by
  show (izu ⟨⟨a, ra⟩, ⟨b, rb⟩⟩ n).run NN = _
  simp only [izu, T.run, e2, Option.bind_some, sepV]
  cases Pzy n a ra b rb <;> rfl
 show (izi n a ra b rb).run NN = _
 simp only [izi, T.run, e1, e3, Option.bind_some]
theorem Iza {c : Nat -> Nat -> Bool} {L : List dz9} {i : Nat} {x : dz9} : ∀ {m : Nat}, x ∈ pin c L i m -> x ∈ L \/ ∃ k, k < m /\ x = ⟨(i : Int), ((i + 1 + k : Nat) : Int)⟩
 | 0, h => Or.inl h
 | m + 1, h => by
   simp only [pin] at h
   split at h
   ·rcases List.mem_append.1 h with h | h
    ·rcases Iza h with h | ⟨k, h1, h2⟩
     ·exact Or.inl h
     ·exact Or.inr ⟨k, by omega, h2⟩
    ·exact Or.inr ⟨m, by omega, List.mem_singleton.1 h⟩
   ·rcases Iza h with h | ⟨k, h1, h2⟩
    ·exact Or.inl h
    ·exact Or.inr ⟨k, by omega, h2⟩
theorem Mzz {c : Nat -> Nat -> Bool} {n : Nat} {x : dz9} : ∀ {i : Nat}, i ≤ n -> x ∈ pou c n i -> 0 ≤ x.A /\ x.A < (n : Int) /\ 0 ≤ x.B /\ x.B < (n : Int)
 | 0, _, h => by simp [pou, nl] at h
 | i + 1, hi, h => by
   simp only [pou] at h
   rcases Iza h with h | ⟨k, h1, h2⟩
   ·exact Mzz (by omega) h
   ·subst h2; simp only; omega
theorem cza {α : Type} [Inhabited α] {l : List α} {i : Nat} (h : i < l.length) : l.getD i default ∈ l := by
 rw [List.getD_eq_getElem?_getD, List.getElem?_eq_getElem h, Option.getD_some]; exact List.getElem_mem h
theorem Pz9 {s : azm} (h : ezl s = 0) {k : Nat} (hk : k < (czt s).length) : (0 ≤ ((czt s).getD k default).A /\ ((czt s).getD k default).A < (s.Shapes.length : Int)) /\ (0 ≤ ((czt s).getD k default).B /\ ((czt s).getD k default).B < (s.Shapes.length : Int)) := by
 have hm := cza hk
 generalize (czt s).getD k default = x at hm ⊢
 unfold czt at hm
 rw [if_pos h] at hm
 have := Mzz (Nat.le_refl _) hm
 omega
theorem Gzg (s : azm) : (czt s).length ≤ 576 := by
 unfold czt
 split
 ·rename_i h
  have h1 := (Bz3 h).len
  have h2 := Izd (xzl s) (n := s.Shapes.length) s.Shapes.length
  have h3 : s.Shapes.length * s.Shapes.length ≤ 24 * 24 := Nat.mul_le_mul h1 h1
  omega
 ·simp [nl]
def pA (s : azm) (k : Nat) : Nat := ((czt s).getD k default).A.toNat
def pB (s : azm) (k : Nat) : Nat := ((czt s).getD k default).B.toNat
def mzb (s : azm) (i : Nat) : Int := (s.Shapes.getD i default).Radius
noncomputable def sepK (s : azm) (b : List az0) (ns : List V3) (k : Nat) : Bool := !sepV (ns.getD k default) (cze s b (pA s k)) (mzb s (pA s k)) (cze s b (pB s k)) (mzb s (pB s k))
noncomputable def Lzs (s : azm) (b : List az0) (ns : List V3) : Bool :=
 decide (ezl s = 0) && (boxV s.Robot b && (decide (ns.length = (czt s).length) && cz5 (sepK s b ns) (czt s).length))
theorem Izb {s : azm} {b : List az0} (h : ezl s = 0) (hb : boxV s.Robot b = true) : uzw s b = tab (cze s b) s.Shapes.length := by unfold uzw; rw [if_pos ⟨h, hb⟩]
theorem yzp (s : azm) (b : List az0) (hbl : b.length < 4294967296) : (qzm s b).o = some (if ezl s = 0 /\ boxV s.Robot b = true then (⟨s.Shapes, czt s, uzw s b⟩, true) else (⟨nl, nl, nl⟩, false)) := by
 show (jzu s b).run NN = _
 simp only [jzu, T.run, hzq, Option.bind_some]
 by_cases h : ezl s = 0
 ·rw [czl h, az7]
  by_cases hl : b.length = s.Robot.Joints.length
  ·rw [czl (by omega)]
   refine (izs (fun i => sw (notV b i) ((⟨nl, nl, nl⟩ : bzv), false)) b.length hbl (fun j hj => ?_) ?_).trans ?_
   ·rw [az9 (by omega), azf (by omega), wn (by omega), Int.toNat_natCast, ← fzk]
    simp only [cz0, Option.bind_some]; rfl
   ·rw [az6 (by omega)]
   ·rw [ez4]
    have : boxV s.Robot b = cz5 (notV b) b.length := by unfold boxV; rw [decide_eq_true hl, Bool.true_and]
    rw [this]
    cases cz5 (notV b) b.length
    ·rw [if_neg (fun h => by cases h.2)]; rfl
    ·rw [if_pos ⟨h, rfl⟩]
     simp only [sw, Bool.not_true, cond_false, Ezn, uzt s b hbl, Option.bind_some]
  ·rw [dzf (by omega), if_neg]
   rintro ⟨-, hb⟩
   simp only [boxV, Bool.and_eq_true, decide_eq_true_eq] at hb
   exact hl hb.1
 ·rw [dzf h, az7, if_neg (fun h' => h h'.1)]; rfl
section
variable (s : azm) (p q : List Int) (l : List azp) (hp : p.length < 4294967296) (hq : q.length < 4294967296)
include hp hq
end
def cenF (l : List IV3) (i : Nat) : V3 := (midV (l.getD i default).1, midV (l.getD i default).2.1, midV (l.getD i default).2.2)
def cenV (l : List IV3) : List V3 := if bzx l then tab (cenF l) l.length else nl
theorem pzp {σ τ R β : Type} {f : σ -> Option (Step3 σ τ R)} {k : τ -> Option R} {g : β -> R} {P : β -> Prop} {x : σ} (n : Nat) (hn : n < 4294967296) (I : Nat -> σ -> Prop) (Q : τ -> Prop) (h0 : I 0 x)
 (hs : ∀ j y, j < n -> I j y -> ∃ y', f y = some (.next y') /\ I (j + 1) y') (he : ∀ y, I n y -> ∃ z, f y = some (.out z) /\ Q z) (hk : ∀ z, Q z -> ∃ b, k z = some (g b) /\ P b) : ∃ b, andK (iter f NN x) k = some (g b) /\ P b := by
 have key : ∀ (m j N : Nat) (y : σ), j + m = n -> m < N -> I j y -> ∃ z, iter f N y = some (.inl z) /\ Q z := by
  intro m
  induction m with
  | zero =>
    intro j N y hj hN hI
    obtain ⟨M, rfl⟩ : ∃ M, N = M + 1 := ⟨N - 1, by omega⟩
    obtain rfl : j = n := by omega
    obtain ⟨z, h1, h2⟩ := he y hI
    exact ⟨z, by simp [iter, h1], h2⟩
  | succ m ih =>
    intro j N y hj hN hI
    obtain ⟨M, rfl⟩ : ∃ M, N = M + 1 := ⟨N - 1, by omega⟩
    obtain ⟨y', h1, h2⟩ := hs j y (by omega) hI
    simp only [iter, h1]
    exact ih (j + 1) M y' (by omega) (by omega) h2
 obtain ⟨z, h1, h2⟩ := key n 0 NN x (by omega) hn h0
 obtain ⟨b, h3, h4⟩ := hk z h2
 exact ⟨b, by rw [h1]; exact h3, h4⟩
theorem InR.max {a b : Int} (ha : InR a) (hb : InR b) : InR (max a b) := by
 obtain ⟨h1, h2⟩ := ha; obtain ⟨h3, h4⟩ := hb; exact ⟨by omega, by omega⟩
theorem yzh (a : Int) : (fzf a).o = some (max a (IntKind.i64.wrap (0 - a))) := rfl
end Go.Abs
