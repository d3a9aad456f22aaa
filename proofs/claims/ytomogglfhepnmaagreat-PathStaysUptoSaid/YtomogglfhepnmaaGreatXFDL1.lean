/-
  DL1 (a part of a claim: our own text).
-/
import Derived.Test.YtomogglfhepnmaaGreatXFPLib
import Derived.Test.YtomogglfhepnmaaGreatXFD3
import Derived.Lib.DecodeN
namespace Go.Abs
theorem kze {α : Type} {a b : Int} {x y : α} (h : a = b) : (bif (a == b) then x else y) = x := zzk (by simpa using h)
theorem gzg {α : Type} {a b : Int} {x y : α} (h : a ≠ b) : (bif (a == b) then x else y) = y := rz3 (by simpa using h)
theorem bzl {α : Type} {a b : Int} {x y : α} (h : a ≠ b) : (bif (a != b) then x else y) = x := zzk (by simpa using h)
theorem bzg {α : Type} {a b : Int} {x y : α} (h : a = b) : (bif (a != b) then x else y) = y := rz3 (by simpa using h)
theorem wr (n : Int) : IntKind.i64.wrap n = (n + 9223372036854775808) % 18446744073709551616 - 9223372036854775808 := by
  show (if (true && decide (n % 18446744073709551616 ≥ 9223372036854775808)) = true then n % 18446744073709551616 - 18446744073709551616 else n % 18446744073709551616) = _
  by_cases h : n % 18446744073709551616 ≥ 9223372036854775808
  · rw [if_pos (by rw [decide_eq_true h]; rfl)]; omega
  · rw [if_neg (by rw [decide_eq_false h]; decide)]; omega
theorem Tzo (n : Int) : -9223372036854775808 ≤ IntKind.i64.wrap n := by rw [wr]; omega
theorem Tzn (n : Int) : IntKind.i64.wrap n ≤ 9223372036854775807 := by rw [wr]; omega
def InR (x : Int) : Prop := -9223372036854775808 ≤ x ∧ x ≤ 9223372036854775807
theorem InR.wr (n : Int) : InR (IntKind.i64.wrap n) := ⟨Tzo n, Tzn n⟩
theorem InR.w {x : Int} (h : InR x) : IntKind.i64.wrap x = x := w64 h.1 h.2
def cdiv (a b : Int) : Int := -((-a) / b)
theorem fza {a b : Int} (ha : 0 ≤ a) : a.tdiv b = a / b := Int.tdiv_eq_ediv_of_nonneg ha
theorem Kz4 {a b : Int} (ha : 0 ≤ a) : a.tmod b = a % b := Int.tmod_eq_emod_of_nonneg ha
theorem Bzc (a b : Int) : (-a).tdiv b = -(a.tdiv b) := Int.neg_tdiv a b
theorem Nzq (a b : Int) : (-a).tmod b = -(a.tmod b) := Int.neg_tmod a b
theorem oza {a b q r : Int} (h0 : 0 ≤ r) (h1 : r < b) (h : a = b * q + r) : a / b = q := by
  subst h
  rw [Int.mul_add_ediv_left _ _ (by omega : b ≠ 0), Int.ediv_eq_zero_of_lt h0 h1]; omega
theorem Hzr {a b : Int} (hb : 0 < b) : (if a.tmod b < 0 then a.tdiv b - 1 else a.tdiv b) = a / b := by
  have h1 := Int.mul_tdiv_add_tmod a b
  have h2 := Int.tmod_lt_of_pos a hb
  have h3 := Int.lt_tmod_of_pos a hb
  split
  · symm; exact oza (r := a.tmod b + b) (by omega) (by omega) (by rw [Int.mul_sub]; omega)
  · symm; exact oza (r := a.tmod b) (by omega) (by omega) (by omega)
theorem Pzr {a b : Int} (hb : 0 < b) : (if a.tmod b > 0 then a.tdiv b + 1 else a.tdiv b) = cdiv a b := by
  have := Hzr (a := -a) hb
  rw [Nzq, Bzc] at this
  unfold cdiv
  rw [← this]
  split
  · rw [if_pos (by omega)]; omega
  · rw [if_neg (by omega)]; omega
theorem zzu {a b : Int} (hb : 0 < b) : b * (a / b) ≤ a := Int.mul_ediv_self_le (by omega)
theorem Fzd {a b : Int} (hb : 0 < b) : a < b * (a / b) + b := Int.lt_mul_ediv_self_add hb
theorem xzz {a b : Int} (hb : 0 < b) : (0 ≤ a → 0 ≤ a / b ∧ a / b ≤ a) ∧ (a < 0 → a ≤ a / b ∧ a / b < 0) := by
  refine ⟨fun h => ⟨Int.ediv_nonneg h (by omega), Int.ediv_le_self _ h⟩, fun h => ⟨?_, Int.ediv_neg_of_neg_of_pos h hb⟩⟩
  have h1 := Fzd (a := a) hb
  have h2 : a / b < 0 := Int.ediv_neg_of_neg_of_pos h hb
  by_cases hc : a ≤ a / b
  · exact hc
  · exfalso
    have h3 : a / b + 1 ≤ a := by omega
    have h4 : b * (a / b) + b = b * (a / b + 1) := by rw [Int.mul_add]; omega
    have h5 : b * (a / b + 1) ≤ 1 * (a / b + 1) := Int.mul_le_mul_of_nonpos_right (by omega) (by omega)
    omega
theorem InR.div {a b : Int} (h : InR a) (hb : 0 < b) : InR (a / b) := by
  have := xzz (a := a) hb
  obtain ⟨h1, h2⟩ := h
  by_cases h0 : 0 ≤ a
  · have := this.1 h0; exact ⟨by omega, by omega⟩
  · have := this.2 (by omega); exact ⟨by omega, by omega⟩
theorem rz4 {a b : Int} (hb : 0 < b) : (0 < a → 0 < cdiv a b ∧ cdiv a b ≤ a) ∧ (a ≤ 0 → a ≤ cdiv a b ∧ cdiv a b ≤ 0) := by
  have := xzz (a := -a) hb
  unfold cdiv
  exact ⟨fun h => by have := this.2 (by omega); omega, fun h => by have := this.1 (by omega); omega⟩
theorem InR.cdiv {a b : Int} (h : InR a) (hb : 0 < b) : InR (Go.Abs.cdiv a b) := by
  have := rz4 (a := a) hb
  obtain ⟨h1, h2⟩ := h
  by_cases h0 : 0 < a
  · have := this.1 h0; exact ⟨by omega, by omega⟩
  · have := this.2 (by omega); exact ⟨by omega, by omega⟩
theorem Rzs {a b : Int} (hb : 0 < b) : (0 ≤ a → 0 ≤ a.tdiv b ∧ a.tdiv b ≤ a) ∧ (a ≤ 0 → a ≤ a.tdiv b ∧ a.tdiv b ≤ 0) := by
  refine ⟨fun h => ?_, fun h => ?_⟩
  · rw [fza h]; exact (xzz hb).1 h
  · have h1 := (xzz (a := -a) hb).1 (by omega)
    rw [← fza (by omega), Bzc] at h1
    omega
theorem InR.tdiv {a b : Int} (h : InR a) (hb : 0 < b) : InR (a.tdiv b) := by
  have := Rzs (a := a) hb
  obtain ⟨h1, h2⟩ := h
  by_cases h0 : 0 ≤ a
  · have := this.1 h0; exact ⟨by omega, by omega⟩
  · have := this.2 (by omega); exact ⟨by omega, by omega⟩
theorem Szc {a b : Int} (ha : InR a) (hb : 0 < b) : (bif decide (a.tmod b < 0) then IntKind.i64.wrap (IntKind.i64.wrap (a.tdiv b) - 1) else IntKind.i64.wrap (a.tdiv b)) = a / b := by
  rw [(ha.tdiv hb).w, ← Hzr hb, cond_eq_ite]
  simp only [decide_eq_true_eq]
  split
  · rename_i h
    have := ha.div hb
    rw [← Hzr hb, if_pos h] at this
    exact this.w
  · rfl
theorem Tzc {a b : Int} (ha : InR a) (hb : 0 < b) : (bif decide (a.tmod b > 0) then IntKind.i64.wrap (IntKind.i64.wrap (a.tdiv b) + 1) else IntKind.i64.wrap (a.tdiv b)) = cdiv a b := by
  rw [(ha.tdiv hb).w, ← Pzr hb, cond_eq_ite]
  simp only [decide_eq_true_eq]
  split
  · rename_i h
    have := ha.cdiv hb
    rw [← Pzr hb, if_pos h] at this
    exact this.w
  · rfl
theorem rz5 {a b q : Int} (hb : 0 < b) : cdiv a b = q ↔ a ≤ b * q ∧ b * q < a + b := by
  unfold cdiv
  have h1 := zzu (a := -a) hb
  have h2 := Fzd (a := -a) hb
  constructor
  · intro h
    have : b * q = -(b * (-a / b)) := by rw [← h, Int.mul_neg]
    omega
  · intro h
    have : -a / b = -q := oza (r := b * q - a) (by omega) (by omega) (by rw [Int.mul_neg]; omega)
    omega
def scan {R : Type} (g : Nat → Option R) : Nat → Nat → Option R
  | 0, _ => none
  | n + 1, i => match g i with
    | some r => some r
    | none => scan g n (i + 1)
theorem Czo {R : Type} {g g' : Nat → Option R} : ∀ (n i : Nat), (∀ j, i ≤ j → j < i + n → g j = g' j) → scan g n i = scan g' n i
  | 0, _, _ => rfl
  | n + 1, i, h => by
    simp only [scan]
    rw [h i (by omega) (by omega), Czo n (i + 1) (fun j h1 h2 => h j (by omega) (by omega))]
theorem dzm {R : Type} {g : Nat → Option R} : ∀ (n i : Nat), scan g n i = none ↔ ∀ j, i ≤ j → j < i + n → g j = none
  | 0, i => by simp only [scan, true_iff]; intro j h1 h2; omega
  | n + 1, i => by
    simp only [scan]
    constructor
    · intro h
      split at h
      · cases h
      · rename_i h0
        intro j h1 h2
        by_cases e : j = i
        · subst e; exact h0
        · exact (dzm n (i + 1)).1 h j (by omega) (by omega)
    · intro h
      rw [h i (by omega) (by omega)]
      exact (dzm n (i + 1)).2 fun j h1 h2 => h j (by omega) (by omega)
theorem dzc {R : Type} {g : Nat → Option R} {r : R} : ∀ (n i : Nat), scan g n i = some r → ∃ j, i ≤ j ∧ j < i + n ∧ g j = some r ∧ ∀ k, i ≤ k → k < j → g k = none
  | 0, i, h => by cases h
  | n + 1, i, h => by
    simp only [scan] at h
    split at h
    · rename_i h0; cases h; exact ⟨i, by omega, by omega, h0, fun k h1 h2 => by omega⟩
    · rename_i h0
      obtain ⟨j, h1, h2, h3, h4⟩ := dzc n (i + 1) h
      refine ⟨j, by omega, by omega, h3, fun k h5 h6 => ?_⟩
      by_cases e : k = i
      · subst e; exact h0
      · exact h4 k (by omega) h6
theorem Fzv {σ τ R : Type} {f : σ → Option (Step3 σ τ R)} (st : Nat → σ) (g : Nat → Option R) (y : τ) :
    ∀ (n i N : Nat), n < N → (∀ j, i ≤ j → j < i + n → f (st j) = match g j with | some r => some (.fin r) | none => some (.next (st (j + 1)))) → f (st (i + n)) = some (.out y) →
      iter f N (st i) = some (match scan g n i with | some r => .inr r | none => .inl y)
  | 0, i, 0, h, _, _ => by omega
  | 0, i, N + 1, _, _, h => by simp only [Nat.add_zero] at h; simp [iter, h, scan]
  | n + 1, i, 0, h, _, _ => by omega
  | n + 1, i, N + 1, h0, hs, he => by
    have h1 := hs i (by omega) (by omega)
    simp only [scan]
    cases hg : g i with
    | some r => rw [hg] at h1; simp [iter, h1]
    | none =>
      rw [hg] at h1
      simp only [iter, h1]
      exact Fzv st g y n (i + 1) N (by omega) (fun j a b => hs j (by omega) (by omega)) (by rw [← he]; congr 2; omega)
theorem jza {σ τ R : Type} {f : σ → Option (Step3 σ τ R)} {k : τ → Option R} {x : σ} (st : Nat → σ) (g : Nat → Option R) (y : τ) (n : Nat) (hx : x = st 0) (hn : n < NN)
    (hs : ∀ j, j < n → f (st j) = match g j with | some r => some (.fin r) | none => some (.next (st (j + 1)))) (he : f (st n) = some (.out y)) :
    andK (iter f NN x) k = match scan g n 0 with | some r => some r | none => k y := by
  rw [hx, Fzv st g y n 0 NN hn (fun j _ h => hs j (by omega)) (by rw [Nat.zero_add]; exact he)]
  cases scan g n 0 <;> rfl
theorem ez8 {σ τ R : Type} {f : σ → Option (Step3 σ τ R)} {k : τ → Option R} {x : σ} (st : Nat → σ) (y : τ) (n : Nat) (hx : x = st 0) (hn : n < NN)
    (hs : ∀ j, j < n → f (st j) = some (.next (st (j + 1)))) (he : f (st n) = some (.out y)) : andK (iter f NN x) k = k y := by
  rw [hx, zz2 (Ozi st rfl n hn hs he)]
theorem azb {R : Type} {p : Prop} [Decidable p] {k : Option R} (h : p) : grd p k = k := by unfold grd; simp [h]
theorem dzl {α : Type} {b : Bool} {x y : α} : (bif b then some x else some y) = some (bif b then x else y) := by cases b <;> rfl
theorem bz0 {σ τ R : Type} {b : Bool} {x y : τ} : (bif b then some (Step3.out x) else some (Step3.out y) : Option (Step3 σ τ R)) = some (.out (bif b then x else y)) := by cases b <;> rfl
theorem dz9 {b c : Bool} : (bif b then true else c) = (b || c) := by cases b <;> rfl
theorem mz2 {b c : Bool} : (bif b then c else false) = (b && c) := by cases b <;> rfl
theorem Gzf {a b : Int} (ha : InR a) (hb : 0 < b) : (yzf a b).o = some (a / b) := by
  show (szg a b).run NN = _
  have h0 : b ≠ 0 := by omega
  simp only [szg, T.run, azb h0, bz0, aza]
  exact congrArg some (Szc ha hb)
theorem vz0 {a b : Int} (ha : InR a) (hb : 0 < b) : (gz2 a b).o = some (cdiv a b) := by
  show (uzz a b).run NN = _
  have h0 : b ≠ 0 := by omega
  simp only [uzz, T.run, azb h0, bz0, aza]
  exact congrArg some (Tzc ha hb)
theorem bzh (k : Nat) : (0 : Int) < 2 ^ k := Int.pow_pos (by omega)
theorem tz9 (a : Int) (k : Nat) : a.fdiv (2 ^ k) = a / 2 ^ k := Int.fdiv_eq_ediv_of_nonneg _ (Int.le_of_lt (bzh k))
theorem fz6 (a : Int) (k : Nat) (hk : k ≤ 64) : (azm a (k : Int)).o = some (a / 2 ^ k) := by
  show (iz4 a (k : Int)).run NN = _
  simp only [iz4, T.run]
  rw [az5 (by omega), azb (by omega), Int.toNat_natCast, Nat.min_eq_left hk, tz9]
theorem up_w {a b : Int} (ha : InR a) (hb : 0 < b) (hlo : InR (b * (a / b))) : (bif (IntKind.i64.wrap (a / b * b) != a) then IntKind.i64.wrap (a / b + 1) else a / b) = cdiv a b := by
  rw [Int.mul_comm, hlo.w]
  have h1 := zzu (a := a) hb
  have h2 := Fzd (a := a) hb
  symm
  rw [rz5 hb]
  by_cases e : b * (a / b) = a
  · rw [bzg e]; omega
  · rw [bzl e]
    have : IntKind.i64.wrap (a / b + 1) = a / b + 1 := by
      have h3 := ha.cdiv hb
      have : cdiv a b = a / b + 1 := by rw [rz5 hb, Int.mul_add]; omega
      rw [this] at h3; exact h3.w
    rw [this, Int.mul_add]; omega
theorem Szu {a : Int} {k : Nat} (hk : k ≤ 63) (ha : InR a) : InR (2 ^ k * (a / 2 ^ k)) := by
  have hp := bzh k
  have h1 := zzu (a := a) hp
  obtain ⟨h3, h4⟩ := ha
  have h5 : -(2 ^ (63 - k)) ≤ a / 2 ^ k := by
    rw [Int.le_ediv_iff_mul_le hp, Int.neg_mul, ← Int.pow_add, Nat.sub_add_cancel hk]
    have : (2 : Int) ^ 63 = 9223372036854775808 := by decide
    omega
  have h6 : 2 ^ k * -(2 : Int) ^ (63 - k) ≤ 2 ^ k * (a / 2 ^ k) := Int.mul_le_mul_of_nonneg_left h5 (by omega)
  rw [Int.mul_neg, ← Int.pow_add, Nat.add_sub_cancel' hk] at h6
  have : (2 : Int) ^ 63 = 9223372036854775808 := by decide
  exact ⟨by omega, by omega⟩
theorem gzm {a : Int} (k : Nat) (hk : k ≤ 63) (ha : InR a) : (azs a (k : Int)).o = some (cdiv a (2 ^ k)) := by
  show (lzc a (k : Int)).run NN = _
  simp only [lzc, T.run]
  rw [az5 (by omega), azb (by omega), azb (by omega), Int.toNat_natCast, Nat.min_eq_left (by omega), tz9, bz0, aza, up_w ha (bzh k) (Szu hk ha)]
theorem sd16 (a : Int) : (azm a 16).o = some (a / 65536) := fz6 a 16 (by decide)
theorem sd30 (a : Int) : (azm a 30).o = some (a / 1073741824) := fz6 a 30 (by decide)
theorem sd14 (a : Int) : (azm a 14).o = some (a / 16384) := fz6 a 14 (by decide)
theorem su16 {a : Int} (h : InR a) : (azs a 16).o = some (cdiv a 65536) := gzm 16 (by decide) h
theorem su30 {a : Int} (h : InR a) : (azs a 30).o = some (cdiv a 1073741824) := gzm 30 (by decide) h
theorem su14 {a : Int} (h : InR a) : (azs a 14).o = some (cdiv a 16384) := gzm 14 (by decide) h
def clV (x : Int) : Int := max (-2147483648) (min x 2147483648)
def vV (a : az0) : Bool := decide (-2147483648 ≤ a.Lo) && (decide (a.Lo ≤ a.Hi) && decide (a.Hi ≤ 2147483648))
theorem vV_iff {a : az0} : vV a = true ↔ -2147483648 ≤ a.Lo ∧ a.Lo ≤ a.Hi ∧ a.Hi ≤ 2147483648 := by simp [vV]
def iz : az0 := ⟨0, 0⟩
def limV (lo hi : Int) : az0 := ⟨clV lo, clV hi⟩
def addV (a b : az0) : az0 := if vV a && vV b then limV (a.Lo + b.Lo) (a.Hi + b.Hi) else iz
def negV (a : az0) : az0 := if vV a then ⟨-a.Hi, -a.Lo⟩ else iz
def xzh (a b : az0) : Int := min (min (min (a.Lo * b.Lo) (a.Lo * b.Hi)) (a.Hi * b.Lo)) (a.Hi * b.Hi)
def xzg (a b : az0) : Int := max (max (max (a.Lo * b.Lo) (a.Lo * b.Hi)) (a.Hi * b.Lo)) (a.Hi * b.Hi)
def mulV (a b : az0) : az0 := if vV a && vV b then limV (xzh a b / 65536) (cdiv (xzg a b) 65536) else iz
def lzz (a b : az0) : az0 := if vV a && vV b then ⟨min a.Lo b.Lo, max a.Hi b.Hi⟩ else iz
def ofV (x : Int) : az0 := ⟨clV x, clV x⟩
def midV (a : az0) : Int := if vV a then (a.Lo + a.Hi) / 2 else 0
theorem Dzq (a : Int) : (pz7 a).o = some (clV a) := by
  show (pz8 a).run NN = _
  simp only [pz8, T.run, clV, Option.some.injEq]; omega
theorem bzo (a : az0) : (bz9 a).o = some (vV a) := by
  show (jzv a).run NN = _
  simp only [jzv, T.run, vV, dzl, mz2]
theorem jzz (a b : az0) : (fzw a b).o = some (vV a && vV b) := by
  show (jzy a b).run NN = _
  simp only [jzy, T.run, bzo, Option.bind_some, dzl, mz2]
theorem gzq (a b : Int) : (ezr a b).o = some (limV a b) := by
  show (gzp a b).run NN = _
  simp only [gzp, T.run, Dzq, Option.bind_some, limV]
theorem gzo (a : Int) : (bzp a).o = some (ofV a) := by
  show (pzc a).run NN = _
  simp only [pzc, T.run, gzq, Option.bind_some, limV, ofV]
theorem wsum {a b : Int} (ha : -2147483648 ≤ a ∧ a ≤ 2147483648) (hb : -2147483648 ≤ b ∧ b ≤ 2147483648) : IntKind.i64.wrap (a + b) = a + b := w64 (by omega) (by omega)
theorem wmul {a b : Int} (ha : -2147483648 ≤ a ∧ a ≤ 2147483648) (hb : -2147483648 ≤ b ∧ b ≤ 2147483648) : IntKind.i64.wrap (a * b) = a * b ∧ -4611686018427387904 ≤ a * b ∧ a * b ≤ 4611686018427387904 := by
  have h : -4611686018427387904 ≤ a * b ∧ a * b ≤ 4611686018427387904 := by
    have h1 : (a * b).natAbs ≤ 2147483648 * 2147483648 := by rw [Int.natAbs_mul]; exact Nat.mul_le_mul (by omega) (by omega)
    omega
  exact ⟨w64 (by omega) (by omega), h⟩
theorem nz9 (a b : az0) : (azc a b).o = some (addV a b) := by
  show (nz8 a b).run NN = _
  simp only [nz8, T.run, jzz, gzq, Option.bind_some, dzl, addV]
  cases h : vV a && vV b
  · rfl
  · simp only [Bool.and_eq_true, vV_iff] at h
    rw [wsum ⟨by omega, by omega⟩ ⟨by omega, by omega⟩, wsum ⟨by omega, by omega⟩ ⟨by omega, by omega⟩]; rfl
theorem tzx (a : az0) : (izw a).o = some (negV a) := by
  show (nzd a).run NN = _
  simp only [nzd, T.run, bzo, Option.bind_some, dzl, negV]
  cases h : vV a
  · rfl
  · simp only [vV_iff] at h
    rw [w64 (x := 0 - a.Hi) (by omega) (by omega), w64 (x := 0 - a.Lo) (by omega) (by omega)]
    simp
theorem rzn (a b : az0) : (dzb a b).o = some (lzz a b) := by
  show (lzf a b).run NN = _
  simp only [lzf, T.run, jzz, Option.bind_some, dzl, lzz]
  cases h : vV a && vV b <;> rfl
theorem qzf (a : az0) (h : vV a = true) : (jzw a).o = some (a.Hi - a.Lo) := by
  show (jzx a).run NN = _
  simp only [jzx, T.run, bzo, Option.bind_some, dzl, h]
  simp only [vV_iff] at h
  rw [w64 (by omega) (by omega)]; rfl
theorem Bzr (a : az0) (x : Int) : (tzu a x).o = some (vV a && (decide (a.Lo ≤ x) && decide (x ≤ a.Hi))) := by
  show (nza a x).run NN = _
  simp only [nza, T.run, bzo, Option.bind_some, dzl, mz2]
theorem xz8 {a b : Int} (hb : InR b) : (ozf a b).o = some (limV (a / 65536) (cdiv b 65536)) := by
  show (iz5 a b).run NN = _
  simp only [iz5, T.run, sd16, su16 hb, gzq, Option.bind_some]
theorem Mzp {a b : az0} (ha : vV a = true) (hb : vV b = true) : InR (xzh a b) ∧ InR (xzg a b) ∧ xzh a b ≤ xzg a b := by
  simp only [vV_iff] at ha hb
  obtain ⟨-, p1, p2⟩ := wmul (a := a.Lo) (b := b.Lo) ⟨by omega, by omega⟩ ⟨by omega, by omega⟩
  obtain ⟨-, q1, q2⟩ := wmul (a := a.Lo) (b := b.Hi) ⟨by omega, by omega⟩ ⟨by omega, by omega⟩
  obtain ⟨-, r1, r2⟩ := wmul (a := a.Hi) (b := b.Lo) ⟨by omega, by omega⟩ ⟨by omega, by omega⟩
  obtain ⟨-, s1, s2⟩ := wmul (a := a.Hi) (b := b.Hi) ⟨by omega, by omega⟩ ⟨by omega, by omega⟩
  unfold xzh xzg InR
  generalize a.Lo * b.Lo = p at *
  generalize a.Lo * b.Hi = q at *
  generalize a.Hi * b.Lo = r at *
  generalize a.Hi * b.Hi = s at *
  omega
theorem tzw (a b : az0) : (azf a b).o = some (mulV a b) := by
  show (nzc a b).run NN = _
  simp only [nzc, T.run, jzz, Option.bind_some, mulV]
  cases h : vV a && vV b
  · rfl
  · simp only [Bool.and_eq_true] at h
    have hm := Mzp h.1 h.2
    simp only [vV_iff] at h
    rw [(wmul (a := a.Lo) (b := b.Lo) ⟨by omega, by omega⟩ ⟨by omega, by omega⟩).1, (wmul (a := a.Lo) (b := b.Hi) ⟨by omega, by omega⟩ ⟨by omega, by omega⟩).1,
        (wmul (a := a.Hi) (b := b.Lo) ⟨by omega, by omega⟩ ⟨by omega, by omega⟩).1, (wmul (a := a.Hi) (b := b.Hi) ⟨by omega, by omega⟩ ⟨by omega, by omega⟩).1]
    simp only [Bool.not_true, cond_false]
    refine Eq.trans (ez8 (fun i => match i with
      | 0 => (a.Lo * b.Lo, a.Lo * b.Lo, 0)
      | 1 => (a.Lo * b.Lo, a.Lo * b.Lo, 1)
      | 2 => (min (a.Lo * b.Lo) (a.Lo * b.Hi), max (a.Lo * b.Lo) (a.Lo * b.Hi), 2)
      | 3 => (min (min (a.Lo * b.Lo) (a.Lo * b.Hi)) (a.Hi * b.Lo), max (max (a.Lo * b.Lo) (a.Lo * b.Hi)) (a.Hi * b.Lo), 3)
      | _ => (xzh a b, xzg a b, 4)) (xzh a b, xzg a b) 4 rfl (by decide) ?_ ?_) ?_
    · intro j hj
      match j, hj with
      | 0, _ => simp [azb, IntKind.wrap, IntKind.bits, IntKind.signed]
      | 1, _ => simp [azb, IntKind.wrap, IntKind.bits, IntKind.signed]
      | 2, _ => simp [azb, IntKind.wrap, IntKind.bits, IntKind.signed]
      | 3, _ => simp [azb, IntKind.wrap, IntKind.bits, IntKind.signed, xzh, xzg]
    · rfl
    · rw [xz8 hm.2.1]; rfl
def pd1 (x : Int) : Int := IntKind.i64.wrap (x * 6746518852) / 65536
def pu1 (x : Int) : Int := cdiv (IntKind.i64.wrap (x * 6746518853)) 65536
def pd (x : Int) : Nat → Int
  | 0 => pd1 x
  | k + 1 => IntKind.i64.wrap (pd x k * pd1 x) / 1073741824
def pu (x : Int) : Nat → Int
  | 0 => pu1 x
  | k + 1 => cdiv (IntKind.i64.wrap (pu x k * pu1 x)) 1073741824
theorem qz8 (x : Int) : (jzm x).o = some ((1073741824, pd x 0, pd x 1, pd x 2, pd x 3, pd x 4, pd x 5, pd x 6, pd x 7, pd x 8, pd x 9), (1073741824, pu x 0, pu x 1, pu x 2, pu x 3, pu x 4, pu x 5, pu x 6, pu x 7, pu x 8, pu x 9)) := by
  show (jzn x).run NN = _
  simp only [jzn, T.run, sd16, su16 (InR.wr _), sd30, su30 (InR.wr _), Option.bind_some, pd, pu, pd1, pu1]
theorem Mzy {x : Int} (h0 : 0 ≤ x) (h1 : x ≤ 8192) : 0 ≤ pd1 x ∧ pd1 x ≤ 1073741824 := by
  unfold pd1; rw [w64 (by omega) (by omega)]; omega
theorem Nz3 {x : Int} (h0 : 0 ≤ x) (h1 : x ≤ 8192) : 0 ≤ pu1 x ∧ pu1 x ≤ 1073741824 := by
  unfold pu1 cdiv; rw [w64 (by omega) (by omega)]; omega
theorem Ezh {a b : Int} (ha : 0 ≤ a ∧ a ≤ 1073741824) (hb : 0 ≤ b ∧ b ≤ 1073741824) : 0 ≤ a * b ∧ a * b ≤ 1152921504606846976 := by
  refine ⟨Int.mul_nonneg ha.1 hb.1, ?_⟩
  have := Int.mul_le_mul ha.2 hb.2 hb.1 (by omega : (0 : Int) ≤ 1073741824)
  omega
theorem Ozt {x : Int} (h0 : 0 ≤ x) (h1 : x ≤ 8192) : ∀ k, 0 ≤ pd x k ∧ pd x k ≤ 1073741824
  | 0 => Mzy h0 h1
  | k + 1 => by
    have := Ezh (Ozt h0 h1 k) (Mzy h0 h1)
    simp only [pd]
    generalize pd x k * pd1 x = y at this ⊢
    rw [w64 (by omega) (by omega)]; omega
theorem Ozx {x : Int} (h0 : 0 ≤ x) (h1 : x ≤ 8192) : ∀ k, 0 ≤ pu x k ∧ pu x k ≤ 1073741824
  | 0 => Nz3 h0 h1
  | k + 1 => by
    have := Ezh (Ozx h0 h1 k) (Nz3 h0 h1)
    simp only [pu]
    generalize pu x k * pu1 x = y at this ⊢
    rw [w64 (by omega) (by omega)]; unfold cdiv; omega
theorem cz7 {n d : Int} (h0 : 0 ≤ n) (h1 : n ≤ 1073741824) (h2 : 0 < d) (h3 : d ≤ 1073741824) : (bzv n d).o = some (cdiv n d) := by
  show (lz0 n d).run NN = _
  simp only [lz0, T.run]
  rw [azb (by omega), w64 (x := n + d) (by omega) (by omega), w64 (x := n + d - 1) (by omega) (by omega), fza (by omega)]
  have h4 := zzu (a := n + d - 1) h2
  have h5 := Fzd (a := n + d - 1) h2
  have h6 := (xzz (a := n + d - 1) h2).1 (by omega)
  rw [w64 (by omega) (by omega)]
  congr 1; symm
  rw [rz5 h2]; omega
def alt (l : List Int) : Nat → Int × Int
  | 0 => (0, 1)
  | k + 1 => (IntKind.i64.wrap ((alt l k).1 + IntKind.i64.wrap ((alt l k).2 * l.getD k default)), IntKind.i64.wrap (0 - (alt l k).2))
theorem fzy (l : List Int) (h : l.length < 4294967296) : (bzk l).o = some (alt l l.length).1 := by
  show (fzx l).run NN = _
  simp only [fzx, T.run]
  refine Eq.trans (ez8 (fun i => ((alt l i).1, (alt l i).2, (i : Int))) (alt l l.length).1 l.length rfl h ?_ ?_) rfl
  · intro j hj
    rw [az7 (by simpa using hj), azb ⟨by simp, by simpa using hj⟩]
    simp only [alt, w64n (show j < 9223372036854775807 by omega), Int.toNat_natCast]
  · rw [az5 (by simp)]
theorem alt4 {a b c d : Int} (ha : 0 ≤ a ∧ a ≤ 1073741824) (hb : 0 ≤ b ∧ b ≤ 1073741824) (hc : 0 ≤ c ∧ c ≤ 1073741824) (hd : 0 ≤ d ∧ d ≤ 1073741824) : (bzk [a, b, c, d]).o = some (a - b + c - d) := by
  rw [fzy _ (by simp)]
  simp [alt, wr]; omega
theorem alt5 {a b c d e : Int} (ha : 0 ≤ a ∧ a ≤ 1073741824) (hb : 0 ≤ b ∧ b ≤ 1073741824) (hc : 0 ≤ c ∧ c ≤ 1073741824) (hd : 0 ≤ d ∧ d ≤ 1073741824) (he : 0 ≤ e ∧ e ≤ 1073741824) : (bzk [a, b, c, d, e]).o = some (a - b + c - d + e) := by
  rw [fzy _ (by simp)]
  simp [alt, wr]; omega
theorem alt6 {a b c d e f : Int} (ha : 0 ≤ a ∧ a ≤ 1073741824) (hb : 0 ≤ b ∧ b ≤ 1073741824) (hc : 0 ≤ c ∧ c ≤ 1073741824) (hd : 0 ≤ d ∧ d ≤ 1073741824) (he : 0 ≤ e ∧ e ≤ 1073741824) (hf : 0 ≤ f ∧ f ≤ 1073741824) : (bzk [a, b, c, d, e, f]).o = some (a - b + c - d + e - f) := by
  rw [fzy _ (by simp)]
  simp [alt, wr]; omega
def encV (lo hi : Int) : az0 := ⟨max 0 (lo / 16384), min 65536 (cdiv hi 16384)⟩
theorem oz6 {a b : Int} (hb : InR b) : (hzt a b).o = some (encV a b) := by
  show (hzu a b).run NN = _
  simp only [hzu, T.run, sd14, su14 hb, Option.bind_some, encV]
def sLo (x : Int) : Int := pd x 0 - cdiv (pu x 2) 6 + pd x 4 / 120 - cdiv (pu x 6) 5040
def sHi (x : Int) : Int := pu x 0 - pd x 2 / 6 + cdiv (pu x 4) 120 - pd x 6 / 5040 + cdiv (pu x 8) 362880
def cLo (x : Int) : Int := 1073741824 - cdiv (pu x 1) 2 + pd x 3 / 24 - cdiv (pu x 5) 720 + pd x 7 / 40320 - cdiv (pu x 9) 3628800
def cHi (x : Int) : Int := 1073741824 - pd x 1 / 2 + cdiv (pu x 3) 24 - pd x 5 / 720 + cdiv (pu x 7) 40320
theorem q_bd {a b : Int} (ha : 0 ≤ a ∧ a ≤ 1073741824) (hb : 0 < b) : 0 ≤ a / b ∧ a / b ≤ 1073741824 := by
  have := (xzz (a := a) hb).1 ha.1; omega
theorem c_bd {a b : Int} (ha : 0 ≤ a ∧ a ≤ 1073741824) (hb : 0 < b) : 0 ≤ cdiv a b ∧ cdiv a b ≤ 1073741824 := by
  have h := rz4 (a := a) hb
  by_cases h0 : a = 0
  · have := h.2 (by omega); omega
  · have := h.1 (by omega); omega
theorem wq {a b : Int} (ha : 0 ≤ a ∧ a ≤ 1073741824) (hb : 0 < b) : IntKind.i64.wrap (a.tdiv b) = a / b := by
  rw [fza ha.1]; have := q_bd ha hb; exact w64 (by omega) (by omega)
section
variable {x : Int} (h0 : 0 ≤ x) (h1 : x ≤ 8192)
include h0 h1
theorem Fz2 : (xzw x).o = some (encV (sLo x) (sHi x)) := by
  have P := Ozt h0 h1
  have U := Ozx h0 h1
  show (rz1 x).run NN = _
  simp only [rz1, T.run, T.ix, qz8, Option.bind_some, cz7 (U 2).1 (U 2).2 (show (0 : Int) < 6 by decide) (by decide), cz7 (U 6).1 (U 6).2 (show (0 : Int) < 5040 by decide) (by decide),
    cz7 (U 4).1 (U 4).2 (show (0 : Int) < 120 by decide) (by decide), cz7 (U 8).1 (U 8).2 (show (0 : Int) < 362880 by decide) (by decide), wq (P 4) (show (0 : Int) < 120 by decide), wq (P 2) (show (0 : Int) < 6 by decide), wq (P 6) (show (0 : Int) < 5040 by decide),
    alt4 (P 0) (c_bd (U 2) (show (0 : Int) < 6 by decide)) (q_bd (P 4) (show (0 : Int) < 120 by decide)) (c_bd (U 6) (show (0 : Int) < 5040 by decide)),
    alt5 (U 0) (q_bd (P 2) (show (0 : Int) < 6 by decide)) (c_bd (U 4) (show (0 : Int) < 120 by decide)) (q_bd (P 6) (show (0 : Int) < 5040 by decide)) (c_bd (U 8) (show (0 : Int) < 362880 by decide))]
  have a0 := U 0; have a1 := q_bd (P 2) (show (0 : Int) < 6 by decide); have a2 := c_bd (U 4) (show (0 : Int) < 120 by decide); have a3 := q_bd (P 6) (show (0 : Int) < 5040 by decide); have a4 := c_bd (U 8) (show (0 : Int) < 362880 by decide)
  rw [oz6 ⟨by omega, by omega⟩]; rfl
theorem Bzi : (tzo x).o = some (encV (cLo x) (cHi x)) := by
  have P := Ozt h0 h1
  have U := Ozx h0 h1
  have one : (0 : Int) ≤ 1073741824 ∧ (1073741824 : Int) ≤ 1073741824 := by decide
  show (mzt x).run NN = _
  simp only [mzt, T.run, T.ix, qz8, Option.bind_some, cz7 (U 1).1 (U 1).2 (show (0 : Int) < 2 by decide) (by decide), cz7 (U 5).1 (U 5).2 (show (0 : Int) < 720 by decide) (by decide), cz7 (U 9).1 (U 9).2 (show (0 : Int) < 3628800 by decide) (by decide),
    cz7 (U 3).1 (U 3).2 (show (0 : Int) < 24 by decide) (by decide), cz7 (U 7).1 (U 7).2 (show (0 : Int) < 40320 by decide) (by decide), wq (P 3) (show (0 : Int) < 24 by decide), wq (P 7) (show (0 : Int) < 40320 by decide), wq (P 1) (show (0 : Int) < 2 by decide), wq (P 5) (show (0 : Int) < 720 by decide),
    alt6 one (c_bd (U 1) (show (0 : Int) < 2 by decide)) (q_bd (P 3) (show (0 : Int) < 24 by decide)) (c_bd (U 5) (show (0 : Int) < 720 by decide)) (q_bd (P 7) (show (0 : Int) < 40320 by decide)) (c_bd (U 9) (show (0 : Int) < 3628800 by decide)),
    alt5 one (q_bd (P 1) (show (0 : Int) < 2 by decide)) (c_bd (U 3) (show (0 : Int) < 24 by decide)) (q_bd (P 5) (show (0 : Int) < 720 by decide)) (c_bd (U 7) (show (0 : Int) < 40320 by decide))]
  have a1 := q_bd (P 1) (show (0 : Int) < 2 by decide); have a2 := c_bd (U 3) (show (0 : Int) < 24 by decide); have a3 := q_bd (P 5) (show (0 : Int) < 720 by decide); have a4 := c_bd (U 7) (show (0 : Int) < 40320 by decide)
  rw [oz6 ⟨by omega, by omega⟩]; rfl
end
def qV (r : Int) : az0 := if r ≤ 8192 then encV (sLo r) (sHi r) else encV (cLo (16384 - r)) (cHi (16384 - r))
theorem vzb {r : Int} (h0 : 0 ≤ r) (h1 : r ≤ 16384) : (gzd r).o = some (qV r) := by
  show (ozv r).run NN = _
  simp only [ozv, T.run, qV]
  by_cases h : r ≤ 8192
  · rw [az7 h, if_pos h, Fz2 h0 h]; rfl
  · rw [az5 h, if_neg h, w64 (by omega) (by omega), Bzi (by omega) (by omega)]; rfl
theorem Nzw (a : Int) : (((BitVec.ofInt 64 a &&& BitVec.ofInt 64 65535).toNat : Nat) : Int) = a % 65536 := by
  have h1 : (BitVec.ofInt 64 65535).toNat = 2 ^ 16 - 1 := by decide
  rw [BitVec.toNat_and, h1, Nat.and_two_pow_sub_one_eq_mod, BitVec.toNat_ofInt]
  omega
theorem lz2 (a : Int) : (gzf a).o = some (a % 65536) := by
  show (lz1 a).run NN = _
  simp only [lz1, T.run]
  rw [Nzw, w64 (by omega) (by omega)]
def sinV (a : Int) : az0 :=
  if a % 65536 / 16384 = 0 then qV (a % 65536 % 16384) else if a % 65536 / 16384 = 1 then qV (16384 - a % 65536 % 16384) else
  if a % 65536 / 16384 = 2 then negV (qV (a % 65536 % 16384)) else negV (qV (16384 - a % 65536 % 16384))
theorem zzg (a : Int) : (ozu a).o = some (sinV a) := by
  show (uzh a).run NN = _
  simp only [uzh, T.run, lz2, Option.bind_some, sinV]
  rw [fza (by omega), Kz4 (by omega), w64 (x := a % 65536 / 16384) (by omega) (by omega), w64 (x := 16384 - a % 65536 % 16384) (by omega) (by omega), vzb (by omega) (by omega), vzb (by omega) (by omega)]
  simp only [Option.bind_some, tzx]
  by_cases h0 : a % 65536 / 16384 = 0
  · rw [kze h0, if_pos h0]
  · rw [gzg h0, if_neg h0]
    by_cases h1 : a % 65536 / 16384 = 1
    · rw [kze h1, if_pos h1]
    · rw [gzg h1, if_neg h1]
      by_cases h2 : a % 65536 / 16384 = 2
      · rw [kze h2, if_pos h2]
      · rw [gzg h2, if_neg h2]
def cosV (a : Int) : az0 := sinV (a % 65536 + 16384)
theorem Hz6 (a : Int) : (uzf a).o = some (cosV a) := by
  show (uzg a).run NN = _
  simp only [uzg, T.run, lz2, Option.bind_some, cosV]
  rw [w64 (by omega) (by omega), zzg]; rfl
def gzb (a : az0) (c : Int) : Bool := decide (a.Lo + (c - a.Lo) % 65536 ≤ a.Hi)
def tzl (b : Bool) (x y : az0) : az0 := if b then lzz x y else x
def nzm (a lo hi : az0) (top bot : Int) : az0 :=
  if vV a then (if a.Hi - a.Lo ≥ 65536 then ⟨-65536, 65536⟩ else tzl (gzb a bot) (tzl (gzb a top) (lzz lo hi) (ofV 65536)) (ofV (-65536))) else iz
section
variable {a : az0} (h : vV a = true) {c : Int} (h0 : 0 ≤ c) (h1 : c ≤ 65536)
include h h0 h1
theorem kzl : (gze a c).o = some (gzb a c) := by
  show (ozw a c).run NN = _
  have hv := h
  simp only [vV_iff] at hv
  simp only [ozw, T.run, lz2, Option.bind_some, Bzr, h, Bool.true_and, gzb]
  rw [w64 (x := c - a.Lo) (by omega) (by omega), w64 (by omega) (by omega), decide_eq_true (p := a.Lo ≤ _) (by omega), Bool.true_and]
end
theorem Fz1 (a : az0) {t b : Int} (ht : 0 ≤ t ∧ t ≤ 65536) (hb : 0 ≤ b ∧ b ≤ 65536) : (xzv a t b).o = some (nzm a (cosV a.Lo) (cosV a.Hi) t b) := by
  show (rz0 a t b).run NN = _
  simp only [rz0, T.run, bzo, Option.bind_some, nzm]
  cases h : vV a
  · rfl
  · simp only [Bool.not_true, cond_false, qzf a h, Option.bind_some, Hz6, rzn, kzl h ht.1 ht.2, kzl h hb.1 hb.2, gzo, if_true]
    by_cases hw : a.Hi - a.Lo ≥ 65536
    · rw [az7 hw, if_pos hw]
    · rw [az5 hw, if_neg hw]
      cases gzb a t <;> cases gzb a b <;> rfl
theorem Bzj (a : az0) {t b : Int} (ht : 0 ≤ t ∧ t ≤ 65536) (hb : 0 ≤ b ∧ b ≤ 65536) : (tzp a t b).o = some (nzm a (sinV a.Lo) (sinV a.Hi) t b) := by
  show (mzu a t b).run NN = _
  simp only [mzu, T.run, bzo, Option.bind_some, nzm]
  cases h : vV a
  · rfl
  · simp only [Bool.not_true, cond_false, qzf a h, Option.bind_some, zzg, rzn, kzl h ht.1 ht.2, kzl h hb.1 hb.2, gzo, if_true]
    by_cases hw : a.Hi - a.Lo ≥ 65536
    · rw [az7 hw, if_pos hw]
    · rw [az5 hw, if_neg hw]
      cases gzb a t <;> cases gzb a b <;> rfl
def sinO (a : az0) : az0 := nzm a (sinV a.Lo) (sinV a.Hi) 16384 49152
def cosO (a : az0) : az0 := nzm a (cosV a.Lo) (cosV a.Hi) 0 32768
theorem zzf (a : az0) : (qzz a).o = some (sinO a) := by
  show (kzz a).run NN = _
  simp only [kzz, T.run, Bzj a (show (0 : Int) ≤ 16384 ∧ (16384 : Int) ≤ 65536 by decide) (show (0 : Int) ≤ 49152 ∧ (49152 : Int) ≤ 65536 by decide), Option.bind_some, sinO]
theorem zze (a : az0) : (qzy a).o = some (cosO a) := by
  show (kzy a).run NN = _
  simp only [kzy, T.run, Fz1 a (show (0 : Int) ≤ 0 ∧ (0 : Int) ≤ 65536 by decide) (show (0 : Int) ≤ 32768 ∧ (32768 : Int) ≤ 65536 by decide), Option.bind_some, cosO]
abbrev IV3 := az0 × az0 × az0
abbrev IM3 := IV3 × IV3 × IV3
def izv : IV3 := (iz, iz, iz)
def wz2 (v : Int × Int × Int) : IV3 := (ofV v.1, ofV v.2.1, ofV v.2.2)
def Lz1 : IM3 := ((ofV 65536, iz, iz), (iz, ofV 65536, iz), (iz, iz, ofV 65536))
def Kz7 (a b : IV3) : IV3 := (addV a.1 b.1, addV a.2.1 b.2.1, addV a.2.2 b.2.2)
def dotV (r v : IV3) : az0 := addV (addV (mulV r.1 v.1) (mulV r.2.1 v.2.1)) (mulV r.2.2 v.2.2)
def Cz7 (m : IM3) (v : IV3) : IV3 := (dotV m.1 v, dotV m.2.1 v, dotV m.2.2 v)
def lim1 (a : az0) : az0 := ⟨max (-65536) (min a.Lo 65536), max (-65536) (min a.Hi 65536)⟩
def rowV (r : IV3) (b : IM3) : IV3 := (lim1 (dotV r (b.1.1, b.2.1.1, b.2.2.1)), lim1 (dotV r (b.1.2.1, b.2.1.2.1, b.2.2.2.1)), lim1 (dotV r (b.1.2.2, b.2.1.2.2, b.2.2.2.2)))
def Lzn (a b : IM3) : IM3 := (rowV a.1 b, rowV a.2.1 b, rowV a.2.2 b)
def Gzx (axis : Int) (a : az0) : IM3 :=
  if vV a then (if axis = 0 then ((ofV 65536, iz, iz), (iz, cosO a, negV (sinO a)), (iz, sinO a, cosO a)) else
    if axis = 1 then ((cosO a, iz, sinO a), (iz, ofV 65536, iz), (negV (sinO a), iz, cosO a)) else
    if axis = 2 then ((cosO a, negV (sinO a), iz), (sinO a, cosO a, iz), (iz, iz, ofV 65536)) else (izv, izv, izv)) else (izv, izv, izv)
def Czr (v : IV3) : azx := ⟨Lz1, v⟩
def Gzh : azx := ⟨Lz1, izv⟩
def Kzd (a b : azx) : azx := ⟨Lzn a.R b.R, Kz7 a.T (Cz7 a.R b.T)⟩
def Kzm (p : azx) (v : IV3) : IV3 := Kz7 p.T (Cz7 p.R v)
def Gzs (k : Int) (a : az0) : IV3 := if k = 4 then (a, iz, iz) else if k = 5 then (iz, a, iz) else (iz, iz, a)
def vzl (j : azk) (a : az0) : azx :=
  Kzd (Czr (wz2 j.Offset)) (if j.Kind = 1 ∨ j.Kind = 2 ∨ j.Kind = 3 then ⟨Gzx (j.Kind - 1) a, izv⟩ else if j.Kind = 4 ∨ j.Kind = 5 ∨ j.Kind = 6 then Czr (Gzs j.Kind a) else Gzh)
theorem Dz2 {a b : Int} (h : a ≤ b) : clV a ≤ clV b := by unfold clV; omega
theorem Jz4 (a : Int) : -2147483648 ≤ clV a ∧ clV a ≤ 2147483648 := by unfold clV; omega
theorem Mzi {a b : Int} (h : a ≤ b) : vV (limV a b) = true := by
  rw [vV_iff]; exact ⟨(Jz4 a).1, Dz2 h, (Jz4 b).2⟩
theorem vzz (a : Int) : vV (ofV a) = true := by rw [vV_iff]; exact ⟨(Jz4 a).1, Int.le_refl _, (Jz4 a).2⟩
theorem iz_v : vV iz = true := rfl
theorem of0 : ofV 0 = iz := rfl
theorem pz9 {a b c : Int} (h : a ≤ b) (hc : 0 < c) : a / c ≤ cdiv b c := by
  have h1 := zzu (a := a) hc
  have h2 := zzu (a := -b) hc
  unfold cdiv
  by_cases e : a / c ≤ -(-b / c)
  · exact e
  · exfalso
    have h3 : c * (-(-b / c)) < c * (a / c) := Int.mul_lt_mul_of_pos_left (by omega) hc
    rw [Int.mul_neg] at h3
    omega
theorem Szm (a b : az0) : vV (mulV a b) = true := by
  unfold mulV
  split
  · rename_i h
    simp only [Bool.and_eq_true] at h
    exact Mzi (pz9 (Mzp h.1 h.2).2.2 (by decide))
  · exact iz_v
theorem Qz7 {x : az0} (h : vV x = true) : addV iz x = x := by
  have hv := h
  rw [vV_iff] at hv
  obtain ⟨lo, hi⟩ := x
  simp only at hv
  have e1 : clV (0 + lo) = lo := by unfold clV; omega
  have e2 : clV (0 + hi) = hi := by unfold clV; omega
  simp only [addV, h, iz_v, Bool.and_self, if_true, limV]
  exact congr (congrArg az0.mk e1) e2
theorem add0 (a b : az0) : addV ⟨0, 0⟩ (mulV a b) = mulV a b := Qz7 (Szm a b)
theorem nzg (v : Int × Int × Int) : (izx v).o = some (wz2 v) := by
  show (nzf v).run NN = _
  simp only [nzf, T.run, T.ix, gzo, Option.bind_some, wz2]
theorem xzf : matrix_Identity_C.o = some Lz1 := by
  show matrix_Identity_T.run NN = _
  simp only [matrix_Identity_T, T.run, T.ix, gzo, Option.bind_some, Lz1, iz]
theorem yz8 (a b : IV3) : (yz7 a b).o = some (Kz7 a b) := by
  show (sz3 a b).run NN = _
  simp only [sz3, T.run, T.ix, nz9, Option.bind_some, Kz7]
theorem uz1 (m : IM3) (v : IV3) : (uz0 m v).o = some (Cz7 m v) := by
  show (nze m v).run NN = _
  simp only [nze, T.run, T.ix, nz9, tzw, Option.bind_some, add0, Cz7, dotV]
theorem yzs (x : Int) : (azl x).o = some (max (-65536) (min x 65536)) := by
  show (kz1 x).run NN = _
  simp only [kz1, T.run, Option.some.injEq]; omega
set_option maxRecDepth 20000 in
theorem yzr (a b : IM3) : (qzi a b).o = some (Lzn a b) := by
  show (kz0 a b).run NN = _
  simp only [kz0, T.run, T.ix, nz9, tzw, yzs, Option.bind_some, add0, Lzn, rowV, dotV, lim1]
theorem Ez8 (k : Int) (a : az0) : (vzu k a).o = some (Gzx k a) := by
  show (pzm k a).run NN = _
  simp only [pzm, T.run, bzo, zze, zzf, tzx, gzo, Option.bind_some, Gzx, of0]
  cases h : vV a
  · rfl
  · simp only [Bool.not_true, cond_false, if_true]
    by_cases h0 : k = 0
    · rw [kze h0, if_pos h0]
    · rw [gzg h0, if_neg h0]
      by_cases h1 : k = 1
      · rw [kze h1, if_pos h1]
      · rw [gzg h1, if_neg h1]
        by_cases h2 : k = 2
        · rw [kze h2, if_pos h2]
        · rw [gzg h2, if_neg h2]; rfl
theorem yzd : pose_still_C.o = some izv := by
  show pose_still_T.run NN = _
  simp only [pose_still_T, T.run, nzg, Option.bind_some, wz2, of0, izv]
theorem jze (v : IV3) : (mzg v).o = some (Czr v) := by
  show (szb v).run NN = _
  simp only [szb, T.run, xzf, Option.bind_some, Czr]
theorem sza : pose_Identity_C.o = some Gzh := by
  show pose_Identity_T.run NN = _
  simp only [pose_Identity_T, T.run, yzd, jze, Option.bind_some, Czr, Gzh]
theorem Izb (k : Int) (a : az0) : (Azs k a).o = some ⟨Gzx k a, izv⟩ := by
  show (uzw k a).run NN = _
  simp only [uzw, T.run, Ez8, yzd, Option.bind_some]
theorem jz0 (a b : azx) : (fzr a b).o = some (Kzd a b) := by
  show (nzo a b).run NN = _
  have h1 : (mzh a).o = (jzf a).run NN := rfl
  simp only [nzo, T.run, h1, jzf, Option.bind_some, yzr]
  refine Eq.trans (congrArg (fun o => Option.bind o _) (show (jz1 _ _ _ _ _ _ _ _ _ _ _ _ _ _ _ _ _ _ _ _ _ _ _ _ _).o = (fzs _ _ _ _ _ _ _ _ _ _ _ _ _ _ _ _ _ _ _ _ _ _ _ _ _).run NN from rfl)) ?_
  simp only [fzs, T.run, uz1, yz8, Option.bind_some]; rfl
theorem Gza (a : azx) (v : IV3) : (yzc a v).o = some (Kzm a v) := by
  show (sz9 a v).run NN = _
  have h1 : (mzh a).o = (jzf a).run NN := rfl
  simp only [sz9, T.run, h1, jzf, Option.bind_some]
  refine Eq.trans (congrArg (fun o => Option.bind o _) (show (jz1 _ _ _ _ _ _ _ _ _ _ _ _ _ _ _ _ _ _ _ _ _ _ _ _ _).o = (fzs _ _ _ _ _ _ _ _ _ _ _ _ _ _ _ _ _ _ _ _ _ _ _ _ _).run NN from rfl)) ?_
  simp only [fzs, T.run, uz1, yz8, Option.bind_some]; rfl
theorem Hz9 (k : Int) (a : az0) : (zzi k a).o = some ⟨Gzx k a, izv⟩ := by
  show (uzj k a).run NN = _
  simp only [uzj, T.run, Izb, Option.bind_some]
theorem Hz8 (k : Int) (a : az0) : (zzh k a).o = some Gzh := by
  show (uzi k a).run NN = _
  simp only [uzi, T.run, sza, Option.bind_some]
theorem Fz5 {k : Int} (a : az0) (h : k = 4 ∨ k = 5 ∨ k = 6) : (xzx (k - 4) a).o = some (Czr (Gzs k a)) := by
  show (rz2 (k - 4) a).run NN = _
  simp only [rz2, T.run, T.ix]
  rcases h with rfl | rfl | rfl
  · simp only [show ((4 - 4 : Int) == 0) = true from rfl, cond_true, aza, jze]; rfl
  · simp only [show ((5 - 4 : Int) == 0) = false from rfl, show ((5 - 4 : Int) == 1) = true from rfl, cond_true, cond_false, aza, jze]; rfl
  · simp only [show ((6 - 4 : Int) == 0) = false from rfl, show ((6 - 4 : Int) == 1) = false from rfl, show ((6 - 4 : Int) == 2) = true from rfl, cond_true, cond_false, aza, jze]; rfl
theorem Mzf (k a b c : Int) {R : Type} : (bif k == a then some (.out (k == a)) else bif k == b then some (.out (k == b)) else some (.out (k == c)) : Option (Step3 Unit Bool R)) = some (.out (decide (k = a ∨ k = b ∨ k = c))) := by
  by_cases h1 : k = a
  · rw [kze h1]; simp [h1]
  · rw [gzg h1]
    by_cases h2 : k = b
    · rw [kze h2]; simp [h2]
    · rw [gzg h2]; simp [h1, h2, Bool.beq_eq_decide_eq]
theorem mo0 (k : Int) : (ez3 k).o = if k = 1 ∨ k = 2 ∨ k = 3 then some (k - 1) else none := by
  show (ez4 k).run NN = _
  simp only [ez4, T.run, Mzf, aza]
  by_cases h : k = 1 ∨ k = 2 ∨ k = 3
  · rw [az7 h, if_pos h, w64 (by omega) (by omega)]
  · rw [az5 h, if_neg h]; cases decide (k = 4 ∨ k = 5 ∨ k = 6) <;> rfl
theorem mo1 (k : Int) (h : ¬ (k = 1 ∨ k = 2 ∨ k = 3)) : (ez5 k).o = if k = 4 ∨ k = 5 ∨ k = 6 then some (k - 4) else none := by
  show (ez6 k).run NN = _
  simp only [ez6, T.run, Mzf, aza]
  rw [az5 h]
  by_cases h : k = 4 ∨ k = 5 ∨ k = 6
  · rw [az7 h, if_pos h, w64 (by omega) (by omega)]
  · rw [az5 h, if_neg h]
theorem mo2 (k : Int) (h : ¬ (k = 1 ∨ k = 2 ∨ k = 3)) (h' : ¬ (k = 4 ∨ k = 5 ∨ k = 6)) : (gz5 k).o = some 0 := by
  show (ez7 k).run NN = _
  simp only [ez7, T.run, Mzf, aza]
  rw [az5 h, az5 h']
theorem vzm (j : azk) (a : az0) : (mz8 j a).o = some (vzl j a) := by
  show (gzr j a).run NN = _
  simp only [gzr, T.run, nzg, jze, Option.bind_some, mo0, vzl]
  by_cases h : j.Kind = 1 ∨ j.Kind = 2 ∨ j.Kind = 3
  · simp only [if_pos h, Option.isSome_some, cond_true, Option.bind_some, Hz9, jz0]
  · simp only [if_neg h, Option.isSome_none, cond_false, mo1 _ h]
    by_cases h' : j.Kind = 4 ∨ j.Kind = 5 ∨ j.Kind = 6
    · simp only [if_pos h', Option.isSome_some, cond_true, Option.bind_some, Fz5 a h', jz0]
    · simp only [if_neg h', Option.isSome_none, cond_false, mo2 _ h h', Option.bind_some, Hz8, jz0]
theorem izl {R : Type} {f : Int → Option (Step3 Int U0 R)} {k : U0 → Option R} (g : Nat → Option R) (n : Nat) (hn : n < 4294967296)
    (hs : ∀ j, j < n → f (j : Int) = match g j with | some r => some (.fin r) | none => some (.next ((j + 1 : Nat) : Int))) (he : f (n : Int) = some (.out .u)) :
    andK (iter f NN 0) k = match scan g n 0 with | some r => some r | none => k .u := jza (fun j => (j : Int)) g .u n rfl hn hs he
theorem wn {n : Nat} (h : n < 4294967296) : IntKind.i64.wrap ((n : Int) + 1) = ((n + 1 : Nat) : Int) := w64n (by omega)
def sw {R : Type} (b : Bool) (r : R) : Option R := bif b then some r else none
theorem ezh {σ τ R : Type} {b : Bool} {r : R} {x : σ} : (bif b then some (.fin r) else some (.next x) : Option (Step3 σ τ R)) = match sw b r with | some r => some (.fin r) | none => some (.next x) := by cases b <;> rfl
def bzs (g : Nat → Bool) (n : Nat) : Bool := decide (∀ i, i < n → g i = false)
theorem dzu {R : Type} {g : Nat → Bool} {n : Nat} {r : R} : scan (fun i => sw (g i) r) n 0 = sw (!bzs g n) r := by
  cases h : scan (fun i => sw (g i) r) n 0 with
  | none =>
    rw [dzm] at h
    have : bzs g n = true := decide_eq_true fun i hi => by
      have := h i (Nat.zero_le _) (by omega)
      unfold sw at this
      cases hg : g i with
      | true => rw [hg] at this; cases this
      | false => rfl
    rw [this]; rfl
  | some x =>
    obtain ⟨j, h1, h2, h3, -⟩ := dzc _ _ h
    have : bzs g n = false := decide_eq_false fun hn => by
      have := hn j (by omega)
      simp only [this, sw, cond_false] at h3; cases h3
    rw [this]
    unfold sw at h3 ⊢
    cases hg : g j with
    | true => rw [hg] at h3; simpa using h3.symm
    | false => rw [hg] at h3; cases h3
theorem noneB_iff {g : Nat → Bool} {n : Nat} : bzs g n = true ↔ ∀ i, i < n → g i = false := by simp [bzs]
theorem Iz5 {g g' : Nat → Bool} {n : Nat} (h : ∀ i, i < n → g i = g' i) : bzs g n = bzs g' n := by
  unfold bzs; congr 1; apply propext; exact ⟨fun a i hi => (h i hi) ▸ a i hi, fun a i hi => (h i hi).symm ▸ a i hi⟩
theorem Pzw (s : ByteArray) (i : Nat) : s.get! i = s.data.getD i 0 := by
  cases s with | mk d => simp only [ByteArray.get!]; rw [getElem!_def, Array.getD_eq_getD_getElem?]; cases d[i]? <;> rfl
def yzm (s : ByteArray) (i : Nat) : Nat := (s.data.getD i 0).toNat
theorem Pzt {s : ByteArray} {i : Nat} (h : yzm s i < 128) : Utf8.decode s i = (yzm s i, 1) := by
  rw [Lib.decode_at, Pzw]; exact if_pos h
theorem Sza {s : ByteArray} {i : Nat} (h : 128 ≤ yzm s i) : 128 ≤ (Utf8.decode s i).1 := by
  rw [Lib.decode_at, Pzw]
  unfold Lib.decodeN
  rw [if_neg (by unfold yzm at h; omega)]
  repeat' split
  all_goals (simp only; omega)
def badN (s : ByteArray) (i : Nat) : Bool := decide (¬ (97 ≤ yzm s i ∧ yzm s i ≤ 122) ∧ (i = 0 ∨ (yzm s i ≠ 95 ∧ ¬ (48 ≤ yzm s i ∧ yzm s i ≤ 57))))
def Iz3 (s : ByteArray) : Bool := !(decide (s.size = 0) || (decide (16 < s.size) || (s == ⟨#[119, 111, 114, 108, 100]⟩))) && bzs (badN s) s.size
theorem Izh (s : ByteArray) : (Azv s).o = some (Iz3 s) := by
  show (vz2 s).run NN = _
  simp only [vz2, T.run, bz0, aza, Iz3, dz9]
  have e1 : decide ((s.size : Int) < 1) = decide (s.size = 0) := by congr 1; apply propext; omega
  have e2 : decide ((s.size : Int) > 16) = decide (16 < s.size) := by congr 1; apply propext; omega
  rw [e1, e2]
  cases h : (decide (s.size = 0) || (decide (16 < s.size) || (s == ⟨#[119, 111, 114, 108, 100]⟩)))
  · simp only [Bool.or_eq_false_iff, decide_eq_false_iff_not] at h
    rw [cond_false]
    refine (izl (fun i => sw (badN s i) false) s.size (by omega) (fun j hj => ?_) ?_).trans ?_
    · rw [az7 (by omega), ← ezh, wn (by omega)]
      simp only [Int.toNat_natCast, azb (show 0 ≤ (j : Int) ∧ (j : Int) < (s.size : Int) by omega), bz0, aza]
      refine congrArg (fun b => bif b then some (Step3.fin false) else some (Step3.next ((j + 1 : Nat) : Int))) ?_
      rw [Bool.eq_iff_iff]
      simp only [dz9, mz2, badN, Bool.and_eq_true, Bool.or_eq_true, Bool.not_eq_true', Bool.and_eq_false_iff, Bool.or_eq_false_iff, decide_eq_true_eq, decide_eq_false_iff_not, beq_iff_eq, bne_iff_ne, ne_eq]
      unfold yzm
      omega
    · rw [az5 (by omega)]
    · rw [dzu]
      cases bzs (badN s) s.size <;> rfl
  · rfl
theorem yzz (a : Int) : (qzu a).o = some (decide (97 ≤ a) && decide (a ≤ 122)) := by
  show (kzd a).run NN = _
  simp only [kzd, T.run, dzl, mz2]
theorem Bzd (a : Int) : (tz4 a).o = some (decide (48 ≤ a) && decide (a ≤ 57)) := by
  show (lzw a).run NN = _
  simp only [lzw, T.run, dzl, mz2]
theorem Gzw (s : ByteArray) : (yzk s).o = some (Iz3 s) := by
  show (tz3 s).run NN = _
  simp only [tz3, T.run, bz0, aza, Iz3, dz9]
  have e1 : ((s.size : Int) == 0) = decide (s.size = 0) := by rw [Bool.eq_iff_iff]; simp
  have e2 : decide ((s.size : Int) > 16) = decide (16 < s.size) := by congr 1; apply propext; omega
  rw [e1, e2]
  cases h : (decide (s.size = 0) || (decide (16 < s.size) || (s == ⟨#[119, 111, 114, 108, 100]⟩)))
  · simp only [Bool.or_eq_false_iff, decide_eq_false_iff_not] at h
    rw [cond_false]
    refine (jza (fun j => j) (fun i => sw (badN s i) false) .u s.size rfl (show s.size < 4294967296 by omega) (fun j hj => ?_) ?_).trans ?_
    · rw [az7 hj]
      simp only [yzz, Bzd, Option.bind_some, bz0, aza]
      have key : (bif !(decide (97 ≤ ((Utf8.decode s j).1 : Int)) && decide (((Utf8.decode s j).1 : Int) ≤ 122)) then bif ((j : Int) == 0) then true else
          bif !(decide (48 ≤ ((Utf8.decode s j).1 : Int)) && decide (((Utf8.decode s j).1 : Int) ≤ 57)) then ((Utf8.decode s j).1 : Int) != 95 else false else false) = badN s j := by
        by_cases hb : yzm s j < 128
        · rw [Pzt hb, Bool.eq_iff_iff]
          simp only [dz9, mz2, badN, Bool.and_eq_true, Bool.or_eq_true, Bool.not_eq_true', Bool.and_eq_false_iff, Bool.or_eq_false_iff, decide_eq_true_eq, decide_eq_false_iff_not, beq_iff_eq, bne_iff_ne, ne_eq]
          omega
        · have := Sza (s := s) (i := j) (by omega)
          rw [Bool.eq_iff_iff]
          simp only [dz9, mz2, badN, Bool.and_eq_true, Bool.or_eq_true, Bool.not_eq_true', Bool.and_eq_false_iff, Bool.or_eq_false_iff, decide_eq_true_eq, decide_eq_false_iff_not, beq_iff_eq, bne_iff_ne, ne_eq]
          omega
      rw [key]
      cases hbad : badN s j
      · have : yzm s j < 128 := by
          simp only [badN, decide_eq_false_iff_not] at hbad
          omega
        rw [Pzt this]; rfl
      · rfl
    · rw [az5 (by omega)]
    · rw [dzu]
      cases bzs (badN s) s.size <;> rfl
  · rfl
def vzj (l : List azk) (nm : ByteArray) (i : Nat) : Bool := (l.getD i default).Name == nm
theorem Gzi (r : azj) (nm : ByteArray) (h : r.Joints.length < 4294967296) : (yzh r nm).o = some (match scan (fun i => sw (vzj r.Joints nm i) (i : Int)) r.Joints.length 0 with | some x => x | none => -1) := by
  show (szn r nm).run NN = _
  simp only [szn, T.run]
  refine (izl (fun i => sw (vzj r.Joints nm i) (i : Int)) r.Joints.length h (fun j hj => ?_) ?_).trans ?_
  · rw [az7 (by omega), azb (by omega), wn (by omega), Int.toNat_natCast, ← ezh]; rfl
  · rw [az5 (by omega)]
  · cases scan (fun i => sw (vzj r.Joints nm i) (i : Int)) r.Joints.length 0 <;> rfl
theorem Qza (b : ByteArray) : (b == b) = true := by
  obtain ⟨d⟩ := b
  show (d == d) = true
  exact beq_self_eq_true d
theorem Qzl {l : List azk} {i : Nat} (hi : i < l.length) : ((match scan (fun k => sw (vzj l (l.getD i default).Name k) (k : Int)) l.length 0 with | some x => x | none => -1) != (i : Int)) = !bzs (vzj l (l.getD i default).Name) i := by
  have hself : vzj l (l.getD i default).Name i = true := Qza _
  cases h : scan (fun k => sw (vzj l (l.getD i default).Name k) (k : Int)) l.length 0 with
  | none =>
    rw [dzm] at h
    have := h i (Nat.zero_le _) (by omega)
    simp only [hself, sw, cond_true] at this; cases this
  | some x =>
    obtain ⟨j, h1, h2, h3, h4⟩ := dzc _ _ h
    have hj : vzj l (l.getD i default).Name j = true ∧ x = (j : Int) := by
      cases hb : vzj l (l.getD i default).Name j with
      | false => simp only [hb, sw, cond_false] at h3; cases h3
      | true => simp only [hb, sw, cond_true, Option.some.injEq] at h3; exact ⟨rfl, h3.symm⟩
    have hji : j ≤ i := by
      by_cases e : j ≤ i
      · exact e
      · have := h4 i (Nat.zero_le _) (by omega)
        simp only [hself, sw, cond_true] at this; cases this
    simp only [hj.2]
    rw [Bool.eq_iff_iff]
    rw [bne_iff_ne, Bool.not_eq_true', ← Bool.not_eq_true]
    constructor
    · intro hne hall
      have := noneB_iff.1 hall j (by omega)
      rw [hj.1] at this; cases this
    · intro hn e
      apply hn
      rw [noneB_iff]
      intro k hk
      have := h4 k (Nat.zero_le _) (by omega)
      cases hb : vzj l (l.getD i default).Name k with
      | false => rfl
      | true => simp only [hb, sw, cond_true] at this; cases this
def kz2 (v : Int × Int × Int) (m : Int) : Bool := decide (-m ≤ v.1) && (decide (v.1 ≤ m) && (decide (-m ≤ v.2.1) && (decide (v.2.1 ≤ m) && (decide (-m ≤ v.2.2) && decide (v.2.2 ≤ m)))))
theorem nearV_iff {v : Int × Int × Int} {m : Int} : kz2 v m = true ↔ (-m ≤ v.1 ∧ v.1 ≤ m) ∧ (-m ≤ v.2.1 ∧ v.2.1 ≤ m) ∧ (-m ≤ v.2.2 ∧ v.2.2 ≤ m) := by
  simp only [kz2, Bool.and_eq_true, decide_eq_true_eq, and_assoc]
theorem Azw (v : Int × Int × Int) {m : Int} (h0 : 0 ≤ m) (h1 : m ≤ 9223372036854775807) : (vz3 v m).o = some (kz2 v m) := by
  show (vz4 v m).run NN = _
  simp only [vz4, T.run, T.ix, bz0, aza]
  simp only [dzl]
  rw [w64 (x := 0 - m) (by omega) (by omega)]
  congr 1
  rw [Bool.eq_iff_iff, nearV_iff]
  simp only [dz9]
  cases h1 : decide (v.1 < 0 - m) || decide (v.1 > m) <;> cases h2 : decide (v.2.1 < 0 - m) || decide (v.2.1 > m) <;> cases h3 : decide (v.2.2 < 0 - m) || decide (v.2.2 > m) <;>
    simp only [Bool.or_eq_true, Bool.or_eq_false_iff, decide_eq_true_eq, decide_eq_false_iff_not] at h1 h2 h3 <;> simp only [cond_true, cond_false, true_iff, false_iff, reduceCtorEq] <;> omega
def bey (x : Int) : Bool := decide (x < -4194304) || decide (x > 4194304)
theorem uzb (v : Int × Int × Int) : (nzw v).o = some (!kz2 v 4194304) := by
  show (nzx v).run NN = _
  simp only [nzx, T.run, bz0, aza, dz9]
  refine (izl (fun i => sw (bey (([v.1, v.2.1, v.2.2] : List Int).getD i 0)) true) 3 (by decide) (fun j hj => ?_) ?_).trans ?_
  · rw [az7 (by omega), azb (by omega), wn (by omega), Int.toNat_natCast, ← ezh]; rfl
  · rw [az5 (by omega)]
  · rw [dzu]
    have : bzs (fun i => bey (([v.1, v.2.1, v.2.2] : List Int).getD i 0)) 3 = kz2 v 4194304 := by
      rw [Bool.eq_iff_iff, noneB_iff, nearV_iff]
      constructor
      · intro h
        have a := h 0 (by decide); have b := h 1 (by decide); have c := h 2 (by decide)
        simp only [bey, List.getD_cons_zero, List.getD_cons_succ, Bool.or_eq_false_iff, decide_eq_false_iff_not] at a b c
        omega
      · intro h i hi
        match i, hi with
        | 0, _ => simp only [bey, List.getD_cons_zero, Bool.or_eq_false_iff, decide_eq_false_iff_not]; omega
        | 1, _ => simp only [bey, List.getD_cons_zero, List.getD_cons_succ, Bool.or_eq_false_iff, decide_eq_false_iff_not]; omega
        | 2, _ => simp only [bey, List.getD_cons_zero, List.getD_cons_succ, Bool.or_eq_false_iff, decide_eq_false_iff_not]; omega
    rw [this]; cases kz2 v 4194304 <;> rfl
def jzg (k : Int) : Int := if k = 0 then 0 else if k = 1 ∨ k = 2 ∨ k = 3 then 524288 else 4194304
theorem Ezm {k : Int} (h0 : 0 ≤ k) (h1 : k ≤ 6) : (wz8 k).o = some (jzg k) := by
  show (pzy k).run NN = _
  simp only [pzy, T.run, Mzf, aza, jzg]
  by_cases h : k = 1 ∨ k = 2 ∨ k = 3
  · rw [az7 h, if_neg (by omega), if_pos h]
  · rw [az5 h]
    by_cases h' : k = 4 ∨ k = 5 ∨ k = 6
    · rw [az7 h', if_neg (by omega), if_neg h]
    · rw [az5 h', if_pos (by omega)]
theorem Gzg (k : Int) : (yzg k).o = some (jzg k) := by
  show (szh k).run NN = _
  simp only [szh, T.run, Mzf, aza, jzg]
  by_cases h0 : k = 0
  · rw [kze h0, if_pos h0]
  · rw [gzg h0, if_neg h0]
    by_cases h : k = 1 ∨ k = 2 ∨ k = 3
    · rw [az7 h, if_pos h]
    · rw [az5 h, if_neg h]
def betV (x a b : Int) : Bool := decide (a ≤ x) && decide (x ≤ b)
theorem wz7 (x m : Int) : (fz8 x m).o = some (betV x 1 m) := by
  show (pzx x m).run NN = _
  simp only [pzx, T.run, dzl, mz2, betV]
theorem uz8 (x a b : Int) : (ezl x a b).o = some (betV x a b) := by
  show (nzu x a b).run NN = _
  simp only [nzu, T.run, dzl, mz2, betV]
def Oz1 (j : azk) : Bool := betV j.Weight 1 1024 && (betV j.Speed 1 1048576 && (betV j.Accel 1 1048576 && betV j.Torque 1 1099511627776))
def rzr (l : List azk) (i : Nat) : Int :=
  let j := l.getD i default
  if !Iz3 j.Name || !bzs (vzj l j.Name) i then 802 else if decide (j.Kind < 0) || decide (j.Kind > 6) then 803 else if decide (j.Parent < -1) || decide (j.Parent ≥ (i : Int)) then 804 else if !kz2 j.Offset 4194304 then 805 else
  if decide (j.Lo > j.Hi) || (decide (j.Lo < -jzg j.Kind) || decide (j.Hi > jzg j.Kind)) then 806 else if !Oz1 j then 807 else 0
theorem Sz7 : ∀ a b c d : Bool, (bif !a || (!b || (!c || !d)) then some (807 : Int) else some 0) = some (if (!(a && (b && (c && d)))) = true then 807 else 0) := by decide
theorem Ezi (k : Int) : 0 ≤ jzg k ∧ jzg k ≤ 4194304 := by unfold jzg; split <;> (try split) <;> omega
theorem Gz3 (k : Int) : IntKind.i64.wrap (0 - jzg k) = -jzg k := by
  have := Ezi k; rw [w64 (by omega) (by omega)]; omega
theorem wz6 (r : azj) {i : Nat} (hi : i < r.Joints.length) (h : r.Joints.length < 4294967296) : (mzj r (i : Int)).o = some (rzr r.Joints i) := by
  show (hze r (i : Int)).run NN = _
  simp only [hze, T.run]
  rw [azb (by omega), Int.toNat_natCast]
  simp only [Gzw, Gzi r _ h, uzb, wz7, Option.bind_some, bz0, aza, rzr]
  rw [Qzl hi]
  generalize r.Joints.getD i default = j
  cases h1 : Iz3 j.Name
  · rfl
  · cases h2 : bzs (vzj r.Joints j.Name) i
    · rfl
    · simp only [Bool.not_true, cond_false, Bool.or_self, if_neg Bool.false_ne_true]
      by_cases h3 : j.Kind < 0
      · rw [decide_eq_true h3]; rfl
      · by_cases h4 : j.Kind > 6
        · rw [decide_eq_true h4, decide_eq_false h3]; rfl
        · simp only [decide_eq_false h3, decide_eq_false h4, cond_false, Bool.or_self, if_neg Bool.false_ne_true, Ezm (show 0 ≤ j.Kind by omega) (by omega), Option.bind_some, Gz3, bz0, aza, dz9]
          cases decide (j.Parent < -1) || decide (j.Parent ≥ (i : Int))
          · cases kz2 j.Offset 4194304
            · rfl
            · simp only [Bool.not_true, cond_false, if_neg Bool.false_ne_true]
              cases decide (j.Lo > j.Hi) || (decide (j.Lo < -jzg j.Kind) || decide (j.Hi > jzg j.Kind))
              · simp only [cond_false, if_neg Bool.false_ne_true, Oz1]
                exact Sz7 _ _ _ _
              · rfl
          · rfl
theorem xzn (l : List azk) {i : Nat} (hi : i < l.length) (h : l.length < 4294967296) : (ozk l (i : Int)).o = some (rzr l i) := by
  show (izg l (i : Int)).run NN = _
  simp only [izg, T.run]
  rw [azb (by omega), Int.toNat_natCast]
  simp only [Izh, Option.bind_some, rzr]
  cases h1 : Iz3 (l.getD i default).Name
  · rfl
  · simp only [Bool.not_true, cond_false, Bool.false_or]
    refine (izl (fun k => sw (vzj l (l.getD i default).Name k) 802) i (by omega) (fun j hj => ?_) ?_).trans ?_
    · rw [az7 (by omega), azb (by omega), wn (by omega), Int.toNat_natCast, ← ezh]; rfl
    · rw [az5 (by omega)]
    · rw [dzu]
      generalize l.getD i default = j
      cases h2 : bzs (vzj l j.Name) i
      · rfl
      · simp only [Bool.not_true, sw, cond_false, if_neg Bool.false_ne_true, Azw _ (show (0 : Int) ≤ 4194304 by decide) (by decide), Gzg, uz8, Option.bind_some, Gz3, bz0, aza, dz9]
        cases decide (j.Kind < 0) || decide (j.Kind > 6)
        · cases decide (j.Parent < -1) || decide (j.Parent ≥ (i : Int))
          · cases kz2 j.Offset 4194304
            · rfl
            · simp only [Bool.not_true, cond_false, if_neg Bool.false_ne_true]
              cases decide (j.Lo > j.Hi) || (decide (j.Lo < -jzg j.Kind) || decide (j.Hi > jzg j.Kind))
              · simp only [cond_false, if_neg Bool.false_ne_true, Oz1]
                exact Sz7 _ _ _ _
              · rfl
          · rfl
        · rfl
def tab {α : Type} (f : Nat → α) (n : Nat) : List α := (List.range n).map f
theorem wzr {α : Type} (f : Nat → α) (n : Nat) : tab f (n + 1) = tab f n ++ [f n] := by simp [tab, List.range_succ]
theorem czs {α : Type} (f : Nat → α) (n : Nat) : (tab f n).length = n := by simp [tab]
theorem fzl {α : Type} {f : Nat → α} {n i : Nat} {d : α} (h : i < n) : (tab f n).getD i d = f i := by simp [tab, List.getD_eq_getElem?_getD, h]
theorem Gzt {α : Type} {f g : Nat → α} {n : Nat} (h : ∀ i, i < n → f i = g i) : tab f n = tab g n := by
  unfold tab; apply List.map_congr_left; intro a ha; exact h a (List.mem_range.1 ha)
def half {α : Type} (f : Nat → α) (z : α) (n j : Nat) : List α := tab f j ++ List.replicate (n - j) z
theorem mz6 {α : Type} {f : Nat → α} {z : α} {n j : Nat} (h : j ≤ n) : (half f z n j).length = n := by simp [half, czs]; omega
theorem izu {α : Type} {f : Nat → α} {z : α} {n j : Nat} (h : j < n) : (half f z n j).set j (f j) = half f z n (j + 1) := by
  unfold half
  rw [List.set_append_right _ _ (by rw [czs]; omega), czs, Nat.sub_self]
  obtain ⟨m, hm⟩ : ∃ m, n - j = m + 1 := ⟨n - j - 1, by omega⟩
  rw [hm, List.replicate_succ, List.set_cons_zero, wzr, show n - (j + 1) = m by omega]; simp
theorem lze {α : Type} (f : Nat → α) (z : α) (n : Nat) : half f z n 0 = List.replicate n z := by simp [half, tab]
theorem pzb {α : Type} (f : Nat → α) (z : α) (n : Nat) : half f z n n = tab f n := by simp [half]
def Kzl (n : Nat) (m : bzc) : Bool := (decide (0 ≤ m.Link) && decide (m.Link < (n : Int))) && (betV m.Mass 1 65536 && kz2 m.Point 4194304)
theorem xzo (r : azj) (m : bzc) : (ozl r m).o = some (Kzl r.Joints.length m) := by
  show (izk r m).run NN = _
  simp only [izk, T.run, wz7, uzb, Option.bind_some, Kzl]
  cases decide (0 ≤ m.Link) <;> cases decide (m.Link < (r.Joints.length : Int)) <;> cases betV m.Mass 1 65536 <;> cases kz2 m.Point 4194304 <;> rfl
def badM (n : Nat) (l : List bzc) (i : Nat) : Bool := !Kzl n (l.getD i default)
theorem Rz0 (l : List bzc) (js : List azk) (ms : List bzc) (h : l.length < 4294967296) : (dz6 l js ms).o = some (match scan (fun i => sw (badM js.length l i) (i : Int)) l.length 0 with | some x => x | none => -1, js, ms) := by
  show (bzy l js ms).run NN = _
  simp only [bzy, T.run]
  have e1 : ∀ m, (szm m js ms).o = some (!Kzl js.length m, js, ms) := fun m => by
    show (lzr m js ms).run NN = _
    simp only [lzr, T.run, xzo, Option.bind_some]
  refine (jza (fun j => (js, ms, (j : Int))) (fun i => sw (badM js.length l i) ((i : Int), js, ms)) (js, ms) l.length rfl h (fun j hj => ?_) ?_).trans ?_
  · rw [az7 (by simpa using hj), azb ⟨by simp, by simpa using hj⟩]
    simp only [e1, Option.bind_some, Int.toNat_natCast]
    rw [wn (by omega)]; unfold badM; cases Kzl js.length (l.getD j default) <;> rfl
  · rw [az5 (by simp)]
  · have : ∀ n i, scan (fun i => sw (badM js.length l i) ((i : Int), js, ms)) n i = (scan (fun i => sw (badM js.length l i) (i : Int)) n i).map fun x => (x, js, ms) := by
      intro n
      induction n with
      | zero => intro i; rfl
      | succ n ih =>
        intro i; simp only [scan]
        cases badM js.length l i with
        | true => rfl
        | false => exact ih (i + 1)
    rw [this]
    cases scan (fun i => sw (badM js.length l i) (i : Int)) l.length 0 <;> rfl
theorem Izs {g : Nat → Bool} {n : Nat} : decide ((match scan (fun i => sw (g i) (i : Int)) n 0 with | some x => x | none => -1) ≥ 0) = !bzs g n := by
  cases h : scan (fun i => sw (g i) (i : Int)) n 0 with
  | none =>
    rw [dzm] at h
    have : bzs g n = true := noneB_iff.2 fun i hi => by
      have := h i (Nat.zero_le _) (by omega)
      cases hg : g i with
      | true => rw [hg] at this; cases this
      | false => rfl
    rw [this]; rfl
  | some x =>
    obtain ⟨j, h1, h2, h3, -⟩ := dzc _ _ h
    cases hg : g j with
    | false => rw [hg] at h3; cases h3
    | true =>
      rw [hg] at h3; simp only [sw, cond_true, Option.some.injEq] at h3
      have : bzs g n = false := by
        cases hn : bzs g n with
        | false => rfl
        | true => have := noneB_iff.1 hn j (by omega); rw [hg] at this; cases this
      rw [this, ← h3]; simp
theorem Qzd (l : List bzc) (js : List azk) (ms : List bzc) (h : l.length < 4294967296) : (czq l js ms).o = some (!bzs (badM js.length l) l.length, js, ms) := by
  show (bzn l js ms).run NN = _
  simp only [bzn, T.run, Rz0 l js ms h, Option.bind_some]
  rw [Izs]
def errJ (l : List azk) (i : Nat) : Option Int := sw (rzr l i != 0) (rzr l i)
def fzb (r : azj) : Int :=
  if r.Joints.length = 0 ∨ 10 < r.Joints.length then 801 else match scan (errJ r.Joints) r.Joints.length 0 with
    | some e => e
    | none => if 32 < r.Masses.length ∨ bzs (badM r.Joints.length r.Masses) r.Masses.length = false then 808 else 0
theorem pzw (r : azj) : (kzs r).o = some (fzb r) := by
  show (pzv r).run NN = _
  simp only [pzv, T.run, bz0, aza, fzb]
  by_cases h : r.Joints.length = 0 ∨ 10 < r.Joints.length
  · rw [if_pos h]
    rcases h with h | h
    · rw [kze (by omega)]; rfl
    · rw [gzg (by omega), az7 (by omega)]
  · rw [if_neg h, gzg (by omega), az5 (by omega)]
    refine (izl (errJ r.Joints) r.Joints.length (by omega) (fun j hj => ?_) ?_).trans ?_
    · rw [az7 (by omega)]
      simp only [wz6 ⟨r.Joints, r.Masses⟩ hj (show r.Joints.length < 4294967296 by omega), Option.bind_some]
      rw [wn (by omega), ezh]; rfl
    · rw [az5 (by omega)]
    · cases scan (errJ r.Joints) r.Joints.length 0 with
      | some e => rfl
      | none =>
        simp only
        by_cases hm : 32 < r.Masses.length
        · rw [az7 (by omega), if_pos (Or.inl hm)]; rfl
        · rw [az5 (by omega), Qzd _ _ _ (by omega)]
          cases hn : bzs (badM r.Joints.length r.Masses) r.Masses.length
          · rw [if_pos (Or.inr rfl)]; rfl
          · rw [if_neg (by simp; omega)]; rfl
theorem xzm (r : azj) : (ozj r).o = some (fzb r) := by
  show (izf r).run NN = _
  simp only [izf, T.run, bz0, aza, fzb]
  by_cases h : r.Joints.length = 0 ∨ 10 < r.Joints.length
  · rw [if_pos h]
    rcases h with h | h
    · rw [az7 (by omega)]; rfl
    · rw [az5 (by omega), az7 (by omega)]
  · rw [if_neg h, az5 (by omega), az5 (by omega)]
    refine (izl (errJ r.Joints) r.Joints.length (by omega) (fun j hj => ?_) ?_).trans ?_
    · rw [az7 (by omega)]
      simp only [xzn r.Joints hj (show r.Joints.length < 4294967296 by omega), Option.bind_some]
      rw [wn (by omega), ezh]; rfl
    · rw [az5 (by omega)]
    · cases scan (errJ r.Joints) r.Joints.length 0 with
      | some e => rfl
      | none =>
        simp only
        by_cases hm : 32 < r.Masses.length
        · rw [az7 (by omega), if_pos (Or.inl hm)]
        · rw [az5 (by omega)]
          refine (izl (fun i => sw (badM r.Joints.length r.Masses i) 808) r.Masses.length (by omega) (fun j hj => ?_) ?_).trans ?_
          · rw [az7 (by omega), azb (by omega), wn (by omega), Int.toNat_natCast, ← ezh]
            simp only [uz8, Azw _ (show (0 : Int) ≤ 4194304 by decide) (by decide), Option.bind_some, bz0, aza]
            refine congrArg (fun b => bif b then some (Step3.fin 808) else some (Step3.next ((j + 1 : Nat) : Int))) ?_
            unfold badM Kzl
            generalize r.Masses.getD j default = m
            have e1 : decide (m.Link < 0) = !decide (0 ≤ m.Link) := by rw [Bool.eq_iff_iff]; simp
            have e2 : decide (m.Link ≥ (r.Joints.length : Int)) = !decide (m.Link < (r.Joints.length : Int)) := by rw [Bool.eq_iff_iff]; simp
            rw [e1, e2]
            cases decide (0 ≤ m.Link) <;> cases decide (m.Link < (r.Joints.length : Int)) <;> cases betV m.Mass 1 65536 <;> cases kz2 m.Point 4194304 <;> rfl
          · rw [az5 (by omega)]
          · rw [dzu]
            cases hn : bzs (badM r.Joints.length r.Masses) r.Masses.length
            · rw [if_pos (Or.inr rfl)]; rfl
            · rw [if_neg (by simp; omega)]; rfl
theorem jzh {r : azj} (h : fzb r = 0) : 1 ≤ r.Joints.length ∧ r.Joints.length ≤ 10 ∧ ∀ i, i < r.Joints.length → rzr r.Joints i = 0 := by
  unfold fzb at h
  split at h
  · cases h
  · refine ⟨by omega, by omega, fun i hi => ?_⟩
    split at h
    · rename_i e he
      obtain ⟨j, -, -, h3, -⟩ := dzc _ _ he
      unfold errJ sw at h3
      cases hb : rzr r.Joints j != 0 with
      | false => rw [hb] at h3; cases h3
      | true =>
        rw [hb] at h3; simp only [cond_true, Option.some.injEq] at h3
        simp only [bne_iff_ne] at hb
        rw [h3] at hb; exact absurd h hb
    · rename_i he
      have := (dzm _ _).1 he i (Nat.zero_le _) (by omega)
      unfold errJ sw at this
      cases hb : rzr r.Joints i != 0 with
      | false => simpa using hb
      | true => rw [hb] at this; cases this
def Azd (n : Nat) (k : Int) : Bool := decide (-1 ≤ k) && decide (k < (n : Int))
theorem uzc (s : az8) (k : Int) : (jz4 s k).o = some (Azd s.Robot.Joints.length k) := by
  show (nzy s k).run NN = _
  simp only [nzy, T.run, dzl, mz2, Azd]
def farP (l : List (Int × Int × Int)) (i : Nat) : Bool := !kz2 (l.getD i default) 4194304
def wzc (n : Nat) (x : azo) : Int :=
  if (Azd n x.Link && betV x.Radius 1 1048576) = false ∨ x.Points.length = 0 ∨ 8 < x.Points.length then 902 else if bzs (farP x.Points) x.Points.length then 0 else 805
theorem far3 (v : Int × Int × Int) : bzs (fun i => bey (([v.1, v.2.1, v.2.2] : List Int).getD i 0)) 3 = kz2 v 4194304 := by
  rw [Bool.eq_iff_iff, noneB_iff, nearV_iff]
  constructor
  · intro h
    have a := h 0 (by decide); have b := h 1 (by decide); have c := h 2 (by decide)
    simp only [bey, List.getD_cons_zero, List.getD_cons_succ, Bool.or_eq_false_iff, decide_eq_false_iff_not] at a b c
    omega
  · intro h i hi
    match i, hi with
    | 0, _ => simp only [bey, List.getD_cons_zero, Bool.or_eq_false_iff, decide_eq_false_iff_not]; omega
    | 1, _ => simp only [bey, List.getD_cons_zero, List.getD_cons_succ, Bool.or_eq_false_iff, decide_eq_false_iff_not]; omega
    | 2, _ => simp only [bey, List.getD_cons_zero, List.getD_cons_succ, Bool.or_eq_false_iff, decide_eq_false_iff_not]; omega
theorem wzb (s : az8) (x : azo) : (mzl s x).o = some (wzc s.Robot.Joints.length x) := by
  show (hzh s x).run NN = _
  simp only [hzh, T.run, uzc, Option.bind_some, bz0, aza, wzc]
  cases hl : Azd s.Robot.Joints.length x.Link
  · rfl
  · simp only [Bool.not_true, cond_false, Bool.true_and]
    by_cases h1 : x.Radius < 1
    · rw [az7 h1, if_pos]; · rfl
      simp [betV]; omega
    · rw [az5 h1]
      by_cases h2 : x.Radius > 1048576
      · rw [az7 h2, if_pos]; · rfl
        simp [betV]; omega
      · rw [az5 h2]
        by_cases h3 : x.Points.length = 0
        · rw [az7 (by omega), if_pos (Or.inr (Or.inl h3))]; rfl
        · rw [az5 (by omega)]
          by_cases h4 : 8 < x.Points.length
          · rw [az7 (by omega), if_pos (Or.inr (Or.inr h4))]
          · have hb : betV x.Radius 1 1048576 = true := by simp [betV]; omega
            rw [az5 (by omega), hb, if_neg (fun h5 => by rcases h5 with h5 | h5 | h5; · cases h5
                                                         · omega
                                                         · omega)]
            refine (izl (fun i => sw (farP x.Points i) 805) x.Points.length (by omega) (fun j hj => ?_) ?_).trans ?_
            · rw [az7 (by omega), azb (by omega), Int.toNat_natCast, wn (by omega)]
              refine (izl (fun i => sw (bey (([(x.Points.getD j default).1, (x.Points.getD j default).2.1, (x.Points.getD j default).2.2] : List Int).getD i 0)) (Step3.fin 805)) 3 (by decide) (fun k hk => ?_) ?_).trans ?_
              · rw [az7 (by omega), azb (by omega), wn (by omega), Int.toNat_natCast, ← ezh]
                simp only [dz9]; rfl
              · rw [az5 (by omega)]
              · rw [dzu, far3]; unfold farP
                cases kz2 (x.Points.getD j default) 4194304 <;> rfl
            · rw [az5 (by omega)]
            · rw [dzu]; cases bzs (farP x.Points) x.Points.length <;> rfl
def errS (n : Nat) (l : List azo) (i : Nat) : Option Int := sw (wzc n (l.getD i default) != 0) (wzc n (l.getD i default))
def badK (n : Nat) (l : List gz4) (i : Nat) : Bool := !(Azd n (l.getD i default).A && Azd n (l.getD i default).B)
def bzq (s : az8) : Int :=
  if fzb s.Robot ≠ 0 then fzb s.Robot else if 24 < s.Shapes.length then 901 else match scan (errS s.Robot.Joints.length s.Shapes) s.Shapes.length 0 with
    | some e => e
    | none => if 64 < s.Skips.length then 903 else if bzs (badK s.Robot.Joints.length s.Skips) s.Skips.length then 0 else 903
theorem fz9 (s : az8) : (dzn s).o = some (bzq s) := by
  show (pzz s).run NN = _
  simp only [pzz, T.run, pzw, Option.bind_some, bzq]
  by_cases h : fzb s.Robot = 0
  · rw [bzg h, if_neg (by simpa using h)]
    by_cases h1 : 24 < s.Shapes.length
    · rw [az7 (by omega), if_pos h1]
    · rw [az5 (by omega), if_neg h1]
      refine (izl (errS s.Robot.Joints.length s.Shapes) s.Shapes.length (by omega) (fun j hj => ?_) ?_).trans ?_
      · rw [az7 (by omega), azb (by omega), wn (by omega), Int.toNat_natCast]
        simp only [wzb, Option.bind_some]
        rw [ezh]; rfl
      · rw [az5 (by omega)]
      · cases scan (errS s.Robot.Joints.length s.Shapes) s.Shapes.length 0 with
        | some e => rfl
        | none =>
          simp only
          by_cases h2 : 64 < s.Skips.length
          · rw [az7 (by omega), if_pos h2]
          · rw [az5 (by omega), if_neg h2]
            refine (izl (fun i => sw (badK s.Robot.Joints.length s.Skips i) 903) s.Skips.length (by omega) (fun j hj => ?_) ?_).trans ?_
            · rw [az7 (by omega), azb (by omega), wn (by omega), Int.toNat_natCast, ← ezh]
              simp only [uzc, Option.bind_some, bz0, aza, badK]
              cases Azd s.Robot.Joints.length (s.Skips.getD j default).A <;> cases Azd s.Robot.Joints.length (s.Skips.getD j default).B <;> rfl
            · rw [az5 (by omega)]
            · rw [dzu]; cases bzs (badK s.Robot.Joints.length s.Skips) s.Skips.length <;> rfl
  · rw [bzl h, if_pos h]
def outJ (l : List azk) (c : List Int) (i : Nat) : Bool := decide (c.getD i default < (l.getD i default).Lo) || decide (c.getD i default > (l.getD i default).Hi)
def azu (r : azj) (c : List Int) : Bool := decide (fzb r = 0) && (decide (c.length = r.Joints.length) && bzs (outJ r.Joints c) c.length)
theorem Bzn (l : List azk) (c : List Int) (h : l.length < 4294967296) : (ez9 l c).o = some (decide (c.length = l.length) && bzs (outJ l c) c.length) := by
  show (czn l c).run NN = _
  simp only [czn, T.run]
  have e1 : ∀ j x, (oz8 j x).o = some (decide (j.Lo ≤ x) && decide (x ≤ j.Hi)) := fun j x => by
    show (iz0 j x).run NN = _
    simp only [iz0, T.run, dzl, mz2]
  by_cases h1 : c.length = l.length
  · rw [bzg (by omega), decide_eq_true h1, Bool.true_and]
    refine (izl (fun i => sw (outJ l c i) false) l.length h (fun j hj => ?_) ?_).trans ?_
    · rw [az7 (by omega), azb (by omega), azb (by omega), wn (by omega), Int.toNat_natCast, ← ezh]
      simp only [e1, Option.bind_some]
      refine congrArg (fun b => bif b then some (Step3.fin false) else some (Step3.next ((j + 1 : Nat) : Int))) ?_
      rw [Bool.eq_iff_iff]
      simp only [outJ, Bool.not_eq_true', Bool.and_eq_false_iff, Bool.or_eq_true, decide_eq_true_eq, decide_eq_false_iff_not]
      omega
    · rw [az5 (by omega)]
    · rw [dzu, h1]; cases bzs (outJ l c) l.length <;> rfl
  · rw [bzl (by omega), decide_eq_false h1]; rfl
theorem lz7 (r : azj) (c : List Int) : (ez0 r c).o = some (azu r c) := by
  show (lz6 r c).run NN = _
  simp only [lz6, T.run, pzw, Option.bind_some, azu]
  by_cases h : fzb r = 0
  · have := jzh h
    rw [kze h, Bzn _ _ (by omega), decide_eq_true h]; rfl
  · rw [gzg h, decide_eq_false h]; rfl
theorem Cz0 (r : azj) (c : List Int) : (uz5 r c).o = some (azu r c) := by
  show (nzr r c).run NN = _
  simp only [nzr, T.run, xzm, Option.bind_some, bz0, aza, azu]
  by_cases h : fzb r = 0
  · have := jzh h
    rw [bzg h, decide_eq_true h, Bool.true_and]
    by_cases h1 : c.length = r.Joints.length
    · rw [bzg (by omega), decide_eq_true h1, Bool.true_and]
      refine (izl (fun i => sw (outJ r.Joints c i) false) c.length (by omega) (fun j hj => ?_) ?_).trans ?_
      · rw [az7 (by omega), wn (by omega), ← ezh]
        simp only [Int.toNat_natCast, azb (show 0 ≤ (j : Int) ∧ (j : Int) < (c.length : Int) by omega), azb (show 0 ≤ (j : Int) ∧ (j : Int) < (r.Joints.length : Int) by omega), bz0, aza, dz9, outJ]
      · rw [az5 (by omega)]
      · rw [dzu]; cases bzs (outJ r.Joints c) c.length <;> rfl
    · rw [bzl (by omega), decide_eq_false h1]; rfl
  · rw [bzl h, decide_eq_false h]; rfl
def big1 (l : List Int) (i : Nat) : Bool := decide (l.getD i default < -2147483648) || decide (l.getD i default > 2147483648)
def fzd (l : List Int) : Bool := bzs (big1 l) l.length
theorem nz4 (l : List Int) (h : l.length < 4294967296) : (fzo l).o = some (fzd l) := by
  show (nz3 l).run NN = _
  have e1 : ∀ x, (qzc x).o = some (decide (x < -2147483648) || decide (x > 2147483648)) := fun x => by
    show (jzt x).run NN = _
    simp only [jzt, T.run, dzl, dz9]
  have e2 : (ezb l).o = some (match scan (fun i => sw (big1 l i) (i : Int)) l.length 0 with | some x => x | none => -1) := by
    show (czr l).run NN = _
    simp only [czr, T.run]
    refine (izl (fun i => sw (big1 l i) (i : Int)) l.length h (fun j hj => ?_) ?_).trans ?_
    · rw [az7 (by omega), azb (by omega), wn (by omega), Int.toNat_natCast, ← ezh]
      simp only [e1, Option.bind_some, big1]
    · rw [az5 (by omega)]
    · cases scan (fun i => sw (big1 l i) (i : Int)) l.length 0 <;> rfl
  have e3 : (dzo l).o = some (!fzd l) := by
    show (cz9 l).run NN = _
    simp only [cz9, T.run, e2, Option.bind_some]
    rw [Izs]; rfl
  simp only [nz3, T.run, e3, Option.bind_some, Bool.not_not]
theorem pzt (l : List Int) (h : l.length < 4294967296) : (kzr l).o = some (fzd l) := by
  show (pzs l).run NN = _
  simp only [pzs, T.run]
  refine (izl (fun i => sw (big1 l i) false) l.length h (fun j hj => ?_) ?_).trans ?_
  · rw [az7 (by omega), wn (by omega), ← ezh]
    simp only [Int.toNat_natCast, azb (show 0 ≤ (j : Int) ∧ (j : Int) < (l.length : Int) by omega), bz0, aza, dz9, big1]
  · rw [az5 (by omega)]
  · rw [dzu]; unfold fzd; cases bzs (big1 l) l.length <;> rfl
def lzi (p q : List Int) (d : Int) : Bool := fzd p && (fzd q && (decide (p.length = q.length) && (decide (0 ≤ d) && decide (d ≤ 20))))
theorem Hza {a b : Nat} : ((a : Int) == (b : Int)) = decide (a = b) := by rw [Bool.eq_iff_iff]; simp only [beq_iff_eq, decide_eq_true_eq]; omega
theorem wzz (p q : List Int) (d : Int) (hp : p.length < 4294967296) (hq : q.length < 4294967296) : (oz9 p q d).o = some (lzi p q d) := by
  show (iz1 p q d).run NN = _
  simp only [iz1, T.run, nz4 p hp, nz4 q hq, Option.bind_some, lzi, Hza]
  cases decide (p.length = q.length) <;> cases fzd p <;> cases fzd q <;> cases decide (0 ≤ d) <;> rfl
theorem Cz2 (p q : List Int) (d : Int) (hp : p.length < 4294967296) (hq : q.length < 4294967296) : (uz7 p q d).o = some (lzi p q d) := by
  show (nzt p q d).run NN = _
  simp only [nzt, T.run, pzt p hp, pzt q hq, Option.bind_some, lzi, Hza, ge_iff_le]
  cases decide (p.length = q.length) <;> cases fzd p <;> cases fzd q <;> cases decide (0 ≤ d) <;> rfl
def sz7 (p q : List Int) (d : Nat) (i : Int) (k : Nat) : az0 :=
  ⟨p.getD k default + min (i * (q.getD k default - p.getD k default)) ((i + 1) * (q.getD k default - p.getD k default)) / 2 ^ d,
   p.getD k default + cdiv (max (i * (q.getD k default - p.getD k default)) ((i + 1) * (q.getD k default - p.getD k default))) (2 ^ d)⟩
def czc (p q : List Int) (d i : Int) : List az0 × Bool :=
  if lzi p q d = true ∧ 0 ≤ i ∧ i < 2 ^ d.toNat then (tab (sz7 p q d.toNat i) p.length, true) else (nl, false)
theorem tz0 {l : List Int} (h : fzd l = true) {i : Nat} (hi : i < l.length) : -2147483648 ≤ l.getD i default ∧ l.getD i default ≤ 2147483648 := by
  have := noneB_iff.1 h i hi
  simp only [big1, Bool.or_eq_false_iff, decide_eq_false_iff_not] at this
  omega
theorem motionV_iff {p q : List Int} {d : Int} : lzi p q d = true ↔ fzd p = true ∧ fzd q = true ∧ p.length = q.length ∧ 0 ≤ d ∧ d ≤ 20 := by
  simp only [lzi, Bool.and_eq_true, decide_eq_true_eq]
theorem Gzb {k : Nat} (h : k ≤ 20) : (2 : Int) ^ k ≤ 1048576 := by
  have : (2 : Int) ^ k ≤ 2 ^ 20 := by
    exact_mod_cast Nat.pow_le_pow_right (by decide : 0 < 2) h
  have e : (2 : Int) ^ 20 = 1048576 := by decide
  omega
theorem Rz6 {i D : Int} (h0 : 0 ≤ i) (h1 : i ≤ 1048576) (h2 : -4294967296 ≤ D ∧ D ≤ 4294967296) : -4503599627370496 ≤ i * D ∧ i * D ≤ 4503599627370496 := by
  have h : (i * D).natAbs ≤ 1048576 * 4294967296 := by rw [Int.natAbs_mul]; exact Nat.mul_le_mul (by omega) (by omega)
  omega
theorem Tz5 {d : Int} (h0 : 0 ≤ d) (h1 : d ≤ 20) : IntKind.u64.wrap d = d := by
  show (if (false && decide (d % 18446744073709551616 ≥ 9223372036854775808)) = true then d % 18446744073709551616 - 18446744073709551616 else d % 18446744073709551616) = d
  rw [if_neg (by simp)]; omega
theorem Dz3 (a : Int) (k : Nat) (hk : k ≤ 64) : (ozz a (k : Int)).o = some (a / 2 ^ k) := by
  show (pz0 a (k : Int)).run NN = _
  simp only [pz0, T.run]
  rw [azb (by omega), Int.toNat_natCast, Nat.min_eq_left hk, tz9]
section
variable {a b i : Int} {k : Nat} (ha : -2147483648 ≤ a ∧ a ≤ 2147483648) (hb : -2147483648 ≤ b ∧ b ≤ 2147483648) (h0 : 0 ≤ i) (hi : i < 2 ^ k) (hk : k ≤ 20)
include ha hb h0 hi hk
theorem Ozu : IntKind.i64.wrap (b - a) = b - a ∧ IntKind.i64.wrap (i + 1) = i + 1 ∧ IntKind.i64.wrap (i * (b - a)) = i * (b - a) ∧ IntKind.i64.wrap ((i + 1) * (b - a)) = (i + 1) * (b - a) ∧
    InR (min (i * (b - a)) ((i + 1) * (b - a))) ∧ InR (max (i * (b - a)) ((i + 1) * (b - a))) ∧ InR (-(max (i * (b - a)) ((i + 1) * (b - a)))) ∧
    InR (a + min (i * (b - a)) ((i + 1) * (b - a)) / 2 ^ k) ∧ InR (a + cdiv (max (i * (b - a)) ((i + 1) * (b - a))) (2 ^ k)) := by
  have p20 := Gzb hk
  have hp := bzh k
  have m1 := Rz6 h0 (by omega) (show -4294967296 ≤ b - a ∧ b - a ≤ 4294967296 by omega)
  have m2 := Rz6 (i := i + 1) (by omega) (by omega) (show -4294967296 ≤ b - a ∧ b - a ≤ 4294967296 by omega)
  generalize i * (b - a) = u at *
  generalize (i + 1) * (b - a) = v at *
  have b1 : -4503599627370496 ≤ min u v ∧ min u v ≤ 4503599627370496 := by omega
  have b2 : -4503599627370496 ≤ max u v ∧ max u v ≤ 4503599627370496 := by omega
  have d1 := xzz (a := min u v) hp
  have d2 := rz4 (a := max u v) hp
  refine ⟨w64 (by omega) (by omega), w64 (by omega) (by omega), w64 (by omega) (by omega), w64 (by omega) (by omega), ⟨by omega, by omega⟩, ⟨by omega, by omega⟩, ⟨by omega, by omega⟩, ?_, ?_⟩
  · generalize min u v = x at *
    generalize x / 2 ^ k = y at *
    by_cases hx : 0 ≤ x
    · have := d1.1 hx; exact ⟨by omega, by omega⟩
    · have := d1.2 (by omega); exact ⟨by omega, by omega⟩
  · generalize max u v = x at *
    generalize cdiv x (2 ^ k) = y at *
    by_cases hx : 0 < x
    · have := d2.1 hx; exact ⟨by omega, by omega⟩
    · have := d2.2 (by omega); exact ⟨by omega, by omega⟩
theorem yzp : (qzb a b i (k : Int)).o = some (⟨a + min (i * (b - a)) ((i + 1) * (b - a)) / 2 ^ k, a + cdiv (max (i * (b - a)) ((i + 1) * (b - a))) (2 ^ k)⟩, i, (k : Int)) := by
  obtain ⟨e1, e2, e3, e4, e5, e6, e7, e8, e9⟩ := Ozu ha hb h0 hi hk
  show (jzs a b i (k : Int)).run NN = _
  have e0 : IntKind.i64.wrap (0 - max (i * (b - a)) ((i + 1) * (b - a))) = -(max (i * (b - a)) ((i + 1) * (b - a))) := by rw [Int.zero_sub]; exact e7.w
  have e10 : a - -(max (i * (b - a)) ((i + 1) * (b - a))) / 2 ^ k = a + cdiv (max (i * (b - a)) ((i + 1) * (b - a))) (2 ^ k) := by unfold cdiv; omega
  simp only [jzs, T.run, e1, e2, e3, e4, e0, Dz3 _ k (show k ≤ 64 by omega), Option.bind_some, e8.w, e10, e9.w]
end
theorem zzr {p q : List Int} {k : Nat} {i : Int} (hp : fzd p = true) (hq : fzd q = true) (hl : p.length = q.length) (hn : p.length < 4294967296) (h0 : 0 ≤ i) (hi : i < 2 ^ k) (hk : k ≤ 20) :
    (czk p q i (k : Int)).o = some (tab (sz7 p q k i) p.length, i, (k : Int)) := by
  show (bzi p q i (k : Int)).run NN = _
  simp only [bzi, T.run]
  rw [azb ⟨by omega, by omega, by omega, by omega⟩, Int.toNat_natCast]
  refine (ez8 (fun j => (i, (k : Int), half (sz7 p q k i) ⟨0, 0⟩ p.length j, (j : Int))) (i, (k : Int), tab (sz7 p q k i) p.length) p.length ?_ hn (fun j hj => ?_) ?_).trans rfl
  · rw [lze]; rfl
  · rw [az7 (by simpa using hj), azb ⟨by simp, by simpa using hj⟩, azb ⟨by simp, by simp; omega⟩]
    simp only [Int.toNat_natCast, yzp (tz0 hp hj) (tz0 hq (by omega : j < q.length)) h0 hi hk, Option.bind_some, mz6 (show j ≤ p.length by omega)]
    rw [azb ⟨by omega, by omega⟩, azb ⟨hj, by omega⟩, wn (by omega)]
    exact congrArg (fun x => some (Step3.next (i, (k : Int), x, ((j + 1 : Nat) : Int)))) (izu hj)
  · rw [az5 (by simp)]; simp only [pzb]
theorem w2k {k : Nat} (h : k ≤ 20) : IntKind.i64.wrap (1 * 2 ^ k) = 2 ^ k := by
  have := Gzb h; have := bzh k
  rw [Int.one_mul]; exact w64 (by omega) (by omega)
theorem nz2 (p q : List Int) (d i : Int) (hp : p.length < 4294967296) (hq : q.length < 4294967296) : (izr p q d i).o = some (czc p q d i) := by
  show (nz1 p q d i).run NN = _
  simp only [nz1, T.run, wzz p q d hp hq, Option.bind_some, czc]
  by_cases hm : lzi p q d = true
  · have hm' := motionV_iff.1 hm
    obtain ⟨k, rfl⟩ : ∃ k : Nat, d = (k : Int) := ⟨d.toNat, by omega⟩
    have hk : k ≤ 20 := by omega
    rw [hm, Int.toNat_natCast]
    simp only [Bool.not_true, cond_false]
    by_cases h0 : i < 0
    · rw [az7 h0, if_neg (by omega)]; rfl
    · rw [az5 h0, azb (by omega), Nat.min_eq_left (by omega), w2k hk]
      simp only [aza]
      by_cases h1 : i ≥ 2 ^ k
      · rw [az7 h1, if_neg (by omega)]
      · rw [az5 h1, if_pos ⟨trivial, by omega, by omega⟩, zzr hm'.1 hm'.2.1 hm'.2.2.1 hp (by omega) (by omega) hk]; rfl
  · rw [if_neg (fun h => hm h.1)]
    simp only [Bool.not_eq_true] at hm
    rw [hm]; rfl
structure JointOk (l : List azk) (i : Nat) : Prop where
  kind : 0 ≤ (l.getD i default).Kind ∧ (l.getD i default).Kind ≤ 6
  parent : -1 ≤ (l.getD i default).Parent ∧ (l.getD i default).Parent < (i : Int)
  off : kz2 (l.getD i default).Offset 4194304 = true
  lim : (l.getD i default).Lo ≤ (l.getD i default).Hi ∧ -jzg (l.getD i default).Kind ≤ (l.getD i default).Lo ∧ (l.getD i default).Hi ≤ jzg (l.getD i default).Kind
  cost : Oz1 (l.getD i default) = true
theorem Mze {l : List azk} {i : Nat} (h : rzr l i = 0) : JointOk l i := by
  unfold rzr at h
  simp only at h
  split at h
  · cases h
  · split at h
    · cases h
    · rename_i h2
      split at h
      · cases h
      · rename_i h3
        split at h
        · cases h
        · rename_i h4
          split at h
          · cases h
          · rename_i h5
            split at h
            · cases h
            · rename_i h6
              simp only [Bool.or_eq_true, decide_eq_true_eq, Bool.not_eq_true', Bool.not_eq_false] at h2 h3 h4 h5 h6
              exact ⟨by omega, by omega, h4, by omega, h6⟩
theorem izj {r : azj} (h : fzb r = 0) {i : Nat} (hi : i < r.Joints.length) : JointOk r.Joints i := Mze ((jzh h).2.2 i hi)
def notV (b : List az0) (i : Nat) : Bool := !vV (b.getD i default)
def boxV (r : azj) (b : List az0) : Bool := decide (b.length = r.Joints.length) && bzs (notV b) b.length
theorem vzn (r : azj) (b : List az0) (h : b.length < 4294967296) : (mz9 r b).o = some (boxV r b) := by
  have e1 : ∀ x, (kzf x).o = some (!vV x) := fun x => by
    show (fzh x).run NN = _
    simp only [fzh, T.run, bzo, Option.bind_some]
  have e2 : (cz4 b).o = some (match scan (fun i => sw (notV b i) (i : Int)) b.length 0 with | some x => x | none => -1) := by
    show (bzb b).run NN = _
    simp only [bzb, T.run, e1, Option.bind_some]
    refine (izl (fun i => sw (notV b i) (i : Int)) b.length h (fun j hj => ?_) ?_).trans ?_
    · rw [az7 (by omega), azb (by omega), wn (by omega), Int.toNat_natCast, ← ezh]; rfl
    · rw [az5 (by omega)]
    · cases scan (fun i => sw (notV b i) (i : Int)) b.length 0 <;> rfl
  have e3 : (bzx b).o = some (!bzs (notV b) b.length) := by
    show (bz6 b).run NN = _
    simp only [bz6, T.run, e2, Option.bind_some]
    exact congrArg some Izs
  show (gzs r b).run NN = _
  simp only [gzs, T.run, e3, Option.bind_some, boxV, Hza, Bool.not_not]
  cases decide (b.length = r.Joints.length) <;> rfl
section
variable (r : azj) (b : List az0)
def lk1 (L : List azx) (i : Nat) : azx :=
  if (r.Joints.getD i default).Parent = -1 then vzl (r.Joints.getD i default) (b.getD i default) else Kzd (L.getD (r.Joints.getD i default).Parent.toNat default) (vzl (r.Joints.getD i default) (b.getD i default))
def lkL : Nat → List azx
  | 0 => []
  | i + 1 => lkL i ++ [lk1 r b (lkL i) i]
def lkP (i : Nat) : azx := lk1 r b (lkL r b i) i
theorem Jzf : ∀ j, lkL r b j = tab (lkP r b) j
  | 0 => rfl
  | j + 1 => by rw [wzr, ← Jzf j]; rfl
end
variable {r : azj} {b : List az0}
theorem Jzc {α : Type} {f : Nat → α} {z d : α} {n j i : Nat} (h : i < j) : (half f z n j).getD i d = f i := by
  unfold half
  rw [List.getD_eq_getElem?_getD, List.getElem?_append_left (by rw [czs]; exact h), ← List.getD_eq_getElem?_getD, fzl h]
theorem Czq {α : Type} {l : List α} {i j : Nat} {x d : α} (h : i ≠ j) : (l.set i x).getD j d = l.getD j d := by
  rw [List.getD_eq_getElem?_getD, List.getElem?_set_ne h, List.getD_eq_getElem?_getD]
theorem Czp {α : Type} {l : List α} {i : Nat} {x d : α} (h : i < l.length) : (l.set i x).getD i d = x := by
  rw [List.getD_eq_getElem?_getD, List.getElem?_set_self h]; rfl
theorem vzo (hr : fzb r = 0) (hb : boxV r b = true) : (mza r b).o = some (tab (lkP r b) r.Joints.length) := by
  have hr' := jzh hr
  have hb' := hb
  simp only [boxV, Bool.and_eq_true, decide_eq_true_eq] at hb'
  show (gzt r b).run NN = _
  simp only [gzt, T.run]
  rw [azb ⟨by omega, by omega, by omega, by omega⟩, Int.toNat_natCast]
  refine (ez8 (fun j => (half (lkP r b) (⟨(izv, izv, izv), izv⟩ : azx) r.Joints.length j, (j : Int))) (tab (lkP r b) r.Joints.length) r.Joints.length ?_ (show r.Joints.length < 4294967296 by omega) (fun j hj => ?_) ?_).trans rfl
  · rw [lze]; rfl
  · have jo := izj hr hj
    have jp := jo.parent
    rw [az7 (by simp; omega), azb ⟨by simp, by simpa using hj⟩, azb ⟨by simp, by simp; omega⟩]
    simp only [Int.toNat_natCast, vzm, Option.bind_some, List.length_set, mz6 (show j ≤ r.Joints.length by omega)]
    rw [azb ⟨by omega, by omega⟩, azb ⟨hj, by omega⟩, wn (by omega)]
    by_cases hp : (r.Joints.getD j default).Parent = -1
    · have e : lkP r b j = vzl (r.Joints.getD j default) (b.getD j default) := by unfold lkP lk1; rw [if_pos hp]
      rw [bzg hp]
      simp only [aza]
      rw [← izu hj, e]
    · have e : lkP r b j = Kzd (lkP r b (r.Joints.getD j default).Parent.toNat) (vzl (r.Joints.getD j default) (b.getD j default)) := by
        conv => lhs; unfold lkP lk1
        rw [if_neg hp, Jzf, fzl (by omega)]
      rw [bzl hp, azb ⟨by omega, by omega⟩, azb (by omega), azb ⟨by omega, by omega⟩, azb hj, Czq (by omega), Jzc (by omega), Czp (by rw [mz6 (by omega)]; exact hj)]
      simp only [jz0, Option.bind_some]
      rw [azb ⟨by omega, by omega⟩, azb ⟨hj, by omega⟩, aza, List.set_set, ← e, izu hj]
  · rw [az5 (by simp)]; simp only [pzb]
def szs (x : azo) : Bool := (betV x.Radius 1 1048576 && decide (1 ≤ x.Points.length ∧ x.Points.length ≤ 8)) && bzs (farP x.Points) x.Points.length
def Czi (x : azo) (p : azx) : List IV3 := if szs x then tab (fun i => Kzm p (wz2 (x.Points.getD i default))) x.Points.length else nl
theorem Izt {x : azo} (h : szs x = true) : 1 ≤ x.Points.length ∧ x.Points.length ≤ 8 := by
  simp only [szs, Bool.and_eq_true, decide_eq_true_eq] at h; exact h.1.2
theorem Lz0 (x : azo) {α : Type} (k : Bool → Option α) : (andC (bif decide (x.Radius < 1) then some (.out true) else bif decide (x.Radius > 1048576) then some (.out true) else bif decide ((x.Points.length : Int) < 1) then some (.out true) else
    some (.out (decide ((x.Points.length : Int) > 8)))) k) = k (!(betV x.Radius 1 1048576 && decide (1 ≤ x.Points.length ∧ x.Points.length ≤ 8))) := by
  simp only [bz0, aza]
  congr 1
  rw [Bool.eq_iff_iff]
  simp only [dz9, betV, Bool.or_eq_true, Bool.not_eq_true', Bool.and_eq_false_iff, decide_eq_true_eq, decide_eq_false_iff_not]
  omega
theorem Ezs (x : azo) : (wze x).o = some (szs x) := by
  show (qz1 x).run NN = _
  simp only [qz1, T.run, Lz0, szs]
  cases h : betV x.Radius 1 1048576 && decide (1 ≤ x.Points.length ∧ x.Points.length ≤ 8)
  · rfl
  · simp only [Bool.and_eq_true, decide_eq_true_eq] at h
    simp only [Bool.not_true, cond_false, Bool.true_and]
    refine (izl (fun i => sw (farP x.Points i) false) x.Points.length (by omega) (fun j hj => ?_) ?_).trans ?_
    · rw [az7 (by omega), azb (by omega), Int.toNat_natCast, wn (by omega)]
      refine (izl (fun i => sw (bey (([(x.Points.getD j default).1, (x.Points.getD j default).2.1, (x.Points.getD j default).2.2] : List Int).getD i 0)) (Step3.fin false)) 3 (by decide) (fun k hk => ?_) ?_).trans ?_
      · rw [az7 (by omega), azb (by omega), wn (by omega), Int.toNat_natCast, ← ezh]
        simp only [bz0, aza, dz9]; rfl
      · rw [az5 (by omega)]
      · rw [dzu, far3]; unfold farP
        cases kz2 (x.Points.getD j default) 4194304 <;> rfl
    · rw [az5 (by omega)]
    · rw [dzu]; cases bzs (farP x.Points) x.Points.length <;> rfl
theorem wzg (x : azo) (p : azx) : (wzf x p).o = some (Czi x p) := by
  show (qz2 x p).run NN = _
  simp only [qz2, T.run, Ezs, Option.bind_some, Czi]
  cases h : szs x
  · rfl
  · have hl := Izt h
    simp only [Bool.not_true, cond_false, if_true]
    rw [azb ⟨by omega, by omega, by omega, by omega⟩, Int.toNat_natCast]
    refine (ez8 (fun j => (half (fun i => Kzm p (wz2 (x.Points.getD i default))) izv x.Points.length j, (j : Int))) (tab (fun i => Kzm p (wz2 (x.Points.getD i default))) x.Points.length) x.Points.length ?_ (show x.Points.length < 4294967296 by omega) (fun j hj => ?_) ?_).trans rfl
    · rw [lze]; rfl
    · rw [az7 (by simpa using hj), azb ⟨by simp, by simpa using hj⟩]
      simp only [Int.toNat_natCast, nzg, Gza, Option.bind_some, mz6 (show j ≤ x.Points.length by omega)]
      rw [azb ⟨by omega, by omega⟩, azb ⟨hj, by omega⟩, wn (by omega), ← izu hj]
    · rw [az5 (by simp)]; simp only [pzb]
def linkP (r : azj) (b : List az0) (k : Int) : azx := if k = -1 then Gzh else lkP r b k.toNat
def bz5 (s : az8) (b : List az0) (i : Nat) : List IV3 := Czi (s.Shapes.getD i default) (linkP s.Robot b (s.Shapes.getD i default).Link)
def ize (s : az8) (b : List az0) : List (List IV3) := if bzq s = 0 ∧ boxV s.Robot b = true then tab (bz5 s b) s.Shapes.length else nl
structure SceneOk (s : az8) : Prop where
  robot : fzb s.Robot = 0
  len : s.Shapes.length ≤ 24
  shape : ∀ i, i < s.Shapes.length → wzc s.Robot.Joints.length (s.Shapes.getD i default) = 0
  skips : s.Skips.length ≤ 64
theorem szq {s : az8} (h : bzq s = 0) : SceneOk s := by
  unfold bzq at h
  split at h
  · rename_i h1; exact absurd h h1
  · rename_i h1
    split at h
    · cases h
    · rename_i h2
      split at h
      · rename_i e he
        obtain ⟨j, -, -, h3, -⟩ := dzc _ _ he
        unfold errS sw at h3
        cases hb : wzc s.Robot.Joints.length (s.Shapes.getD j default) != 0 with
        | false => rw [hb] at h3; cases h3
        | true =>
          rw [hb] at h3; simp only [cond_true, Option.some.injEq] at h3
          simp only [bne_iff_ne] at hb
          rw [h3] at hb; exact absurd h hb
      · rename_i he
        split at h
        · cases h
        · rename_i h4
          refine ⟨by simpa using h1, by omega, fun i hi => ?_, by omega⟩
          have := (dzm _ _).1 he i (Nat.zero_le _) (by omega)
          unfold errS sw at this
          cases hb : wzc s.Robot.Joints.length (s.Shapes.getD i default) != 0 with
          | false => simpa using hb
          | true => rw [hb] at this; cases this
theorem wzd {n : Nat} {x : azo} (h : wzc n x = 0) : szs x = true ∧ -1 ≤ x.Link ∧ x.Link < (n : Int) := by
  unfold wzc at h
  split at h
  · cases h
  · rename_i h1
    split at h
    · rename_i h2
      have hb : (Azd n x.Link && betV x.Radius 1 1048576) = true := by
        cases hc : (Azd n x.Link && betV x.Radius 1 1048576) with
        | true => rfl
        | false => exact absurd (Or.inl hc) h1
      simp only [Bool.and_eq_true] at hb
      refine ⟨?_, ?_⟩
      · simp only [szs, Bool.and_eq_true, decide_eq_true_eq]; exact ⟨⟨hb.2, by omega⟩, h2⟩
      · have := hb.1; simp only [Azd, Bool.and_eq_true, decide_eq_true_eq] at this; exact this
    · cases h
theorem uzt (s : az8) (b : List az0) (hbl : b.length < 4294967296) : (lzg s b).o = some (ize s b) := by
  show (fzz s b).run NN = _
  simp only [fzz, T.run, fz9, vzn _ b hbl, Option.bind_some, ize]
  cases hb : boxV s.Robot b
  · rw [if_neg (fun h => by cases h.2)]; rfl
  · simp only [Bool.not_true, cond_false, aza]
    by_cases h : bzq s = 0
    · have so := szq h
      have so2 := so.len
      rw [if_pos ⟨h, trivial⟩, bzg h, vzo so.robot hb, Option.bind_some, azb ⟨by omega, by omega, by omega, by omega⟩, Int.toNat_natCast]
      refine (ez8 (fun j => (half (bz5 s b) nl s.Shapes.length j, (j : Int))) (tab (bz5 s b) s.Shapes.length) s.Shapes.length ?_ (show s.Shapes.length < 4294967296 by omega) (fun j hj => ?_) ?_).trans rfl
      · rw [lze]; rfl
      · have sl := (wzd (so.shape j hj)).2
        rw [az7 (by simpa using hj), azb ⟨by simp, by simpa using hj⟩]
        simp only [Int.toNat_natCast, sza, Option.bind_some, mz6 (show j ≤ s.Shapes.length by omega)]
        rw [wn (by omega), ← izu hj]
        by_cases hp : (s.Shapes.getD j default).Link = -1
        · have e : bz5 s b j = Czi (s.Shapes.getD j default) Gzh := by unfold bz5 linkP; rw [if_pos hp]
          rw [bzg hp]
          simp only [aza, wzg, Option.bind_some]
          rw [azb ⟨by omega, by omega⟩, azb ⟨hj, by omega⟩, e]
        · have e : bz5 s b j = Czi (s.Shapes.getD j default) ((tab (lkP s.Robot b) s.Robot.Joints.length).getD (s.Shapes.getD j default).Link.toNat default) := by
            unfold bz5 linkP; rw [if_neg hp, fzl (by omega)]
          rw [bzl hp, azb ⟨by omega, by rw [czs]; omega⟩]
          simp only [aza, wzg, Option.bind_some]
          rw [azb ⟨by omega, by omega⟩, azb ⟨hj, by omega⟩, e]
      · rw [az5 (by simp)]; simp only [pzb]
    · rw [if_neg (fun h' => h h'.1), bzl h]
section
variable (par : Nat → Nat) (mv : Nat → Prop) [DecidablePred mv]
inductive AncN : Nat → Nat → Prop
  | self {m : Nat} : 0 < m → AncN m m
  | up {m x : Nat} : 0 < m → AncN (par m) x → AncN m x
def cF : Nat → Nat → Nat
  | 0, _ => 0
  | d + 1, m => if m = 0 then 0 else if mv m then m else cF d (par m)
end
section
variable {par : Nat → Nat} {mv : Nat → Prop} [DecidablePred mv]
theorem Lzb {n : Nat} (hp : ∀ m, 0 < m → m ≤ n → par m < m) : ∀ (d d' m : Nat), m ≤ n → m < d → m < d' → cF par mv d m = cF par mv d' m
  | 0, _, _, _, h, _ => by omega
  | _, 0, _, _, _, h => by omega
  | d + 1, d' + 1, m, hm, h1, h2 => by
    simp only [cF]
    by_cases h0 : m = 0
    · simp only [h0, if_true]
    · simp only [h0, if_false]
      have := hp m (by omega) hm
      by_cases hv : mv m
      · simp only [hv, if_true]
      · simp only [hv, if_false]; exact Lzb hp d d' (par m) (by omega) (by omega) (by omega)
end
section
variable (r : azj)
def parN (m : Nat) : Nat := ((r.Joints.getD (m - 1) default).Parent + 1).toNat
def mvN (m : Nat) : Prop := (r.Joints.getD (m - 1) default).Lo ≠ (r.Joints.getD (m - 1) default).Hi
instance : DecidablePred (mvN r) := fun m => inferInstanceAs (Decidable (_ ≠ _))
def carN (m : Nat) : Nat := cF (parN r) (mvN r) (r.Joints.length + 1) m
end
variable {r : azj} (hr : fzb r = 0)
include hr
theorem Mzx : ∀ m, 0 < m → m ≤ r.Joints.length → parN r m < m := fun m h0 hm => by
  have := (izj hr (show m - 1 < r.Joints.length by omega)).parent
  unfold parN; omega
omit hr in
theorem Lzg : carN r 0 = 0 := by
  unfold carN; simp only [cF, if_true]
theorem Lzf {i : Nat} (hi : i < r.Joints.length) : carN r (i + 1) = if (r.Joints.getD i default).Lo = (r.Joints.getD i default).Hi then carN r ((r.Joints.getD i default).Parent + 1).toNat else i + 1 := by
  have hl := Mzx hr (i + 1) (by omega) (by omega)
  unfold carN
  conv => lhs; simp only [cF]
  rw [if_neg (by omega)]
  by_cases h : (r.Joints.getD i default).Lo = (r.Joints.getD i default).Hi
  · rw [if_neg (fun hm => hm h), if_pos h]
    exact Lzb (Mzx hr) _ _ (parN r (i + 1)) (by omega) (by omega) (by omega)
  · rw [if_pos (show mvN r (i + 1) from h), if_neg h]
def caP (r : azj) (m : Nat) : Int := (carN r m : Int) - 1
theorem yzx : (qzr r).o = some (tab (caP r) (r.Joints.length + 1)) := by
  have hr' := jzh hr
  show (kz8 r).run NN = _
  simp only [kz8, T.run]
  rw [wn (by omega), Int.toNat_natCast, azb ⟨by omega, by omega, by omega, by omega⟩]
  simp only [List.length_replicate]
  rw [azb ⟨by omega, by omega⟩, azb ⟨by simp, by omega⟩]
  refine (ez8 (fun j => (half (caP r) 0 (r.Joints.length + 1) (j + 1), (j : Int))) (tab (caP r) (r.Joints.length + 1)) r.Joints.length ?_ (show r.Joints.length < 4294967296 by omega) (fun j hj => ?_) ?_).trans rfl
  · rw [← izu (by omega), lze]
    have : caP r 0 = -1 := by unfold caP; rw [Lzg]; rfl
    rw [this]; rfl
  · have jp := (izj hr hj).parent
    rw [az7 (by simpa using hj), azb ⟨by simp, by simpa using hj⟩]
    simp only [Int.toNat_natCast, mz6 (show j + 1 ≤ r.Joints.length + 1 by omega), List.length_set]
    rw [wn (by omega), Int.toNat_natCast, azb ⟨by omega, by omega⟩, azb ⟨by omega, by omega⟩, w64 (x := (r.Joints.getD j default).Parent + 1) (by omega) (by omega)]
    have e := Lzf hr hj
    by_cases h : (r.Joints.getD j default).Lo = (r.Joints.getD j default).Hi
    · have e2 : caP r (j + 1) = caP r ((r.Joints.getD j default).Parent + 1).toNat := by unfold caP; rw [e, if_pos h]
      rw [kze h, azb ⟨by omega, by omega⟩, azb (by omega), azb ⟨by omega, by omega⟩, azb ⟨by omega, by omega⟩, Czq (by omega), Jzc (by omega), aza, List.set_set, ← izu (j := j + 1) (by omega), e2]
    · have e2 : caP r (j + 1) = (j : Int) := by unfold caP; rw [e, if_neg h]; omega
      rw [gzg h, aza, ← izu (j := j + 1) (by omega), e2]
  · rw [az5 (by simp)]; simp only [pzb]
omit hr
def skB (l : List gz4) (a b : Int) (i : Nat) : Bool := ((l.getD i default).A == a && (l.getD i default).B == b) || ((l.getD i default).A == b && (l.getD i default).B == a)
def skV (s : az8) (a b : Int) : Bool := !bzs (skB s.Skips a b) s.Skips.length
theorem Bz7 (s : az8) (a b : Int) (h : s.Skips.length < 4294967296) : (szr s a b).o = some (skV s a b) := by
  show (lzs s a b).run NN = _
  simp only [lzs, T.run, bz0, aza, Bool.and_true, dz9]
  refine (izl (fun i => sw (skB s.Skips a b i) true) s.Skips.length h (fun j hj => ?_) ?_).trans ?_
  · rw [az7 (by omega), azb (by omega), wn (by omega), Int.toNat_natCast, ← ezh]; rfl
  · rw [az5 (by omega)]
  · rw [dzu]; unfold skV; cases bzs (skB s.Skips a b) s.Skips.length <;> rfl
section
variable (c : Nat → Nat → Bool)
def pin (L : List czv) (i : Nat) : Nat → List czv
  | 0 => L
  | m + 1 => if c i (i + 1 + m) then pin L i m ++ [⟨(i : Int), ((i + 1 + m : Nat) : Int)⟩] else pin L i m
def pou (n : Nat) : Nat → List czv
  | 0 => nl
  | i + 1 => pin c (pou n i) i (n - (i + 1))
theorem Iz9 (L : List czv) (i : Nat) : ∀ m, (pin c L i m).length ≤ L.length + m
  | 0 => by simp [pin]
  | m + 1 => by
    have := Iz9 L i m
    simp only [pin]; split
    · simp; omega
    · omega
theorem Izc {n : Nat} : ∀ i, (pou c n i).length ≤ i * n
  | 0 => by simp [pou, nl]
  | i + 1 => by
    have h1 := Izc (n := n) i
    have h2 := Iz9 c (pou c n i) i (n - (i + 1))
    simp only [pou]; rw [Nat.add_mul]; omega
end
def Fzx (s : az8) (i : Nat) : Int := (s.Shapes.getD i default).Link
def xzj (s : az8) (i k : Nat) : Bool := !decide (carN s.Robot (Fzx s i + 1).toNat = carN s.Robot (Fzx s k + 1).toNat) && !skV s (Fzx s i) (Fzx s k)
def azt (s : az8) : List czv := if bzq s = 0 then pou (xzj s) s.Shapes.length s.Shapes.length else nl
theorem Ezq (s : az8) : (wza s).o = some (azt s) := by
  show (qz0 s).run NN = _
  simp only [qz0, T.run, fz9, Option.bind_some, azt]
  by_cases h : bzq s = 0
  · have so := szq h
    have so2 := so.len
    have so3 := so.skips
    have so4 := jzh so.robot
    rw [bzg h, if_pos h, yzx so.robot, Option.bind_some]
    refine (ez8 (fun i => (pou (xzj s) s.Shapes.length i, (i : Int))) (pou (xzj s) s.Shapes.length s.Shapes.length) s.Shapes.length rfl (show s.Shapes.length < 4294967296 by omega) (fun i hi => ?_) ?_).trans rfl
    · rw [az7 (by simpa using hi), azb ⟨by simp, by simpa using hi⟩]
      simp only [Int.toNat_natCast]
      rw [wn (by omega)]
      refine (ez8 (fun m => (pin (xzj s) (pou (xzj s) s.Shapes.length i) i m, ((i + 1 + m : Nat) : Int))) (pou (xzj s) s.Shapes.length (i + 1)) (s.Shapes.length - (i + 1)) rfl (show s.Shapes.length - (i + 1) < 4294967296 by omega) (fun m hm => ?_) ?_).trans rfl
      · have hk : i + 1 + m < s.Shapes.length := by omega
        have l1 := (wzd (so.shape i hi)).2
        have l2 := (wzd (so.shape (i + 1 + m) hk)).2
        have lp := Iz9 (xzj s) (pou (xzj s) s.Shapes.length i) i m
        have lo := Izc (xzj s) (n := s.Shapes.length) i
        have li : i * s.Shapes.length ≤ 24 * 24 := Nat.mul_le_mul (by omega) (by omega)
        simp only [Int.toNat_natCast, czs]
        rw [az7 (by omega), azb ⟨by omega, by omega⟩, w64 (x := (s.Shapes.getD i default).Link + 1) (by omega) (by omega), w64 (x := (s.Shapes.getD (i + 1 + m) default).Link + 1) (by omega) (by omega),
          azb ⟨by omega, by omega⟩, azb ⟨by omega, by omega⟩, wn (by omega), fzl (by omega), fzl (by omega)]
        simp only [Bz7 s _ _ (show s.Skips.length < 4294967296 by omega), Option.bind_some, pin]
        have e : (andC (bif !(caP s.Robot ((s.Shapes.getD i default).Link + 1).toNat == caP s.Robot ((s.Shapes.getD (i + 1 + m) default).Link + 1).toNat) then
            some (.out (!skV s (s.Shapes.getD i default).Link (s.Shapes.getD (i + 1 + m) default).Link)) else some (.out false)) : (Bool → Option (Step3 Unit (List czv) (Step3 (List czv × Int) (List czv) (Step3 (List czv × Int) (List czv) (List czv))))) → _) = fun k => k (xzj s i (i + 1 + m)) := by
          funext k
          have e1 : (caP s.Robot ((s.Shapes.getD i default).Link + 1).toNat == caP s.Robot ((s.Shapes.getD (i + 1 + m) default).Link + 1).toNat) = decide (carN s.Robot ((s.Shapes.getD i default).Link + 1).toNat = carN s.Robot ((s.Shapes.getD (i + 1 + m) default).Link + 1).toNat) := by
            rw [Bool.eq_iff_iff]; unfold caP; simp only [beq_iff_eq, decide_eq_true_eq]; omega
          rw [e1]; unfold xzj Fzx
          cases decide (carN s.Robot ((s.Shapes.getD i default).Link + 1).toNat = carN s.Robot ((s.Shapes.getD (i + 1 + m) default).Link + 1).toNat) <;> rfl
        rw [e]
        simp only
        rw [azb ⟨by simp; omega, by simp [bz8]; omega⟩]
        cases xzj s i (i + 1 + m) <;> rfl
      · rw [az5 (by omega)]; rfl
    · rw [az5 (by simp)]
  · rw [bzl h, if_neg h]
theorem u64w {x : Int} (h0 : 0 ≤ x) (h1 : x < 18446744073709551616) : IntKind.u64.wrap x = x := by
  show (if (false && decide (x % 18446744073709551616 ≥ 9223372036854775808)) = true then x % 18446744073709551616 - 18446744073709551616 else x % 18446744073709551616) = x
  rw [if_neg (by simp)]; omega
theorem u8w {x : Int} (h0 : 0 ≤ x) (h1 : x < 256) : IntKind.u8.wrap x = x := by
  show (if (false && decide (x % 256 ≥ 128)) = true then x % 256 - 256 else x % 256) = x
  rw [if_neg (by simp)]; omega
def IsRoot (n s : Int) : Prop := 0 ≤ s ∧ s * s ≤ n ∧ n < (s + 1) * (s + 1)
theorem IsRoot.uniq {n s t : Int} (h1 : IsRoot n s) (h2 : IsRoot n t) : s = t := by
  obtain ⟨a0, a1, a2⟩ := h1
  obtain ⟨b0, b1, b2⟩ := h2
  by_cases h : s < t
  · have : (s + 1) * (s + 1) ≤ t * t := Int.mul_le_mul (by omega) (by omega) (by omega) (by omega)
    omega
  · by_cases h' : t < s
    · have : (t + 1) * (t + 1) ≤ s * s := Int.mul_le_mul (by omega) (by omega) (by omega) (by omega)
      omega
    · omega
theorem Izg {n : Int} (h0 : 1 ≤ n) (h1 : n < 4611686018427387904) : ∃ s, (pzu n).o = some s ∧ IsRoot n s := by
  have e0 : (pzu n).o = (vz1 n).run NN := rfl
  rw [e0]
  simp only [vz1, T.run]
  rw [az5 (by omega)]
  refine Lzu (β := Int) (g := fun s => some s) (P := fun s => IsRoot n s) (fun (y : Int × Int) => 1 ≤ y.1 ∧ y.1 < y.2 ∧ y.2 ≤ 4294967296 ∧ y.1 * y.1 ≤ n ∧ n < y.2 * y.2) (fun y => (y.2 - y.1).toNat) (fun s => IsRoot n s)
    ⟨by decide, by decide, by decide, by omega, by simp only; omega⟩ (by decide) (fun y hy => ?_) (fun s hs => ⟨s, rfl, hs⟩)
  obtain ⟨a1, a2, a3, a4, a5⟩ := hy
  rw [w64 (x := y.2 - y.1) (by omega) (by omega)]
  by_cases hd : y.2 - y.1 > 1
  · left
    rw [az7 hd, fza (by omega), w64 (x := (y.2 - y.1) / 2) (by omega) (by omega), w64 (x := y.1 + (y.2 - y.1) / 2) (by omega) (by omega), azb (by omega)]
    generalize hm : y.1 + (y.2 - y.1) / 2 = m
    have m1 : y.1 < m ∧ m < y.2 := by omega
    have q := xzz (a := n) (b := m) (by omega)
    have q1 := q.1 (by omega)
    rw [fza (by omega), w64 (x := n / m) (by omega) (by omega)]
    have key : m ≤ n / m ↔ m * m ≤ n := Int.le_ediv_iff_mul_le (by omega)
    by_cases hc : m ≤ n / m
    · rw [az7 hc]; exact ⟨_, rfl, ⟨by simp only; omega, by simp only; omega, a3, key.1 hc, a5⟩, by simp only; omega⟩
    · rw [az5 hc]; exact ⟨_, rfl, ⟨a1, by simp only; omega, by simp only; omega, a4, by simp only; have := mt key.2 hc; omega⟩, by simp only; omega⟩
  · right
    rw [az5 hd]
    exact ⟨_, rfl, by omega, a4, by rw [show y.1 + 1 = y.2 by omega]; exact a5⟩
def lenT (b : Nat) : Nat := ((#[0, 1, 2, 2, 3, 3, 3, 3, 4, 4, 4, 4, 4, 4, 4, 4, 5, 5, 5, 5, 5, 5, 5, 5, 5, 5, 5, 5, 5, 5, 5, 5, 6, 6, 6, 6, 6, 6, 6, 6, 6, 6, 6, 6, 6, 6, 6, 6, 6, 6, 6, 6, 6, 6, 6, 6, 6, 6, 6, 6, 6, 6, 6, 6, 7, 7, 7, 7, 7, 7, 7, 7, 7, 7, 7, 7, 7, 7, 7, 7, 7, 7, 7, 7, 7, 7, 7, 7, 7, 7, 7, 7, 7, 7, 7, 7, 7, 7, 7, 7, 7, 7, 7, 7, 7, 7, 7, 7, 7, 7, 7, 7, 7, 7, 7, 7, 7, 7, 7, 7, 7, 7, 7, 7, 7, 7, 7, 7, 8, 8, 8, 8, 8, 8, 8, 8, 8, 8, 8, 8, 8, 8, 8, 8, 8, 8, 8, 8, 8, 8, 8, 8, 8, 8, 8, 8, 8, 8, 8, 8, 8, 8, 8, 8, 8, 8, 8, 8, 8, 8, 8, 8, 8, 8, 8, 8, 8, 8, 8, 8, 8, 8, 8, 8, 8, 8, 8, 8, 8, 8, 8, 8, 8, 8, 8, 8, 8, 8, 8, 8, 8, 8, 8, 8, 8, 8, 8, 8, 8, 8, 8, 8, 8, 8, 8, 8, 8, 8, 8, 8, 8, 8, 8, 8, 8, 8, 8, 8, 8, 8, 8, 8, 8, 8, 8, 8, 8, 8, 8, 8, 8, 8, 8, 8, 8, 8, 8, 8, 8, 8, 8, 8, 8, 8, 8, 8] : Array UInt8).getD b 0).toNat
theorem Rz2 : ∀ b, b < 256 → b < 2 ^ lenT b ∧ lenT b ≤ 8 := of_decide_eq_true (by kernel_rfl)
def lenE (y : Int × Int) : Option Int := grd (0 ≤ IntKind.u8.wrap y.1 ∧ IntKind.u8.wrap y.1 < ((256 : Nat) : Int)) (some (IntKind.i64.wrap (y.2 + IntKind.i64.wrap ((lenT (IntKind.u8.wrap y.1).toNat : Nat) : Int))))
theorem Szi (n : Int) : (iz8 n).o =
    andC (bif decide (n ≥ 4294967296) then some (.out (n.fdiv (2 ^ min (32 : Int).toNat 64), 32)) else some (.out (n, 0)) : Option (Step3 Unit (Int × Int) Int)) fun y5 =>
    andC (bif decide (y5.1 ≥ 65536) then some (.out (y5.1.fdiv (2 ^ min (16 : Int).toNat 64), IntKind.i64.wrap (y5.2 + 16))) else some (.out (y5.1, y5.2)) : Option (Step3 Unit (Int × Int) Int)) fun y6 =>
    andC (bif decide (y6.1 ≥ 256) then some (.out (y6.1.fdiv (2 ^ min (8 : Int).toNat 64), IntKind.i64.wrap (y6.2 + 8))) else some (.out (y6.1, y6.2)) : Option (Step3 Unit (Int × Int) Int)) fun y7 => lenE y7 := by kernel_rfl
theorem xze {n : Int} (h0 : 0 ≤ n) (h1 : n < 4294967296) : ∃ L : Nat, (iz8 n).o = some (L : Int) ∧ n < 2 ^ L ∧ L ≤ 32 := by
  rw [Szi, az5 (by omega), aza]
  have fin : ∀ (x : Int) (k : Nat), 0 ≤ x → x < 256 → k ≤ 24 → n < (x + 1) * 2 ^ k → ∃ L : Nat, lenE (x, (k : Int)) = some (L : Int) ∧ n < 2 ^ L ∧ L ≤ 32 := by
    intro x k x0 x1 hk hn
    obtain ⟨b, rfl⟩ : ∃ b : Nat, x = (b : Int) := ⟨x.toNat, by omega⟩
    have hb := Rz2 b (by omega)
    unfold lenE
    simp only
    rw [u8w (by omega) (by omega), azb ⟨by omega, by omega⟩, Int.toNat_natCast, w64 (x := ((lenT b : Nat) : Int)) (by omega) (by omega), w64 (by omega) (by omega)]
    refine ⟨k + lenT b, by rw [Int.natCast_add], ?_, by omega⟩
    have h2 : (((b + 1 : Nat) : Int)) * 2 ^ k ≤ 2 ^ lenT b * 2 ^ k := by
      refine Int.mul_le_mul_of_nonneg_right ?_ (Int.le_of_lt (bzh k))
      exact_mod_cast hb.1
    rw [Nat.add_comm, Int.pow_add]
    have h3 : ((b : Int) + 1) = ((b + 1 : Nat) : Int) := by omega
    rw [h3] at hn
    omega
  have s16 : ∀ x : Int, x.fdiv (2 ^ min (Int.toNat 16) 64) = x / 65536 := fun x => tz9 x 16
  have s8 : ∀ x : Int, x.fdiv (2 ^ min (Int.toNat 8) 64) = x / 256 := fun x => tz9 x 8
  have p24 : (2 : Int) ^ 24 = 16777216 := by decide
  have p16 : (2 : Int) ^ 16 = 65536 := by decide
  have p8 : (2 : Int) ^ 8 = 256 := by decide
  have e16 : IntKind.i64.wrap (0 + 16) = 16 := by decide
  have e8 : IntKind.i64.wrap (0 + 8) = 8 := by decide
  have e24 : IntKind.i64.wrap (16 + 8) = 24 := by decide
  by_cases c1 : n ≥ 65536
  · rw [az7 c1, aza, s16, e16]
    by_cases c2 : n / 65536 ≥ 256
    · rw [az7 c2, aza, s8, e24]; exact fin _ 24 (by omega) (by omega) (by omega) (by rw [p24]; omega)
    · rw [az5 c2, aza]; exact fin _ 16 (by omega) (by omega) (by omega) (by rw [p16]; omega)
  · rw [az5 c1, aza]
    by_cases c2 : n ≥ 256
    · rw [az7 c2, aza, s8, e8]; exact fin _ 8 (by omega) (by omega) (by omega) (by rw [p8]; omega)
    · rw [az5 c2, aza]; exact fin _ 0 (by omega) (by omega) (by omega) (by simp only [Int.pow_zero]; omega)
theorem Fzi {n : Int} (h0 : 1 ≤ n) (h1 : n < 4294967296) : ∃ s, (rzi n).o = some s ∧ IsRoot n s := by
  have e0 : (rzi n).o = (rzj n).run NN := rfl
  rw [e0]
  obtain ⟨L, l1, l2, l3⟩ := xze (n := n) (by omega) h1
  simp only [rzj, T.run]
  rw [az5 (by omega), u64w (x := n) (by omega) (by omega), l1, Option.bind_some, w64 (x := (L : Int) + 1) (by omega) (by omega), fza (by omega), w64 (x := ((L : Int) + 1) / 2) (by omega) (by omega), azb (by omega)]
  obtain ⟨W, hW⟩ : ∃ W : Nat, ((L : Int) + 1) / 2 = (W : Int) := ⟨(L + 1) / 2, by omega⟩
  rw [hW, Int.toNat_natCast, Nat.min_eq_left (by omega), Int.one_mul]
  have hw16 : W ≤ 16 := by omega
  have hpw : (2 : Int) ^ W ≤ 65536 := by
    have : (2 : Int) ^ W ≤ 2 ^ 16 := by exact_mod_cast Nat.pow_le_pow_right (by decide : 0 < 2) hw16
    have e : (2 : Int) ^ 16 = 65536 := by decide
    omega
  have hp0 := bzh W
  rw [u64w (x := 2 ^ W) (by omega) (by omega)]
  have hn4 : n < 2 ^ W * 2 ^ W := by
    rw [← Int.pow_add]
    have : (2 : Int) ^ L ≤ 2 ^ (W + W) := by exact_mod_cast Nat.pow_le_pow_right (by decide : 0 < 2) (show L ≤ W + W by omega)
    omega
  refine Lzu (β := Int) (g := fun s => some s) (P := fun s => IsRoot n s) (fun (y : Int × Int × Int) => ∃ k : Nat, y.2.2 = ((W - k : Nat) : Int) ∧ k ≤ W ∧ y.2.1 = 2 ^ k ∧ 0 ≤ y.1 ∧ y.1 ≤ 2 ^ W - 2 ^ k ∧ y.1 * y.1 ≤ n ∧ n < (y.1 + 2 ^ k) * (y.1 + 2 ^ k))
    (fun y => ((W : Int) - y.2.2).toNat) (fun s => IsRoot n s) ⟨W, by simp, Nat.le_refl _, rfl, by simp, by simp, by simp; omega, by simp only [Int.zero_add]; exact hn4⟩ (by show _ < 4294967296; simp only; omega) (fun y hy => ?_) (fun s hs => ⟨IntKind.i64.wrap s, rfl, ?_⟩)
  · obtain ⟨k, b1, b2, b3, b4, b5, b6, b7⟩ := hy
    rw [b1, b3]
    cases k with
    | zero =>
      right
      rw [az5 (by omega)]
      exact ⟨_, rfl, b4, b6, by simpa using b7⟩
    | succ k =>
      left
      have hk2 : (2 : Int) ^ (k + 1) = 2 * 2 ^ k := by rw [Int.pow_succ]; omega
      have hkp := bzh k
      rw [az7 (by omega), fza (by omega), show (2 : Int) ^ (k + 1) / 2 = 2 ^ k by omega, u64w (x := 2 ^ k) (by omega) (by omega), u64w (x := y.1 + 2 ^ k) (by omega) (by omega)]
      have hsq : (y.1 + 2 ^ k) * (y.1 + 2 ^ k) ≤ 65536 * 65536 := Int.mul_le_mul (by omega) (by omega) (by omega) (by omega)
      have hsq0 : 0 ≤ (y.1 + 2 ^ k) * (y.1 + 2 ^ k) := Int.mul_nonneg (by omega) (by omega)
      rw [u64w (x := (y.1 + 2 ^ k) * (y.1 + 2 ^ k)) hsq0 (by omega)]
      have hi : IntKind.i64.wrap (((W - (k + 1) : Nat) : Int) + 1) = ((W - k : Nat) : Int) := by rw [w64 (by omega) (by omega)]; omega
      rw [hi]
      by_cases hc : (y.1 + 2 ^ k) * (y.1 + 2 ^ k) ≤ n
      · rw [az7 hc, aza]
        exact ⟨_, rfl, ⟨k, rfl, by omega, rfl, by simp only; omega, by simp only; omega, hc, by simp only; rw [show y.1 + 2 ^ k + 2 ^ k = y.1 + 2 ^ (k + 1) by omega]; exact b7⟩, by simp only; omega⟩
      · rw [az5 hc, aza]
        exact ⟨_, rfl, ⟨k, rfl, by omega, rfl, b4, by simp only; omega, b6, by simp only; omega⟩, by simp only; omega⟩
  · obtain ⟨c1, c2, c3⟩ := hs
    have : s ≤ n := by
      by_cases hz : s = 0
      · omega
      · have : s * 1 ≤ s * s := Int.mul_le_mul_of_nonneg_left (by omega) c1
        omega
    rw [w64 (by omega) (by omega)]; exact ⟨c1, c2, c3⟩
noncomputable def szo (n : Int) : Int := (pzu n).o.getD 0
theorem Ezn {n : Int} (h0 : 1 ≤ n) (h1 : n < 4294967296) : IsRoot n (szo n) ∧ (pzu n).o = some (szo n) := by
  obtain ⟨s, e, h⟩ := Izg h0 (by omega)
  unfold szo; rw [e]; exact ⟨h, rfl⟩
theorem Rzb {n s : Int} (h0 : 1 ≤ n) (h : IsRoot n s) : s ≤ n := by
  obtain ⟨c1, c2, -⟩ := h
  by_cases hz : s = 0
  · omega
  · have : s * 1 ≤ s * s := Int.mul_le_mul_of_nonneg_left (by omega) c1
    omega
noncomputable def rupV (n : Int) : Int := if szo n * szo n < n then szo n + 1 else szo n
theorem Bzq {n : Int} (h0 : 1 ≤ n) (h1 : n < 4294967296) : (tzt n).o = some (rupV n) := by
  obtain ⟨s, e, h⟩ := Fzi h0 h1
  obtain ⟨k1, k2⟩ := Ezn h0 h1
  have es : s = szo n := h.uniq k1
  have sl := Rzb h0 k1
  obtain ⟨r1, r2, r3⟩ := k1
  show (nz7 n).run NN = _
  simp only [nz7, T.run, e, Option.bind_some, es, rupV]
  rw [w64 (x := szo n * szo n) (by have := Int.mul_nonneg r1 r1; omega) (by omega), w64 (x := szo n + 1) (by omega) (by omega)]
  by_cases hc : szo n * szo n < n
  · rw [az7 hc, if_pos hc, aza]
  · rw [az5 hc, if_neg hc, aza]
theorem Rzd {n : Int} (h0 : 1 ≤ n) (h1 : n < 4294967296) : 0 ≤ rupV n ∧ rupV n ≤ 65536 := by
  obtain ⟨⟨r1, r2, r3⟩, -⟩ := Ezn h0 h1
  have hb : szo n ≤ 65535 := by
    by_cases e : szo n ≤ 65535
    · exact e
    · have : 65536 * 65536 ≤ szo n * szo n := Int.mul_le_mul (by omega) (by omega) (by omega) (by omega)
      omega
  unfold rupV; split <;> omega
abbrev V3 := Int × Int × Int
def czf (n : V3) : Bool := !((n.1 == 0) && ((n.2.1 == 0) && ((n.2.2 == 0) && true))) && kz2 n 16384
def bey2 (x : Int) : Bool := decide (x < -16384) || decide (x > 16384)
theorem ozo (v : V3) : (izo v).o = some (kz2 v 16384) := by
  show (izp v).run NN = _
  simp only [izp, T.run, bz0, aza, dz9]
  refine (izl (fun i => sw (bey2 (([v.1, v.2.1, v.2.2] : List Int).getD i 0)) false) 3 (by decide) (fun j hj => ?_) ?_).trans ?_
  · rw [az7 (by omega), azb (by omega), wn (by omega), Int.toNat_natCast, ← ezh]; rfl
  · rw [az5 (by omega)]
  · rw [dzu]
    have : bzs (fun i => bey2 (([v.1, v.2.1, v.2.2] : List Int).getD i 0)) 3 = kz2 v 16384 := by
      rw [Bool.eq_iff_iff, noneB_iff, nearV_iff]
      constructor
      · intro h
        have a := h 0 (by decide); have b := h 1 (by decide); have c := h 2 (by decide)
        simp only [bey2, List.getD_cons_zero, List.getD_cons_succ, Bool.or_eq_false_iff, decide_eq_false_iff_not] at a b c
        omega
      · intro h i hi
        match i, hi with
        | 0, _ => simp only [bey2, List.getD_cons_zero, Bool.or_eq_false_iff, decide_eq_false_iff_not]; omega
        | 1, _ => simp only [bey2, List.getD_cons_zero, List.getD_cons_succ, Bool.or_eq_false_iff, decide_eq_false_iff_not]; omega
        | 2, _ => simp only [bey2, List.getD_cons_zero, List.getD_cons_succ, Bool.or_eq_false_iff, decide_eq_false_iff_not]; omega
    rw [this]; cases kz2 v 16384 <;> rfl
theorem dzj (n : V3) : (dzi n).o = some (czf n) := by
  show (kzc n).run NN = _
  simp only [kzc, T.run, ozo, Option.bind_some, czf]
  cases kz2 n 16384 <;> cases (n.1 == 0) && ((n.2.1 == 0) && ((n.2.2 == 0) && true)) <;> rfl
theorem Gzy {n : V3} (h : czf n = true) : ((-16384 ≤ n.1 ∧ n.1 ≤ 16384) ∧ (-16384 ≤ n.2.1 ∧ n.2.1 ≤ 16384) ∧ (-16384 ≤ n.2.2 ∧ n.2.2 ≤ 16384)) ∧ (n.1 ≠ 0 ∨ n.2.1 ≠ 0 ∨ n.2.2 ≠ 0) := by
  simp only [czf, Bool.and_eq_true, nearV_iff, Bool.not_eq_true', Bool.and_eq_false_iff, beq_eq_false_iff_ne, ne_eq, Bool.and_true] at h
  refine ⟨h.2, ?_⟩
  rcases h.1 with h | h | h
  · exact Or.inl h
  · exact Or.inr (Or.inl h)
  · exact Or.inr (Or.inr h)
theorem Rzo {x : Int} (h : -16384 ≤ x ∧ x ≤ 16384) : 0 ≤ x * x ∧ x * x ≤ 268435456 ∧ (x ≠ 0 → 1 ≤ x * x) := by
  have h1 : (x * x).natAbs ≤ 16384 * 16384 := by rw [Int.natAbs_mul]; exact Nat.mul_le_mul (by omega) (by omega)
  have h0 : 0 ≤ x * x := by
    by_cases hx : 0 ≤ x
    · exact Int.mul_nonneg hx hx
    · exact Int.mul_nonneg_of_nonpos_of_nonpos (by omega) (by omega)
  refine ⟨h0, by omega, fun hx => ?_⟩
  have : x * x ≠ 0 := Int.mul_ne_zero hx hx
  omega
def sqV (n : V3) : Int := n.1 * n.1 + n.2.1 * n.2.1 + n.2.2 * n.2.2
noncomputable def lzj (n : V3) : Int := if czf n then rupV (sqV n) else 0
theorem Nzm {n : V3} (h : czf n = true) : 1 ≤ sqV n ∧ sqV n < 4294967296 ∧ IntKind.i64.wrap (IntKind.i64.wrap (IntKind.i64.wrap (n.1 * n.1) + IntKind.i64.wrap (n.2.1 * n.2.1)) + IntKind.i64.wrap (n.2.2 * n.2.2)) = sqV n := by
  obtain ⟨⟨b1, b2, b3⟩, hz⟩ := Gzy h
  have s1 := Rzo b1; have s2 := Rzo b2; have s3 := Rzo b3
  unfold sqV
  rw [w64 (x := n.1 * n.1) (by omega) (by omega), w64 (x := n.2.1 * n.2.1) (by omega) (by omega), w64 (x := n.2.2 * n.2.2) (by omega) (by omega), w64 (x := n.1 * n.1 + n.2.1 * n.2.1) (by omega) (by omega), w64 (by omega) (by omega)]
  refine ⟨?_, by omega, rfl⟩
  rcases hz with h | h | h
  · have := s1.2.2 h; omega
  · have := s2.2.2 h; omega
  · have := s3.2.2 h; omega
theorem uze (n : V3) : (oz2 n).o = some (lzj n) := by
  show (oz3 n).run NN = _
  simp only [oz3, T.run, T.ix, dzj, Option.bind_some, lzj]
  cases h : czf n
  · rfl
  · have hs := Nzm h
    simp only [Bool.not_true, cond_false, if_true]
    rw [hs.2.2, Bzq hs.1 hs.2.1]; rfl
theorem Jzl (n : V3) : 0 ≤ lzj n ∧ lzj n ≤ 65536 := by
  unfold lzj; split
  · rename_i h; have hs := Nzm h; exact Rzd hs.1 hs.2.1
  · omega
end Go.Abs
