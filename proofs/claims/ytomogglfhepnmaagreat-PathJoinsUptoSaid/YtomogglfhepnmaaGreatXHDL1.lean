/-
  DL1 (a part of a claim: our own text).
-/
import Derived.Test.YtomogglfhepnmaaGreatXHPLib
import Derived.Test.YtomogglfhepnmaaGreatXHD3
import Derived.Lib.DecodeN
namespace Go.Abs
theorem bif_eq {α : Type} {a b : Int} {x y : α} (h : a = b) : (bif (a == b) then x else y) = x := bif_pos (by simpa using h)
theorem bif_ne {α : Type} {a b : Int} {x y : α} (h : a ≠ b) : (bif (a == b) then x else y) = y := bif_neg (by simpa using h)
theorem bif_neq {α : Type} {a b : Int} {x y : α} (h : a ≠ b) : (bif (a != b) then x else y) = x := bif_pos (by simpa using h)
theorem bif_nne {α : Type} {a b : Int} {x y : α} (h : a = b) : (bif (a != b) then x else y) = y := bif_neg (by simpa using h)
theorem wr (n : Int) : IntKind.i64.wrap n = (n + 9223372036854775808) % 18446744073709551616 - 9223372036854775808 := by
  show (if (true && decide (n % 18446744073709551616 ≥ 9223372036854775808)) = true then n % 18446744073709551616 - 18446744073709551616 else n % 18446744073709551616) = _
  by_cases h : n % 18446744073709551616 ≥ 9223372036854775808
  · rw [if_pos (by rw [decide_eq_true h]; rfl)]; omega
  · rw [if_neg (by rw [decide_eq_false h]; decide)]; omega
theorem wr_lo (n : Int) : -9223372036854775808 ≤ IntKind.i64.wrap n := by rw [wr]; omega
theorem wr_hi (n : Int) : IntKind.i64.wrap n ≤ 9223372036854775807 := by rw [wr]; omega
def InR (x : Int) : Prop := -9223372036854775808 ≤ x ∧ x ≤ 9223372036854775807
theorem InR.wr (n : Int) : InR (IntKind.i64.wrap n) := ⟨wr_lo n, wr_hi n⟩
theorem InR.w {x : Int} (h : InR x) : IntKind.i64.wrap x = x := w64 h.1 h.2
def cdiv (a b : Int) : Int := -((-a) / b)
theorem tdiv_pos {a b : Int} (ha : 0 ≤ a) : a.tdiv b = a / b := Int.tdiv_eq_ediv_of_nonneg ha
theorem tmod_pos {a b : Int} (ha : 0 ≤ a) : a.tmod b = a % b := Int.tmod_eq_emod_of_nonneg ha
theorem tdiv_negl (a b : Int) : (-a).tdiv b = -(a.tdiv b) := Int.neg_tdiv a b
theorem tmod_negl (a b : Int) : (-a).tmod b = -(a.tmod b) := Int.neg_tmod a b
theorem div_unique {a b q r : Int} (h0 : 0 ≤ r) (h1 : r < b) (h : a = b * q + r) : a / b = q := by
  subst h
  rw [Int.mul_add_ediv_left _ _ (by omega : b ≠ 0), Int.ediv_eq_zero_of_lt h0 h1]; omega
theorem floor_t {a b : Int} (hb : 0 < b) : (if a.tmod b < 0 then a.tdiv b - 1 else a.tdiv b) = a / b := by
  have h1 := Int.mul_tdiv_add_tmod a b
  have h2 := Int.tmod_lt_of_pos a hb
  have h3 := Int.lt_tmod_of_pos a hb
  split
  · symm; exact div_unique (r := a.tmod b + b) (by omega) (by omega) (by rw [Int.mul_sub]; omega)
  · symm; exact div_unique (r := a.tmod b) (by omega) (by omega) (by omega)
theorem ceil_t {a b : Int} (hb : 0 < b) : (if a.tmod b > 0 then a.tdiv b + 1 else a.tdiv b) = cdiv a b := by
  have := floor_t (a := -a) hb
  rw [tmod_negl, tdiv_negl] at this
  unfold cdiv
  rw [← this]
  split
  · rw [if_pos (by omega)]; omega
  · rw [if_neg (by omega)]; omega
theorem div_lo {a b : Int} (hb : 0 < b) : b * (a / b) ≤ a := Int.mul_ediv_self_le (by omega)
theorem div_hi {a b : Int} (hb : 0 < b) : a < b * (a / b) + b := Int.lt_mul_ediv_self_add hb
theorem div_bd {a b : Int} (hb : 0 < b) : (0 ≤ a → 0 ≤ a / b ∧ a / b ≤ a) ∧ (a < 0 → a ≤ a / b ∧ a / b < 0) := by
  refine ⟨fun h => ⟨Int.ediv_nonneg h (by omega), Int.ediv_le_self _ h⟩, fun h => ⟨?_, Int.ediv_neg_of_neg_of_pos h hb⟩⟩
  have h1 := div_hi (a := a) hb
  have h2 : a / b < 0 := Int.ediv_neg_of_neg_of_pos h hb
  by_cases hc : a ≤ a / b
  · exact hc
  · exfalso
    have h3 : a / b + 1 ≤ a := by omega
    have h4 : b * (a / b) + b = b * (a / b + 1) := by rw [Int.mul_add]; omega
    have h5 : b * (a / b + 1) ≤ 1 * (a / b + 1) := Int.mul_le_mul_of_nonpos_right (by omega) (by omega)
    omega
theorem cdiv_bd {a b : Int} (hb : 0 < b) : (0 < a → 0 < cdiv a b ∧ cdiv a b ≤ a) ∧ (a ≤ 0 → a ≤ cdiv a b ∧ cdiv a b ≤ 0) := by
  have := div_bd (a := -a) hb
  unfold cdiv
  exact ⟨fun h => by have := this.2 (by omega); omega, fun h => by have := this.1 (by omega); omega⟩
theorem InR.cdiv {a b : Int} (h : InR a) (hb : 0 < b) : InR (Go.Abs.cdiv a b) := by
  have := cdiv_bd (a := a) hb
  obtain ⟨h1, h2⟩ := h
  by_cases h0 : 0 < a
  · have := this.1 h0; exact ⟨by omega, by omega⟩
  · have := this.2 (by omega); exact ⟨by omega, by omega⟩
theorem tdiv_bd {a b : Int} (hb : 0 < b) : (0 ≤ a → 0 ≤ a.tdiv b ∧ a.tdiv b ≤ a) ∧ (a ≤ 0 → a ≤ a.tdiv b ∧ a.tdiv b ≤ 0) := by
  refine ⟨fun h => ?_, fun h => ?_⟩
  · rw [tdiv_pos h]; exact (div_bd hb).1 h
  · have h1 := (div_bd (a := -a) hb).1 (by omega)
    rw [← tdiv_pos (by omega), tdiv_negl] at h1
    omega
theorem InR.tdiv {a b : Int} (h : InR a) (hb : 0 < b) : InR (a.tdiv b) := by
  have := tdiv_bd (a := a) hb
  obtain ⟨h1, h2⟩ := h
  by_cases h0 : 0 ≤ a
  · have := this.1 h0; exact ⟨by omega, by omega⟩
  · have := this.2 (by omega); exact ⟨by omega, by omega⟩
theorem ceilW {a b : Int} (ha : InR a) (hb : 0 < b) : (bif decide (a.tmod b > 0) then IntKind.i64.wrap (IntKind.i64.wrap (a.tdiv b) + 1) else IntKind.i64.wrap (a.tdiv b)) = cdiv a b := by
  rw [(ha.tdiv hb).w, ← ceil_t hb, cond_eq_ite]
  simp only [decide_eq_true_eq]
  split
  · rename_i h
    have := ha.cdiv hb
    rw [← ceil_t hb, if_pos h] at this
    exact this.w
  · rfl
theorem cdiv_spec {a b q : Int} (hb : 0 < b) : cdiv a b = q ↔ a ≤ b * q ∧ b * q < a + b := by
  unfold cdiv
  have h1 := div_lo (a := -a) hb
  have h2 := div_hi (a := -a) hb
  constructor
  · intro h
    have : b * q = -(b * (-a / b)) := by rw [← h, Int.mul_neg]
    omega
  · intro h
    have : -a / b = -q := div_unique (r := b * q - a) (by omega) (by omega) (by rw [Int.mul_neg]; omega)
    omega
def scan {R : Type} (g : Nat → Option R) : Nat → Nat → Option R
  | 0, _ => none
  | n + 1, i => match g i with
    | some r => some r
    | none => scan g n (i + 1)
theorem scan_none {R : Type} {g : Nat → Option R} : ∀ (n i : Nat), scan g n i = none ↔ ∀ j, i ≤ j → j < i + n → g j = none
  | 0, i => by simp only [scan, true_iff]; intro j h1 h2; omega
  | n + 1, i => by
    simp only [scan]
    constructor
    · intro h
      split at h
      · cases h
      · rename_i h0
        intro j h1 h2
        by_cases e : j = i
        · subst e; exact h0
        · exact (scan_none n (i + 1)).1 h j (by omega) (by omega)
    · intro h
      rw [h i (by omega) (by omega)]
      exact (scan_none n (i + 1)).2 fun j h1 h2 => h j (by omega) (by omega)
theorem scan_some {R : Type} {g : Nat → Option R} {r : R} : ∀ (n i : Nat), scan g n i = some r → ∃ j, i ≤ j ∧ j < i + n ∧ g j = some r ∧ ∀ k, i ≤ k → k < j → g k = none
  | 0, i, h => by cases h
  | n + 1, i, h => by
    simp only [scan] at h
    split at h
    · rename_i h0; cases h; exact ⟨i, by omega, by omega, h0, fun k h1 h2 => by omega⟩
    · rename_i h0
      obtain ⟨j, h1, h2, h3, h4⟩ := scan_some n (i + 1) h
      refine ⟨j, by omega, by omega, h3, fun k h5 h6 => ?_⟩
      by_cases e : k = i
      · subst e; exact h0
      · exact h4 k (by omega) h6
theorem iter_scan {σ τ R : Type} {f : σ → Option (Step3 σ τ R)} (st : Nat → σ) (g : Nat → Option R) (y : τ) :
    ∀ (n i N : Nat), n < N → (∀ j, i ≤ j → j < i + n → f (st j) = match g j with | some r => some (.fin r) | none => some (.next (st (j + 1)))) → f (st (i + n)) = some (.out y) →
      iter f N (st i) = some (match scan g n i with | some r => .inr r | none => .inl y)
  | 0, i, 0, h, _, _ => by omega
  | 0, i, N + 1, _, _, h => by simp only [Nat.add_zero] at h; simp [iter, h, scan]
  | n + 1, i, 0, h, _, _ => by omega
  | n + 1, i, N + 1, h0, hs, he => by
    have h1 := hs i (by omega) (by omega)
    simp only [scan]
    cases hg : g i with
    | some r => rw [hg] at h1; simp [iter, h1]
    | none =>
      rw [hg] at h1
      simp only [iter, h1]
      exact iter_scan st g y n (i + 1) N (by omega) (fun j a b => hs j (by omega) (by omega)) (by rw [← he]; congr 2; omega)
theorem loop_scan {σ τ R : Type} {f : σ → Option (Step3 σ τ R)} {k : τ → Option R} {x : σ} (st : Nat → σ) (g : Nat → Option R) (y : τ) (n : Nat) (hx : x = st 0) (hn : n < NN)
    (hs : ∀ j, j < n → f (st j) = match g j with | some r => some (.fin r) | none => some (.next (st (j + 1)))) (he : f (st n) = some (.out y)) :
    andK (iter f NN x) k = match scan g n 0 with | some r => some r | none => k y := by
  rw [hx, iter_scan st g y n 0 NN hn (fun j _ h => hs j (by omega)) (by rw [Nat.zero_add]; exact he)]
  cases scan g n 0 <;> rfl
theorem loop_to {σ τ R : Type} {f : σ → Option (Step3 σ τ R)} {k : τ → Option R} {x : σ} (st : Nat → σ) (y : τ) (n : Nat) (hx : x = st 0) (hn : n < NN)
    (hs : ∀ j, j < n → f (st j) = some (.next (st (j + 1)))) (he : f (st n) = some (.out y)) : andK (iter f NN x) k = k y := by
  rw [hx, andK_inl (iter_out st rfl n hn hs he)]
theorem grd_p {R : Type} {p : Prop} [Decidable p] {k : Option R} (h : p) : grd p k = k := by unfold grd; simp [h]
theorem bif_some {α : Type} {b : Bool} {x y : α} : (bif b then some x else some y) = some (bif b then x else y) := by cases b <;> rfl
theorem bif_out {σ τ R : Type} {b : Bool} {x y : τ} : (bif b then some (Step3.out x) else some (Step3.out y) : Option (Step3 σ τ R)) = some (.out (bif b then x else y)) := by cases b <;> rfl
theorem bif_tb {b c : Bool} : (bif b then true else c) = (b || c) := by cases b <;> rfl
theorem bif_bf {b c : Bool} : (bif b then c else false) = (b && c) := by cases b <;> rfl
theorem ref1_Ceil_e {a b : Int} (ha : InR a) (hb : 0 < b) : (ref1_Ceil_C a b).o = some (cdiv a b) := by
  show (ref1_Ceil_T a b).run NN = _
  have h0 : b ≠ 0 := by omega
  simp only [ref1_Ceil_T, T.run, grd_p h0, bif_out, andC_out]
  exact congrArg some (ceilW ha hb)
theorem two_pow_pos (k : Nat) : (0 : Int) < 2 ^ k := Int.pow_pos (by omega)
theorem fdiv_pow (a : Int) (k : Nat) : a.fdiv (2 ^ k) = a / 2 ^ k := Int.fdiv_eq_ediv_of_nonneg _ (Int.le_of_lt (two_pow_pos k))
theorem fixed_ShiftDown_e (a : Int) (k : Nat) (hk : k ≤ 64) : (fixed_ShiftDown_C a (k : Int)).o = some (a / 2 ^ k) := by
  show (fixed_ShiftDown_T a (k : Int)).run NN = _
  simp only [fixed_ShiftDown_T, T.run]
  rw [bif_dneg (by omega), grd_p (by omega), Int.toNat_natCast, Nat.min_eq_left hk, fdiv_pow]
theorem up_w {a b : Int} (ha : InR a) (hb : 0 < b) (hlo : InR (b * (a / b))) : (bif (IntKind.i64.wrap (a / b * b) != a) then IntKind.i64.wrap (a / b + 1) else a / b) = cdiv a b := by
  rw [Int.mul_comm, hlo.w]
  have h1 := div_lo (a := a) hb
  have h2 := div_hi (a := a) hb
  symm
  rw [cdiv_spec hb]
  by_cases e : b * (a / b) = a
  · rw [bif_nne e]; omega
  · rw [bif_neq e]
    have : IntKind.i64.wrap (a / b + 1) = a / b + 1 := by
      have h3 := ha.cdiv hb
      have : cdiv a b = a / b + 1 := by rw [cdiv_spec hb, Int.mul_add]; omega
      rw [this] at h3; exact h3.w
    rw [this, Int.mul_add]; omega
theorem pow_in {a : Int} {k : Nat} (hk : k ≤ 63) (ha : InR a) : InR (2 ^ k * (a / 2 ^ k)) := by
  have hp := two_pow_pos k
  have h1 := div_lo (a := a) hp
  obtain ⟨h3, h4⟩ := ha
  have h5 : -(2 ^ (63 - k)) ≤ a / 2 ^ k := by
    rw [Int.le_ediv_iff_mul_le hp, Int.neg_mul, ← Int.pow_add, Nat.sub_add_cancel hk]
    have : (2 : Int) ^ 63 = 9223372036854775808 := by decide
    omega
  have h6 : 2 ^ k * -(2 : Int) ^ (63 - k) ≤ 2 ^ k * (a / 2 ^ k) := Int.mul_le_mul_of_nonneg_left h5 (by omega)
  rw [Int.mul_neg, ← Int.pow_add, Nat.add_sub_cancel' hk] at h6
  have : (2 : Int) ^ 63 = 9223372036854775808 := by decide
  exact ⟨by omega, by omega⟩
theorem fixed_ShiftUp_e {a : Int} (k : Nat) (hk : k ≤ 63) (ha : InR a) : (fixed_ShiftUp_C a (k : Int)).o = some (cdiv a (2 ^ k)) := by
  show (fixed_ShiftUp_T a (k : Int)).run NN = _
  simp only [fixed_ShiftUp_T, T.run]
  rw [bif_dneg (by omega), grd_p (by omega), grd_p (by omega), Int.toNat_natCast, Nat.min_eq_left (by omega), fdiv_pow, bif_out, andC_out, up_w ha (two_pow_pos k) (pow_in hk ha)]
theorem sd16 (a : Int) : (fixed_ShiftDown_C a 16).o = some (a / 65536) := fixed_ShiftDown_e a 16 (by decide)
theorem sd30 (a : Int) : (fixed_ShiftDown_C a 30).o = some (a / 1073741824) := fixed_ShiftDown_e a 30 (by decide)
theorem sd14 (a : Int) : (fixed_ShiftDown_C a 14).o = some (a / 16384) := fixed_ShiftDown_e a 14 (by decide)
theorem su16 {a : Int} (h : InR a) : (fixed_ShiftUp_C a 16).o = some (cdiv a 65536) := fixed_ShiftUp_e 16 (by decide) h
theorem su30 {a : Int} (h : InR a) : (fixed_ShiftUp_C a 30).o = some (cdiv a 1073741824) := fixed_ShiftUp_e 30 (by decide) h
theorem su14 {a : Int} (h : InR a) : (fixed_ShiftUp_C a 14).o = some (cdiv a 16384) := fixed_ShiftUp_e 14 (by decide) h
def clV (x : Int) : Int := max (-2147483648) (min x 2147483648)
def vV (a : S_Interval) : Bool := decide (-2147483648 ≤ a.Lo) && (decide (a.Lo ≤ a.Hi) && decide (a.Hi ≤ 2147483648))
theorem vV_iff {a : S_Interval} : vV a = true ↔ -2147483648 ≤ a.Lo ∧ a.Lo ≤ a.Hi ∧ a.Hi ≤ 2147483648 := by simp [vV]
def iz : S_Interval := ⟨0, 0⟩
def limV (lo hi : Int) : S_Interval := ⟨clV lo, clV hi⟩
def addV (a b : S_Interval) : S_Interval := if vV a && vV b then limV (a.Lo + b.Lo) (a.Hi + b.Hi) else iz
def negV (a : S_Interval) : S_Interval := if vV a then ⟨-a.Hi, -a.Lo⟩ else iz
def mulLo (a b : S_Interval) : Int := min (min (min (a.Lo * b.Lo) (a.Lo * b.Hi)) (a.Hi * b.Lo)) (a.Hi * b.Hi)
def mulHi (a b : S_Interval) : Int := max (max (max (a.Lo * b.Lo) (a.Lo * b.Hi)) (a.Hi * b.Lo)) (a.Hi * b.Hi)
def mulV (a b : S_Interval) : S_Interval := if vV a && vV b then limV (mulLo a b / 65536) (cdiv (mulHi a b) 65536) else iz
def hullV (a b : S_Interval) : S_Interval := if vV a && vV b then ⟨min a.Lo b.Lo, max a.Hi b.Hi⟩ else iz
def ofV (x : Int) : S_Interval := ⟨clV x, clV x⟩
def midV (a : S_Interval) : Int := if vV a then (a.Lo + a.Hi) / 2 else 0
theorem fixed_Clamp_e (a : Int) : (fixed_Clamp_C a).o = some (clV a) := by
  show (fixed_Clamp_T a).run NN = _
  simp only [fixed_Clamp_T, T.run, clV, Option.some.injEq]; omega
theorem interval_Valid_e (a : S_Interval) : (interval_Valid_C a).o = some (vV a) := by
  show (interval_Valid_T a).run NN = _
  simp only [interval_Valid_T, T.run, vV, bif_some, bif_bf]
theorem interval_valid_e (a b : S_Interval) : (interval_valid_C a b).o = some (vV a && vV b) := by
  show (interval_valid_T a b).run NN = _
  simp only [interval_valid_T, T.run, interval_Valid_e, Option.bind_some, bif_some, bif_bf]
theorem interval_limited_e (a b : Int) : (interval_limited_C a b).o = some (limV a b) := by
  show (interval_limited_T a b).run NN = _
  simp only [interval_limited_T, T.run, fixed_Clamp_e, Option.bind_some, limV]
theorem interval_Of_e (a : Int) : (interval_Of_C a).o = some (ofV a) := by
  show (interval_Of_T a).run NN = _
  simp only [interval_Of_T, T.run, interval_limited_e, Option.bind_some, limV, ofV]
theorem wsum {a b : Int} (ha : -2147483648 ≤ a ∧ a ≤ 2147483648) (hb : -2147483648 ≤ b ∧ b ≤ 2147483648) : IntKind.i64.wrap (a + b) = a + b := w64 (by omega) (by omega)
theorem wmul {a b : Int} (ha : -2147483648 ≤ a ∧ a ≤ 2147483648) (hb : -2147483648 ≤ b ∧ b ≤ 2147483648) : IntKind.i64.wrap (a * b) = a * b ∧ -4611686018427387904 ≤ a * b ∧ a * b ≤ 4611686018427387904 := by
  have h : -4611686018427387904 ≤ a * b ∧ a * b ≤ 4611686018427387904 := by
    have h1 : (a * b).natAbs ≤ 2147483648 * 2147483648 := by rw [Int.natAbs_mul]; exact Nat.mul_le_mul (by omega) (by omega)
    omega
  exact ⟨w64 (by omega) (by omega), h⟩
theorem interval_Add_e (a b : S_Interval) : (interval_Add_C a b).o = some (addV a b) := by
  show (interval_Add_T a b).run NN = _
  simp only [interval_Add_T, T.run, interval_valid_e, interval_limited_e, Option.bind_some, bif_some, addV]
  cases h : vV a && vV b
  · rfl
  · simp only [Bool.and_eq_true, vV_iff] at h
    rw [wsum ⟨by omega, by omega⟩ ⟨by omega, by omega⟩, wsum ⟨by omega, by omega⟩ ⟨by omega, by omega⟩]; rfl
theorem interval_Neg_e (a : S_Interval) : (interval_Neg_C a).o = some (negV a) := by
  show (interval_Neg_T a).run NN = _
  simp only [interval_Neg_T, T.run, interval_Valid_e, Option.bind_some, bif_some, negV]
  cases h : vV a
  · rfl
  · simp only [vV_iff] at h
    rw [w64 (x := 0 - a.Hi) (by omega) (by omega), w64 (x := 0 - a.Lo) (by omega) (by omega)]
    simp
theorem interval_Hull_e (a b : S_Interval) : (interval_Hull_C a b).o = some (hullV a b) := by
  show (interval_Hull_T a b).run NN = _
  simp only [interval_Hull_T, T.run, interval_valid_e, Option.bind_some, bif_some, hullV]
  cases h : vV a && vV b <;> rfl
theorem interval_Width_e (a : S_Interval) (h : vV a = true) : (interval_Width_C a).o = some (a.Hi - a.Lo) := by
  show (interval_Width_T a).run NN = _
  simp only [interval_Width_T, T.run, interval_Valid_e, Option.bind_some, bif_some, h]
  simp only [vV_iff] at h
  rw [w64 (by omega) (by omega)]; rfl
theorem interval_Has_e (a : S_Interval) (x : Int) : (interval_Has_C a x).o = some (vV a && (decide (a.Lo ≤ x) && decide (x ≤ a.Hi))) := by
  show (interval_Has_T a x).run NN = _
  simp only [interval_Has_T, T.run, interval_Valid_e, Option.bind_some, bif_some, bif_bf]
theorem interval_scaled_e {a b : Int} (hb : InR b) : (interval_scaled_C a b).o = some (limV (a / 65536) (cdiv b 65536)) := by
  show (interval_scaled_T a b).run NN = _
  simp only [interval_scaled_T, T.run, sd16, su16 hb, interval_limited_e, Option.bind_some]
theorem mul_bd {a b : S_Interval} (ha : vV a = true) (hb : vV b = true) : InR (mulLo a b) ∧ InR (mulHi a b) ∧ mulLo a b ≤ mulHi a b := by
  simp only [vV_iff] at ha hb
  obtain ⟨-, p1, p2⟩ := wmul (a := a.Lo) (b := b.Lo) ⟨by omega, by omega⟩ ⟨by omega, by omega⟩
  obtain ⟨-, q1, q2⟩ := wmul (a := a.Lo) (b := b.Hi) ⟨by omega, by omega⟩ ⟨by omega, by omega⟩
  obtain ⟨-, r1, r2⟩ := wmul (a := a.Hi) (b := b.Lo) ⟨by omega, by omega⟩ ⟨by omega, by omega⟩
  obtain ⟨-, s1, s2⟩ := wmul (a := a.Hi) (b := b.Hi) ⟨by omega, by omega⟩ ⟨by omega, by omega⟩
  unfold mulLo mulHi InR
  generalize a.Lo * b.Lo = p at *
  generalize a.Lo * b.Hi = q at *
  generalize a.Hi * b.Lo = r at *
  generalize a.Hi * b.Hi = s at *
  omega
theorem interval_Mul_e (a b : S_Interval) : (interval_Mul_C a b).o = some (mulV a b) := by
  show (interval_Mul_T a b).run NN = _
  simp only [interval_Mul_T, T.run, interval_valid_e, Option.bind_some, mulV]
  cases h : vV a && vV b
  · rfl
  · simp only [Bool.and_eq_true] at h
    have hm := mul_bd h.1 h.2
    simp only [vV_iff] at h
    rw [(wmul (a := a.Lo) (b := b.Lo) ⟨by omega, by omega⟩ ⟨by omega, by omega⟩).1, (wmul (a := a.Lo) (b := b.Hi) ⟨by omega, by omega⟩ ⟨by omega, by omega⟩).1,
        (wmul (a := a.Hi) (b := b.Lo) ⟨by omega, by omega⟩ ⟨by omega, by omega⟩).1, (wmul (a := a.Hi) (b := b.Hi) ⟨by omega, by omega⟩ ⟨by omega, by omega⟩).1]
    simp only [Bool.not_true, cond_false]
    refine Eq.trans (loop_to (fun i => match i with
      | 0 => (a.Lo * b.Lo, a.Lo * b.Lo, 0)
      | 1 => (a.Lo * b.Lo, a.Lo * b.Lo, 1)
      | 2 => (min (a.Lo * b.Lo) (a.Lo * b.Hi), max (a.Lo * b.Lo) (a.Lo * b.Hi), 2)
      | 3 => (min (min (a.Lo * b.Lo) (a.Lo * b.Hi)) (a.Hi * b.Lo), max (max (a.Lo * b.Lo) (a.Lo * b.Hi)) (a.Hi * b.Lo), 3)
      | _ => (mulLo a b, mulHi a b, 4)) (mulLo a b, mulHi a b) 4 rfl (by decide) ?_ ?_) ?_
    · intro j hj
      match j, hj with
      | 0, _ => simp [grd_p, IntKind.wrap, IntKind.bits, IntKind.signed]
      | 1, _ => simp [grd_p, IntKind.wrap, IntKind.bits, IntKind.signed]
      | 2, _ => simp [grd_p, IntKind.wrap, IntKind.bits, IntKind.signed]
      | 3, _ => simp [grd_p, IntKind.wrap, IntKind.bits, IntKind.signed, mulLo, mulHi]
    · rfl
    · rw [interval_scaled_e hm.2.1]; rfl
def pd1 (x : Int) : Int := IntKind.i64.wrap (x * 6746518852) / 65536
def pu1 (x : Int) : Int := cdiv (IntKind.i64.wrap (x * 6746518853)) 65536
def pd (x : Int) : Nat → Int
  | 0 => pd1 x
  | k + 1 => IntKind.i64.wrap (pd x k * pd1 x) / 1073741824
def pu (x : Int) : Nat → Int
  | 0 => pu1 x
  | k + 1 => cdiv (IntKind.i64.wrap (pu x k * pu1 x)) 1073741824
theorem angle_powersOf_e (x : Int) : (angle_powersOf_C x).o = some ((1073741824, pd x 0, pd x 1, pd x 2, pd x 3, pd x 4, pd x 5, pd x 6, pd x 7, pd x 8, pd x 9), (1073741824, pu x 0, pu x 1, pu x 2, pu x 3, pu x 4, pu x 5, pu x 6, pu x 7, pu x 8, pu x 9)) := by
  show (angle_powersOf_T x).run NN = _
  simp only [angle_powersOf_T, T.run, sd16, su16 (InR.wr _), sd30, su30 (InR.wr _), Option.bind_some, pd, pu, pd1, pu1]
theorem pd1_bd {x : Int} (h0 : 0 ≤ x) (h1 : x ≤ 8192) : 0 ≤ pd1 x ∧ pd1 x ≤ 1073741824 := by
  unfold pd1; rw [w64 (by omega) (by omega)]; omega
theorem pu1_bd {x : Int} (h0 : 0 ≤ x) (h1 : x ≤ 8192) : 0 ≤ pu1 x ∧ pu1 x ≤ 1073741824 := by
  unfold pu1 cdiv; rw [w64 (by omega) (by omega)]; omega
theorem prod_bd {a b : Int} (ha : 0 ≤ a ∧ a ≤ 1073741824) (hb : 0 ≤ b ∧ b ≤ 1073741824) : 0 ≤ a * b ∧ a * b ≤ 1152921504606846976 := by
  refine ⟨Int.mul_nonneg ha.1 hb.1, ?_⟩
  have := Int.mul_le_mul ha.2 hb.2 hb.1 (by omega : (0 : Int) ≤ 1073741824)
  omega
theorem pd_bd {x : Int} (h0 : 0 ≤ x) (h1 : x ≤ 8192) : ∀ k, 0 ≤ pd x k ∧ pd x k ≤ 1073741824
  | 0 => pd1_bd h0 h1
  | k + 1 => by
    have := prod_bd (pd_bd h0 h1 k) (pd1_bd h0 h1)
    simp only [pd]
    generalize pd x k * pd1 x = y at this ⊢
    rw [w64 (by omega) (by omega)]; omega
theorem pu_bd {x : Int} (h0 : 0 ≤ x) (h1 : x ≤ 8192) : ∀ k, 0 ≤ pu x k ∧ pu x k ≤ 1073741824
  | 0 => pu1_bd h0 h1
  | k + 1 => by
    have := prod_bd (pu_bd h0 h1 k) (pu1_bd h0 h1)
    simp only [pu]
    generalize pu x k * pu1 x = y at this ⊢
    rw [w64 (by omega) (by omega)]; unfold cdiv; omega
theorem angle_ceiling_e {n d : Int} (h0 : 0 ≤ n) (h1 : n ≤ 1073741824) (h2 : 0 < d) (h3 : d ≤ 1073741824) : (angle_ceiling_C n d).o = some (cdiv n d) := by
  show (angle_ceiling_T n d).run NN = _
  simp only [angle_ceiling_T, T.run]
  rw [grd_p (by omega), w64 (x := n + d) (by omega) (by omega), w64 (x := n + d - 1) (by omega) (by omega), tdiv_pos (by omega)]
  have h4 := div_lo (a := n + d - 1) h2
  have h5 := div_hi (a := n + d - 1) h2
  have h6 := (div_bd (a := n + d - 1) h2).1 (by omega)
  rw [w64 (by omega) (by omega)]
  congr 1; symm
  rw [cdiv_spec h2]; omega
def alt (l : List Int) : Nat → Int × Int
  | 0 => (0, 1)
  | k + 1 => (IntKind.i64.wrap ((alt l k).1 + IntKind.i64.wrap ((alt l k).2 * l.getD k default)), IntKind.i64.wrap (0 - (alt l k).2))
theorem angle_alternating_e (l : List Int) (h : l.length < 4294967296) : (angle_alternating_C l).o = some (alt l l.length).1 := by
  show (angle_alternating_T l).run NN = _
  simp only [angle_alternating_T, T.run]
  refine Eq.trans (loop_to (fun i => ((alt l i).1, (alt l i).2, (i : Int))) (alt l l.length).1 l.length rfl h ?_ ?_) rfl
  · intro j hj
    rw [bif_dpos (by simpa using hj), grd_p ⟨by simp, by simpa using hj⟩]
    simp only [alt, w64n (show j < 9223372036854775807 by omega), Int.toNat_natCast]
  · rw [bif_dneg (by simp)]
theorem alt4 {a b c d : Int} (ha : 0 ≤ a ∧ a ≤ 1073741824) (hb : 0 ≤ b ∧ b ≤ 1073741824) (hc : 0 ≤ c ∧ c ≤ 1073741824) (hd : 0 ≤ d ∧ d ≤ 1073741824) : (angle_alternating_C [a, b, c, d]).o = some (a - b + c - d) := by
  rw [angle_alternating_e _ (by simp)]
  simp [alt, wr]; omega
theorem alt5 {a b c d e : Int} (ha : 0 ≤ a ∧ a ≤ 1073741824) (hb : 0 ≤ b ∧ b ≤ 1073741824) (hc : 0 ≤ c ∧ c ≤ 1073741824) (hd : 0 ≤ d ∧ d ≤ 1073741824) (he : 0 ≤ e ∧ e ≤ 1073741824) : (angle_alternating_C [a, b, c, d, e]).o = some (a - b + c - d + e) := by
  rw [angle_alternating_e _ (by simp)]
  simp [alt, wr]; omega
theorem alt6 {a b c d e f : Int} (ha : 0 ≤ a ∧ a ≤ 1073741824) (hb : 0 ≤ b ∧ b ≤ 1073741824) (hc : 0 ≤ c ∧ c ≤ 1073741824) (hd : 0 ≤ d ∧ d ≤ 1073741824) (he : 0 ≤ e ∧ e ≤ 1073741824) (hf : 0 ≤ f ∧ f ≤ 1073741824) : (angle_alternating_C [a, b, c, d, e, f]).o = some (a - b + c - d + e - f) := by
  rw [angle_alternating_e _ (by simp)]
  simp [alt, wr]; omega
def encV (lo hi : Int) : S_Interval := ⟨max 0 (lo / 16384), min 65536 (cdiv hi 16384)⟩
theorem angle_enclosure_e {a b : Int} (hb : InR b) : (angle_enclosure_C a b).o = some (encV a b) := by
  show (angle_enclosure_T a b).run NN = _
  simp only [angle_enclosure_T, T.run, sd14, su14 hb, Option.bind_some, encV]
def sLo (x : Int) : Int := pd x 0 - cdiv (pu x 2) 6 + pd x 4 / 120 - cdiv (pu x 6) 5040
def sHi (x : Int) : Int := pu x 0 - pd x 2 / 6 + cdiv (pu x 4) 120 - pd x 6 / 5040 + cdiv (pu x 8) 362880
def cLo (x : Int) : Int := 1073741824 - cdiv (pu x 1) 2 + pd x 3 / 24 - cdiv (pu x 5) 720 + pd x 7 / 40320 - cdiv (pu x 9) 3628800
def cHi (x : Int) : Int := 1073741824 - pd x 1 / 2 + cdiv (pu x 3) 24 - pd x 5 / 720 + cdiv (pu x 7) 40320
theorem q_bd {a b : Int} (ha : 0 ≤ a ∧ a ≤ 1073741824) (hb : 0 < b) : 0 ≤ a / b ∧ a / b ≤ 1073741824 := by
  have := (div_bd (a := a) hb).1 ha.1; omega
theorem c_bd {a b : Int} (ha : 0 ≤ a ∧ a ≤ 1073741824) (hb : 0 < b) : 0 ≤ cdiv a b ∧ cdiv a b ≤ 1073741824 := by
  have h := cdiv_bd (a := a) hb
  by_cases h0 : a = 0
  · have := h.2 (by omega); omega
  · have := h.1 (by omega); omega
theorem wq {a b : Int} (ha : 0 ≤ a ∧ a ≤ 1073741824) (hb : 0 < b) : IntKind.i64.wrap (a.tdiv b) = a / b := by
  rw [tdiv_pos ha.1]; have := q_bd ha hb; exact w64 (by omega) (by omega)
section
variable {x : Int} (h0 : 0 ≤ x) (h1 : x ≤ 8192)
include h0 h1
theorem angle_sine_e : (angle_sine_C x).o = some (encV (sLo x) (sHi x)) := by
  have P := pd_bd h0 h1
  have U := pu_bd h0 h1
  show (angle_sine_T x).run NN = _
  simp only [angle_sine_T, T.run, T.ix, angle_powersOf_e, Option.bind_some, angle_ceiling_e (U 2).1 (U 2).2 (show (0 : Int) < 6 by decide) (by decide), angle_ceiling_e (U 6).1 (U 6).2 (show (0 : Int) < 5040 by decide) (by decide),
    angle_ceiling_e (U 4).1 (U 4).2 (show (0 : Int) < 120 by decide) (by decide), angle_ceiling_e (U 8).1 (U 8).2 (show (0 : Int) < 362880 by decide) (by decide), wq (P 4) (show (0 : Int) < 120 by decide), wq (P 2) (show (0 : Int) < 6 by decide), wq (P 6) (show (0 : Int) < 5040 by decide),
    alt4 (P 0) (c_bd (U 2) (show (0 : Int) < 6 by decide)) (q_bd (P 4) (show (0 : Int) < 120 by decide)) (c_bd (U 6) (show (0 : Int) < 5040 by decide)),
    alt5 (U 0) (q_bd (P 2) (show (0 : Int) < 6 by decide)) (c_bd (U 4) (show (0 : Int) < 120 by decide)) (q_bd (P 6) (show (0 : Int) < 5040 by decide)) (c_bd (U 8) (show (0 : Int) < 362880 by decide))]
  have a0 := U 0; have a1 := q_bd (P 2) (show (0 : Int) < 6 by decide); have a2 := c_bd (U 4) (show (0 : Int) < 120 by decide); have a3 := q_bd (P 6) (show (0 : Int) < 5040 by decide); have a4 := c_bd (U 8) (show (0 : Int) < 362880 by decide)
  rw [angle_enclosure_e ⟨by omega, by omega⟩]; rfl
theorem angle_cosine_e : (angle_cosine_C x).o = some (encV (cLo x) (cHi x)) := by
  have P := pd_bd h0 h1
  have U := pu_bd h0 h1
  have one : (0 : Int) ≤ 1073741824 ∧ (1073741824 : Int) ≤ 1073741824 := by decide
  show (angle_cosine_T x).run NN = _
  simp only [angle_cosine_T, T.run, T.ix, angle_powersOf_e, Option.bind_some, angle_ceiling_e (U 1).1 (U 1).2 (show (0 : Int) < 2 by decide) (by decide), angle_ceiling_e (U 5).1 (U 5).2 (show (0 : Int) < 720 by decide) (by decide), angle_ceiling_e (U 9).1 (U 9).2 (show (0 : Int) < 3628800 by decide) (by decide),
    angle_ceiling_e (U 3).1 (U 3).2 (show (0 : Int) < 24 by decide) (by decide), angle_ceiling_e (U 7).1 (U 7).2 (show (0 : Int) < 40320 by decide) (by decide), wq (P 3) (show (0 : Int) < 24 by decide), wq (P 7) (show (0 : Int) < 40320 by decide), wq (P 1) (show (0 : Int) < 2 by decide), wq (P 5) (show (0 : Int) < 720 by decide),
    alt6 one (c_bd (U 1) (show (0 : Int) < 2 by decide)) (q_bd (P 3) (show (0 : Int) < 24 by decide)) (c_bd (U 5) (show (0 : Int) < 720 by decide)) (q_bd (P 7) (show (0 : Int) < 40320 by decide)) (c_bd (U 9) (show (0 : Int) < 3628800 by decide)),
    alt5 one (q_bd (P 1) (show (0 : Int) < 2 by decide)) (c_bd (U 3) (show (0 : Int) < 24 by decide)) (q_bd (P 5) (show (0 : Int) < 720 by decide)) (c_bd (U 7) (show (0 : Int) < 40320 by decide))]
  have a1 := q_bd (P 1) (show (0 : Int) < 2 by decide); have a2 := c_bd (U 3) (show (0 : Int) < 24 by decide); have a3 := q_bd (P 5) (show (0 : Int) < 720 by decide); have a4 := c_bd (U 7) (show (0 : Int) < 40320 by decide)
  rw [angle_enclosure_e ⟨by omega, by omega⟩]; rfl
end
def qV (r : Int) : S_Interval := if r ≤ 8192 then encV (sLo r) (sHi r) else encV (cLo (16384 - r)) (cHi (16384 - r))
theorem angle_first_e {r : Int} (h0 : 0 ≤ r) (h1 : r ≤ 16384) : (angle_first_C r).o = some (qV r) := by
  show (angle_first_T r).run NN = _
  simp only [angle_first_T, T.run, qV]
  by_cases h : r ≤ 8192
  · rw [bif_dpos h, if_pos h, angle_sine_e h0 h]; rfl
  · rw [bif_dneg h, if_neg h, w64 (by omega) (by omega), angle_cosine_e (by omega) (by omega)]; rfl
theorem and_mask (a : Int) : (((BitVec.ofInt 64 a &&& BitVec.ofInt 64 65535).toNat : Nat) : Int) = a % 65536 := by
  have h1 : (BitVec.ofInt 64 65535).toNat = 2 ^ 16 - 1 := by decide
  rw [BitVec.toNat_and, h1, Nat.and_two_pow_sub_one_eq_mod, BitVec.toNat_ofInt]
  omega
theorem angle_modTurn_e (a : Int) : (angle_modTurn_C a).o = some (a % 65536) := by
  show (angle_modTurn_T a).run NN = _
  simp only [angle_modTurn_T, T.run]
  rw [and_mask, w64 (by omega) (by omega)]
def sinV (a : Int) : S_Interval :=
  if a % 65536 / 16384 = 0 then qV (a % 65536 % 16384) else if a % 65536 / 16384 = 1 then qV (16384 - a % 65536 % 16384) else
  if a % 65536 / 16384 = 2 then negV (qV (a % 65536 % 16384)) else negV (qV (16384 - a % 65536 % 16384))
theorem angle_Sin_e (a : Int) : (angle_Sin_C a).o = some (sinV a) := by
  show (angle_Sin_T a).run NN = _
  simp only [angle_Sin_T, T.run, angle_modTurn_e, Option.bind_some, sinV]
  rw [tdiv_pos (by omega), tmod_pos (by omega), w64 (x := a % 65536 / 16384) (by omega) (by omega), w64 (x := 16384 - a % 65536 % 16384) (by omega) (by omega), angle_first_e (by omega) (by omega), angle_first_e (by omega) (by omega)]
  simp only [Option.bind_some, interval_Neg_e]
  by_cases h0 : a % 65536 / 16384 = 0
  · rw [bif_eq h0, if_pos h0]
  · rw [bif_ne h0, if_neg h0]
    by_cases h1 : a % 65536 / 16384 = 1
    · rw [bif_eq h1, if_pos h1]
    · rw [bif_ne h1, if_neg h1]
      by_cases h2 : a % 65536 / 16384 = 2
      · rw [bif_eq h2, if_pos h2]
      · rw [bif_ne h2, if_neg h2]
def cosV (a : Int) : S_Interval := sinV (a % 65536 + 16384)
theorem angle_Cos_e (a : Int) : (angle_Cos_C a).o = some (cosV a) := by
  show (angle_Cos_T a).run NN = _
  simp only [angle_Cos_T, T.run, angle_modTurn_e, Option.bind_some, cosV]
  rw [w64 (by omega) (by omega), angle_Sin_e]; rfl
def meetV (a : S_Interval) (c : Int) : Bool := decide (a.Lo + (c - a.Lo) % 65536 ≤ a.Hi)
def hull1 (b : Bool) (x y : S_Interval) : S_Interval := if b then hullV x y else x
def overV (a lo hi : S_Interval) (top bot : Int) : S_Interval :=
  if vV a then (if a.Hi - a.Lo ≥ 65536 then ⟨-65536, 65536⟩ else hull1 (meetV a bot) (hull1 (meetV a top) (hullV lo hi) (ofV 65536)) (ofV (-65536))) else iz
section
variable {a : S_Interval} (h : vV a = true) {c : Int} (h0 : 0 ≤ c) (h1 : c ≤ 65536)
include h h0 h1
theorem angle_meets_e : (angle_meets_C a c).o = some (meetV a c) := by
  show (angle_meets_T a c).run NN = _
  have hv := h
  simp only [vV_iff] at hv
  simp only [angle_meets_T, T.run, angle_modTurn_e, Option.bind_some, interval_Has_e, h, Bool.true_and, meetV]
  rw [w64 (x := c - a.Lo) (by omega) (by omega), w64 (by omega) (by omega), decide_eq_true (p := a.Lo ≤ _) (by omega), Bool.true_and]
end
theorem angle_over_e (a : S_Interval) {t b : Int} (ht : 0 ≤ t ∧ t ≤ 65536) (hb : 0 ≤ b ∧ b ≤ 65536) : (angle_over_C a t b).o = some (overV a (cosV a.Lo) (cosV a.Hi) t b) := by
  show (angle_over_T a t b).run NN = _
  simp only [angle_over_T, T.run, interval_Valid_e, Option.bind_some, overV]
  cases h : vV a
  · rfl
  · simp only [Bool.not_true, cond_false, interval_Width_e a h, Option.bind_some, angle_Cos_e, interval_Hull_e, angle_meets_e h ht.1 ht.2, angle_meets_e h hb.1 hb.2, interval_Of_e, if_true]
    by_cases hw : a.Hi - a.Lo ≥ 65536
    · rw [bif_dpos hw, if_pos hw]
    · rw [bif_dneg hw, if_neg hw]
      cases meetV a t <;> cases meetV a b <;> rfl
theorem angle_over_1_e (a : S_Interval) {t b : Int} (ht : 0 ≤ t ∧ t ≤ 65536) (hb : 0 ≤ b ∧ b ≤ 65536) : (angle_over_1_C a t b).o = some (overV a (sinV a.Lo) (sinV a.Hi) t b) := by
  show (angle_over_1_T a t b).run NN = _
  simp only [angle_over_1_T, T.run, interval_Valid_e, Option.bind_some, overV]
  cases h : vV a
  · rfl
  · simp only [Bool.not_true, cond_false, interval_Width_e a h, Option.bind_some, angle_Sin_e, interval_Hull_e, angle_meets_e h ht.1 ht.2, angle_meets_e h hb.1 hb.2, interval_Of_e, if_true]
    by_cases hw : a.Hi - a.Lo ≥ 65536
    · rw [bif_dpos hw, if_pos hw]
    · rw [bif_dneg hw, if_neg hw]
      cases meetV a t <;> cases meetV a b <;> rfl
def sinO (a : S_Interval) : S_Interval := overV a (sinV a.Lo) (sinV a.Hi) 16384 49152
def cosO (a : S_Interval) : S_Interval := overV a (cosV a.Lo) (cosV a.Hi) 0 32768
theorem angle_SinOver_e (a : S_Interval) : (angle_SinOver_C a).o = some (sinO a) := by
  show (angle_SinOver_T a).run NN = _
  simp only [angle_SinOver_T, T.run, angle_over_1_e a (show (0 : Int) ≤ 16384 ∧ (16384 : Int) ≤ 65536 by decide) (show (0 : Int) ≤ 49152 ∧ (49152 : Int) ≤ 65536 by decide), Option.bind_some, sinO]
theorem angle_CosOver_e (a : S_Interval) : (angle_CosOver_C a).o = some (cosO a) := by
  show (angle_CosOver_T a).run NN = _
  simp only [angle_CosOver_T, T.run, angle_over_e a (show (0 : Int) ≤ 0 ∧ (0 : Int) ≤ 65536 by decide) (show (0 : Int) ≤ 32768 ∧ (32768 : Int) ≤ 65536 by decide), Option.bind_some, cosO]
abbrev IV3 := S_Interval × S_Interval × S_Interval
abbrev IM3 := IV3 × IV3 × IV3
def izv : IV3 := (iz, iz, iz)
def pointV (v : Int × Int × Int) : IV3 := (ofV v.1, ofV v.2.1, ofV v.2.2)
def unitV : IM3 := ((ofV 65536, iz, iz), (iz, ofV 65536, iz), (iz, iz, ofV 65536))
def addVV (a b : IV3) : IV3 := (addV a.1 b.1, addV a.2.1 b.2.1, addV a.2.2 b.2.2)
def dotV (r v : IV3) : S_Interval := addV (addV (mulV r.1 v.1) (mulV r.2.1 v.2.1)) (mulV r.2.2 v.2.2)
def applyV (m : IM3) (v : IV3) : IV3 := (dotV m.1 v, dotV m.2.1 v, dotV m.2.2 v)
def lim1 (a : S_Interval) : S_Interval := ⟨max (-65536) (min a.Lo 65536), max (-65536) (min a.Hi 65536)⟩
def rowV (r : IV3) (b : IM3) : IV3 := (lim1 (dotV r (b.1.1, b.2.1.1, b.2.2.1)), lim1 (dotV r (b.1.2.1, b.2.1.2.1, b.2.2.2.1)), lim1 (dotV r (b.1.2.2, b.2.1.2.2, b.2.2.2.2)))
def compM (a b : IM3) : IM3 := (rowV a.1 b, rowV a.2.1 b, rowV a.2.2 b)
def turnV (axis : Int) (a : S_Interval) : IM3 :=
  if vV a then (if axis = 0 then ((ofV 65536, iz, iz), (iz, cosO a, negV (sinO a)), (iz, sinO a, cosO a)) else
    if axis = 1 then ((cosO a, iz, sinO a), (iz, ofV 65536, iz), (negV (sinO a), iz, cosO a)) else
    if axis = 2 then ((cosO a, negV (sinO a), iz), (sinO a, cosO a, iz), (iz, iz, ofV 65536)) else (izv, izv, izv)) else (izv, izv, izv)
def shiftV (v : IV3) : S_Pose := ⟨unitV, v⟩
def restV : S_Pose := ⟨unitV, izv⟩
def compV (a b : S_Pose) : S_Pose := ⟨compM a.R b.R, addVV a.T (applyV a.R b.T)⟩
def moveV (p : S_Pose) (v : IV3) : IV3 := addVV p.T (applyV p.R v)
def slideV (k : Int) (a : S_Interval) : IV3 := if k = 4 then (a, iz, iz) else if k = 5 then (iz, a, iz) else (iz, iz, a)
def jointV (j : S_Joint) (a : S_Interval) : S_Pose :=
  compV (shiftV (pointV j.Offset)) (if j.Kind = 1 ∨ j.Kind = 2 ∨ j.Kind = 3 then ⟨turnV (j.Kind - 1) a, izv⟩ else if j.Kind = 4 ∨ j.Kind = 5 ∨ j.Kind = 6 then shiftV (slideV j.Kind a) else restV)
theorem clV_mono {a b : Int} (h : a ≤ b) : clV a ≤ clV b := by unfold clV; omega
theorem clV_bd (a : Int) : -2147483648 ≤ clV a ∧ clV a ≤ 2147483648 := by unfold clV; omega
theorem limV_v {a b : Int} (h : a ≤ b) : vV (limV a b) = true := by
  rw [vV_iff]; exact ⟨(clV_bd a).1, clV_mono h, (clV_bd b).2⟩
theorem iz_v : vV iz = true := rfl
theorem of0 : ofV 0 = iz := rfl
theorem floor_le_ceil {a b c : Int} (h : a ≤ b) (hc : 0 < c) : a / c ≤ cdiv b c := by
  have h1 := div_lo (a := a) hc
  have h2 := div_lo (a := -b) hc
  unfold cdiv
  by_cases e : a / c ≤ -(-b / c)
  · exact e
  · exfalso
    have h3 : c * (-(-b / c)) < c * (a / c) := Int.mul_lt_mul_of_pos_left (by omega) hc
    rw [Int.mul_neg] at h3
    omega
theorem mulV_v (a b : S_Interval) : vV (mulV a b) = true := by
  unfold mulV
  split
  · rename_i h
    simp only [Bool.and_eq_true] at h
    exact limV_v (floor_le_ceil (mul_bd h.1 h.2).2.2 (by decide))
  · exact iz_v
theorem addV_iz {x : S_Interval} (h : vV x = true) : addV iz x = x := by
  have hv := h
  rw [vV_iff] at hv
  obtain ⟨lo, hi⟩ := x
  simp only at hv
  have e1 : clV (0 + lo) = lo := by unfold clV; omega
  have e2 : clV (0 + hi) = hi := by unfold clV; omega
  simp only [addV, h, iz_v, Bool.and_self, if_true, limV]
  exact congr (congrArg S_Interval.mk e1) e2
theorem add0 (a b : S_Interval) : addV ⟨0, 0⟩ (mulV a b) = mulV a b := addV_iz (mulV_v a b)
theorem matrix_Point_e (v : Int × Int × Int) : (matrix_Point_C v).o = some (pointV v) := by
  show (matrix_Point_T v).run NN = _
  simp only [matrix_Point_T, T.run, T.ix, interval_Of_e, Option.bind_some, pointV]
theorem matrix_Identity_e : matrix_Identity_C.o = some unitV := by
  show matrix_Identity_T.run NN = _
  simp only [matrix_Identity_T, T.run, T.ix, interval_Of_e, Option.bind_some, unitV, iz]
theorem matrix_Add_e (a b : IV3) : (matrix_Add_C a b).o = some (addVV a b) := by
  show (matrix_Add_T a b).run NN = _
  simp only [matrix_Add_T, T.run, T.ix, interval_Add_e, Option.bind_some, addVV]
theorem matrix_Apply_e (m : IM3) (v : IV3) : (matrix_Apply_C m v).o = some (applyV m v) := by
  show (matrix_Apply_T m v).run NN = _
  simp only [matrix_Apply_T, T.run, T.ix, interval_Add_e, interval_Mul_e, Option.bind_some, add0, applyV, dotV]
theorem matrix_limited_e (x : Int) : (matrix_limited_C x).o = some (max (-65536) (min x 65536)) := by
  show (matrix_limited_T x).run NN = _
  simp only [matrix_limited_T, T.run, Option.some.injEq]; omega
set_option maxRecDepth 20000 in
theorem matrix_Compose_e (a b : IM3) : (matrix_Compose_C a b).o = some (compM a b) := by
  show (matrix_Compose_T a b).run NN = _
  simp only [matrix_Compose_T, T.run, T.ix, interval_Add_e, interval_Mul_e, matrix_limited_e, Option.bind_some, add0, compM, rowV, dotV, lim1]
theorem matrix_Turn_e (k : Int) (a : S_Interval) : (matrix_Turn_C k a).o = some (turnV k a) := by
  show (matrix_Turn_T k a).run NN = _
  simp only [matrix_Turn_T, T.run, interval_Valid_e, angle_CosOver_e, angle_SinOver_e, interval_Neg_e, interval_Of_e, Option.bind_some, turnV, of0]
  cases h : vV a
  · rfl
  · simp only [Bool.not_true, cond_false, if_true]
    by_cases h0 : k = 0
    · rw [bif_eq h0, if_pos h0]
    · rw [bif_ne h0, if_neg h0]
      by_cases h1 : k = 1
      · rw [bif_eq h1, if_pos h1]
      · rw [bif_ne h1, if_neg h1]
        by_cases h2 : k = 2
        · rw [bif_eq h2, if_pos h2]
        · rw [bif_ne h2, if_neg h2]; rfl
theorem pose_still_e : pose_still_C.o = some izv := by
  show pose_still_T.run NN = _
  simp only [pose_still_T, T.run, matrix_Point_e, Option.bind_some, pointV, of0, izv]
theorem pose_Shift_e (v : IV3) : (pose_Shift_C v).o = some (shiftV v) := by
  show (pose_Shift_T v).run NN = _
  simp only [pose_Shift_T, T.run, matrix_Identity_e, Option.bind_some, shiftV]
theorem pose_Identity_e : pose_Identity_C.o = some restV := by
  show pose_Identity_T.run NN = _
  simp only [pose_Identity_T, T.run, pose_still_e, pose_Shift_e, Option.bind_some, shiftV, restV]
theorem pose_Turn_e (k : Int) (a : S_Interval) : (pose_Turn_C k a).o = some ⟨turnV k a, izv⟩ := by
  show (pose_Turn_T k a).run NN = _
  simp only [pose_Turn_T, T.run, matrix_Turn_e, pose_still_e, Option.bind_some]
theorem pose_Compose_e (a b : S_Pose) : (pose_Compose_C a b).o = some (compV a b) := by
  show (pose_Compose_T a b).run NN = _
  have h1 : (pose_mover_C a).o = (pose_mover_T a).run NN := rfl
  simp only [pose_Compose_T, T.run, h1, pose_mover_T, Option.bind_some, matrix_Compose_e]
  refine Eq.trans (congrArg (fun o => Option.bind o _) (show (pose_mover_1_C _ _ _ _ _ _ _ _ _ _ _ _ _ _ _ _ _ _ _ _ _ _ _ _ _).o = (pose_mover_1_T _ _ _ _ _ _ _ _ _ _ _ _ _ _ _ _ _ _ _ _ _ _ _ _ _).run NN from rfl)) ?_
  simp only [pose_mover_1_T, T.run, matrix_Apply_e, matrix_Add_e, Option.bind_some]; rfl
theorem pose_Apply_e (a : S_Pose) (v : IV3) : (pose_Apply_C a v).o = some (moveV a v) := by
  show (pose_Apply_T a v).run NN = _
  have h1 : (pose_mover_C a).o = (pose_mover_T a).run NN := rfl
  simp only [pose_Apply_T, T.run, h1, pose_mover_T, Option.bind_some]
  refine Eq.trans (congrArg (fun o => Option.bind o _) (show (pose_mover_1_C _ _ _ _ _ _ _ _ _ _ _ _ _ _ _ _ _ _ _ _ _ _ _ _ _).o = (pose_mover_1_T _ _ _ _ _ _ _ _ _ _ _ _ _ _ _ _ _ _ _ _ _ _ _ _ _).run NN from rfl)) ?_
  simp only [pose_mover_1_T, T.run, matrix_Apply_e, matrix_Add_e, Option.bind_some]; rfl
theorem axis_turn_e (k : Int) (a : S_Interval) : (axis_turn_C k a).o = some ⟨turnV k a, izv⟩ := by
  show (axis_turn_T k a).run NN = _
  simp only [axis_turn_T, T.run, pose_Turn_e, Option.bind_some]
theorem axis_rest_e (k : Int) (a : S_Interval) : (axis_rest_C k a).o = some restV := by
  show (axis_rest_T k a).run NN = _
  simp only [axis_rest_T, T.run, pose_Identity_e, Option.bind_some]
theorem axis_slide_e {k : Int} (a : S_Interval) (h : k = 4 ∨ k = 5 ∨ k = 6) : (axis_slide_C (k - 4) a).o = some (shiftV (slideV k a)) := by
  show (axis_slide_T (k - 4) a).run NN = _
  simp only [axis_slide_T, T.run, T.ix]
  rcases h with rfl | rfl | rfl
  · simp only [show ((4 - 4 : Int) == 0) = true from rfl, cond_true, andC_out, pose_Shift_e]; rfl
  · simp only [show ((5 - 4 : Int) == 0) = false from rfl, show ((5 - 4 : Int) == 1) = true from rfl, cond_true, cond_false, andC_out, pose_Shift_e]; rfl
  · simp only [show ((6 - 4 : Int) == 0) = false from rfl, show ((6 - 4 : Int) == 1) = false from rfl, show ((6 - 4 : Int) == 2) = true from rfl, cond_true, cond_false, andC_out, pose_Shift_e]; rfl
theorem kindP (k a b c : Int) {R : Type} : (bif k == a then some (.out (k == a)) else bif k == b then some (.out (k == b)) else some (.out (k == c)) : Option (Step3 Unit Bool R)) = some (.out (decide (k = a ∨ k = b ∨ k = c))) := by
  by_cases h1 : k = a
  · rw [bif_eq h1]; simp [h1]
  · rw [bif_ne h1]
    by_cases h2 : k = b
    · rw [bif_eq h2]; simp [h2]
    · rw [bif_ne h2]; simp [h1, h2, Bool.beq_eq_decide_eq]
theorem mo0 (k : Int) : (kinematics_motionOf_v0_C k).o = if k = 1 ∨ k = 2 ∨ k = 3 then some (k - 1) else none := by
  show (kinematics_motionOf_v0_T k).run NN = _
  simp only [kinematics_motionOf_v0_T, T.run, kindP, andC_out]
  by_cases h : k = 1 ∨ k = 2 ∨ k = 3
  · rw [bif_dpos h, if_pos h, w64 (by omega) (by omega)]
  · rw [bif_dneg h, if_neg h]; cases decide (k = 4 ∨ k = 5 ∨ k = 6) <;> rfl
theorem mo1 (k : Int) (h : ¬ (k = 1 ∨ k = 2 ∨ k = 3)) : (kinematics_motionOf_v1_C k).o = if k = 4 ∨ k = 5 ∨ k = 6 then some (k - 4) else none := by
  show (kinematics_motionOf_v1_T k).run NN = _
  simp only [kinematics_motionOf_v1_T, T.run, kindP, andC_out]
  rw [bif_dneg h]
  by_cases h : k = 4 ∨ k = 5 ∨ k = 6
  · rw [bif_dpos h, if_pos h, w64 (by omega) (by omega)]
  · rw [bif_dneg h, if_neg h]
theorem mo2 (k : Int) (h : ¬ (k = 1 ∨ k = 2 ∨ k = 3)) (h' : ¬ (k = 4 ∨ k = 5 ∨ k = 6)) : (kinematics_motionOf_v2_C k).o = some 0 := by
  show (kinematics_motionOf_v2_T k).run NN = _
  simp only [kinematics_motionOf_v2_T, T.run, kindP, andC_out]
  rw [bif_dneg h, bif_dneg h']
theorem kinematics_Joint_e (j : S_Joint) (a : S_Interval) : (kinematics_Joint_C j a).o = some (jointV j a) := by
  show (kinematics_Joint_T j a).run NN = _
  simp only [kinematics_Joint_T, T.run, matrix_Point_e, pose_Shift_e, Option.bind_some, mo0, jointV]
  by_cases h : j.Kind = 1 ∨ j.Kind = 2 ∨ j.Kind = 3
  · simp only [if_pos h, Option.isSome_some, cond_true, Option.bind_some, axis_turn_e, pose_Compose_e]
  · simp only [if_neg h, Option.isSome_none, cond_false, mo1 _ h]
    by_cases h' : j.Kind = 4 ∨ j.Kind = 5 ∨ j.Kind = 6
    · simp only [if_pos h', Option.isSome_some, cond_true, Option.bind_some, axis_slide_e a h', pose_Compose_e]
    · simp only [if_neg h', Option.isSome_none, cond_false, mo2 _ h h', Option.bind_some, axis_rest_e, pose_Compose_e]
theorem scanI {R : Type} {f : Int → Option (Step3 Int U0 R)} {k : U0 → Option R} (g : Nat → Option R) (n : Nat) (hn : n < 4294967296)
    (hs : ∀ j, j < n → f (j : Int) = match g j with | some r => some (.fin r) | none => some (.next ((j + 1 : Nat) : Int))) (he : f (n : Int) = some (.out .u)) :
    andK (iter f NN 0) k = match scan g n 0 with | some r => some r | none => k .u := loop_scan (fun j => (j : Int)) g .u n rfl hn hs he
theorem wn {n : Nat} (h : n < 4294967296) : IntKind.i64.wrap ((n : Int) + 1) = ((n + 1 : Nat) : Int) := w64n (by omega)
def sw {R : Type} (b : Bool) (r : R) : Option R := bif b then some r else none
theorem sw_fin {σ τ R : Type} {b : Bool} {r : R} {x : σ} : (bif b then some (.fin r) else some (.next x) : Option (Step3 σ τ R)) = match sw b r with | some r => some (.fin r) | none => some (.next x) := by cases b <;> rfl
def noneB (g : Nat → Bool) (n : Nat) : Bool := decide (∀ i, i < n → g i = false)
theorem scan_sw {R : Type} {g : Nat → Bool} {n : Nat} {r : R} : scan (fun i => sw (g i) r) n 0 = sw (!noneB g n) r := by
  cases h : scan (fun i => sw (g i) r) n 0 with
  | none =>
    rw [scan_none] at h
    have : noneB g n = true := decide_eq_true fun i hi => by
      have := h i (Nat.zero_le _) (by omega)
      unfold sw at this
      cases hg : g i with
      | true => rw [hg] at this; cases this
      | false => rfl
    rw [this]; rfl
  | some x =>
    obtain ⟨j, h1, h2, h3, -⟩ := scan_some _ _ h
    have : noneB g n = false := decide_eq_false fun hn => by
      have := hn j (by omega)
      simp only [this, sw, cond_false] at h3; cases h3
    rw [this]
    unfold sw at h3 ⊢
    cases hg : g j with
    | true => rw [hg] at h3; simpa using h3.symm
    | false => rw [hg] at h3; cases h3
theorem noneB_iff {g : Nat → Bool} {n : Nat} : noneB g n = true ↔ ∀ i, i < n → g i = false := by simp [noneB]
theorem get_at (s : ByteArray) (i : Nat) : s.get! i = s.data.getD i 0 := by
  cases s with | mk d => simp only [ByteArray.get!]; rw [getElem!_def, Array.getD_eq_getD_getElem?]; cases d[i]? <;> rfl
def byteV (s : ByteArray) (i : Nat) : Nat := (s.data.getD i 0).toNat
theorem dec_lo {s : ByteArray} {i : Nat} (h : byteV s i < 128) : Utf8.decode s i = (byteV s i, 1) := by
  rw [Lib.decode_at, get_at]; exact if_pos h
theorem dec_hi {s : ByteArray} {i : Nat} (h : 128 ≤ byteV s i) : 128 ≤ (Utf8.decode s i).1 := by
  rw [Lib.decode_at, get_at]
  unfold Lib.decodeN
  rw [if_neg (by unfold byteV at h; omega)]
  repeat' split
  all_goals (simp only; omega)
def badN (s : ByteArray) (i : Nat) : Bool := decide (¬ (97 ≤ byteV s i ∧ byteV s i ≤ 122) ∧ (i = 0 ∨ (byteV s i ≠ 95 ∧ ¬ (48 ≤ byteV s i ∧ byteV s i ≤ 57))))
def nameV (s : ByteArray) : Bool := !(decide (s.size = 0) || (decide (16 < s.size) || (s == ⟨#[119, 111, 114, 108, 100]⟩))) && noneB (badN s) s.size
theorem token_isLetter_e (a : Int) : (token_isLetter_C a).o = some (decide (97 ≤ a) && decide (a ≤ 122)) := by
  show (token_isLetter_T a).run NN = _
  simp only [token_isLetter_T, T.run, bif_some, bif_bf]
theorem token_isDigit_e (a : Int) : (token_isDigit_C a).o = some (decide (48 ≤ a) && decide (a ≤ 57)) := by
  show (token_isDigit_T a).run NN = _
  simp only [token_isDigit_T, T.run, bif_some, bif_bf]
theorem token_Name_e (s : ByteArray) : (token_Name_C s).o = some (nameV s) := by
  show (token_Name_T s).run NN = _
  simp only [token_Name_T, T.run, bif_out, andC_out, nameV, bif_tb]
  have e1 : ((s.size : Int) == 0) = decide (s.size = 0) := by rw [Bool.eq_iff_iff]; simp
  have e2 : decide ((s.size : Int) > 16) = decide (16 < s.size) := by congr 1; apply propext; omega
  rw [e1, e2]
  cases h : (decide (s.size = 0) || (decide (16 < s.size) || (s == ⟨#[119, 111, 114, 108, 100]⟩)))
  · simp only [Bool.or_eq_false_iff, decide_eq_false_iff_not] at h
    rw [cond_false]
    refine (loop_scan (fun j => j) (fun i => sw (badN s i) false) .u s.size rfl (show s.size < 4294967296 by omega) (fun j hj => ?_) ?_).trans ?_
    · rw [bif_dpos hj]
      simp only [token_isLetter_e, token_isDigit_e, Option.bind_some, bif_out, andC_out]
      have key : (bif !(decide (97 ≤ ((Utf8.decode s j).1 : Int)) && decide (((Utf8.decode s j).1 : Int) ≤ 122)) then bif ((j : Int) == 0) then true else
          bif !(decide (48 ≤ ((Utf8.decode s j).1 : Int)) && decide (((Utf8.decode s j).1 : Int) ≤ 57)) then ((Utf8.decode s j).1 : Int) != 95 else false else false) = badN s j := by
        by_cases hb : byteV s j < 128
        · rw [dec_lo hb, Bool.eq_iff_iff]
          simp only [bif_tb, bif_bf, badN, Bool.and_eq_true, Bool.or_eq_true, Bool.not_eq_true', Bool.and_eq_false_iff, Bool.or_eq_false_iff, decide_eq_true_eq, decide_eq_false_iff_not, beq_iff_eq, bne_iff_ne, ne_eq]
          omega
        · have := dec_hi (s := s) (i := j) (by omega)
          rw [Bool.eq_iff_iff]
          simp only [bif_tb, bif_bf, badN, Bool.and_eq_true, Bool.or_eq_true, Bool.not_eq_true', Bool.and_eq_false_iff, Bool.or_eq_false_iff, decide_eq_true_eq, decide_eq_false_iff_not, beq_iff_eq, bne_iff_ne, ne_eq]
          omega
      rw [key]
      cases hbad : badN s j
      · have : byteV s j < 128 := by
          simp only [badN, decide_eq_false_iff_not] at hbad
          omega
        rw [dec_lo this]; rfl
      · rfl
    · rw [bif_dneg (by omega)]
    · rw [scan_sw]
      cases noneB (badN s) s.size <;> rfl
  · rfl
def findB (l : List S_Joint) (nm : ByteArray) (i : Nat) : Bool := (l.getD i default).Name == nm
theorem robot_Find_e (r : S_Robot) (nm : ByteArray) (h : r.Joints.length < 4294967296) : (robot_Find_C r nm).o = some (match scan (fun i => sw (findB r.Joints nm i) (i : Int)) r.Joints.length 0 with | some x => x | none => -1) := by
  show (robot_Find_T r nm).run NN = _
  simp only [robot_Find_T, T.run]
  refine (scanI (fun i => sw (findB r.Joints nm i) (i : Int)) r.Joints.length h (fun j hj => ?_) ?_).trans ?_
  · rw [bif_dpos (by omega), grd_p (by omega), wn (by omega), Int.toNat_natCast, ← sw_fin]; rfl
  · rw [bif_dneg (by omega)]
  · cases scan (fun i => sw (findB r.Joints nm i) (i : Int)) r.Joints.length 0 <;> rfl
theorem ba_refl (b : ByteArray) : (b == b) = true := by
  obtain ⟨d⟩ := b
  show (d == d) = true
  exact beq_self_eq_true d
theorem find_ne {l : List S_Joint} {i : Nat} (hi : i < l.length) : ((match scan (fun k => sw (findB l (l.getD i default).Name k) (k : Int)) l.length 0 with | some x => x | none => -1) != (i : Int)) = !noneB (findB l (l.getD i default).Name) i := by
  have hself : findB l (l.getD i default).Name i = true := ba_refl _
  cases h : scan (fun k => sw (findB l (l.getD i default).Name k) (k : Int)) l.length 0 with
  | none =>
    rw [scan_none] at h
    have := h i (Nat.zero_le _) (by omega)
    simp only [hself, sw, cond_true] at this; cases this
  | some x =>
    obtain ⟨j, h1, h2, h3, h4⟩ := scan_some _ _ h
    have hj : findB l (l.getD i default).Name j = true ∧ x = (j : Int) := by
      cases hb : findB l (l.getD i default).Name j with
      | false => simp only [hb, sw, cond_false] at h3; cases h3
      | true => simp only [hb, sw, cond_true, Option.some.injEq] at h3; exact ⟨rfl, h3.symm⟩
    have hji : j ≤ i := by
      by_cases e : j ≤ i
      · exact e
      · have := h4 i (Nat.zero_le _) (by omega)
        simp only [hself, sw, cond_true] at this; cases this
    simp only [hj.2]
    rw [Bool.eq_iff_iff]
    rw [bne_iff_ne, Bool.not_eq_true', ← Bool.not_eq_true]
    constructor
    · intro hne hall
      have := noneB_iff.1 hall j (by omega)
      rw [hj.1] at this; cases this
    · intro hn e
      apply hn
      rw [noneB_iff]
      intro k hk
      have := h4 k (Nat.zero_le _) (by omega)
      cases hb : findB l (l.getD i default).Name k with
      | false => rfl
      | true => simp only [hb, sw, cond_true] at this; cases this
def nearV (v : Int × Int × Int) (m : Int) : Bool := decide (-m ≤ v.1) && (decide (v.1 ≤ m) && (decide (-m ≤ v.2.1) && (decide (v.2.1 ≤ m) && (decide (-m ≤ v.2.2) && decide (v.2.2 ≤ m)))))
theorem nearV_iff {v : Int × Int × Int} {m : Int} : nearV v m = true ↔ (-m ≤ v.1 ∧ v.1 ≤ m) ∧ (-m ≤ v.2.1 ∧ v.2.1 ≤ m) ∧ (-m ≤ v.2.2 ∧ v.2.2 ≤ m) := by
  simp only [nearV, Bool.and_eq_true, decide_eq_true_eq, and_assoc]
def bey (x : Int) : Bool := decide (x < -4194304) || decide (x > 4194304)
theorem robot_beyond_e (v : Int × Int × Int) : (robot_beyond_C v).o = some (!nearV v 4194304) := by
  show (robot_beyond_T v).run NN = _
  simp only [robot_beyond_T, T.run, bif_out, andC_out, bif_tb]
  refine (scanI (fun i => sw (bey (([v.1, v.2.1, v.2.2] : List Int).getD i 0)) true) 3 (by decide) (fun j hj => ?_) ?_).trans ?_
  · rw [bif_dpos (by omega), grd_p (by omega), wn (by omega), Int.toNat_natCast, ← sw_fin]; rfl
  · rw [bif_dneg (by omega)]
  · rw [scan_sw]
    have : noneB (fun i => bey (([v.1, v.2.1, v.2.2] : List Int).getD i 0)) 3 = nearV v 4194304 := by
      rw [Bool.eq_iff_iff, noneB_iff, nearV_iff]
      constructor
      · intro h
        have a := h 0 (by decide); have b := h 1 (by decide); have c := h 2 (by decide)
        simp only [bey, List.getD_cons_zero, List.getD_cons_succ, Bool.or_eq_false_iff, decide_eq_false_iff_not] at a b c
        omega
      · intro h i hi
        match i, hi with
        | 0, _ => simp only [bey, List.getD_cons_zero, Bool.or_eq_false_iff, decide_eq_false_iff_not]; omega
        | 1, _ => simp only [bey, List.getD_cons_zero, List.getD_cons_succ, Bool.or_eq_false_iff, decide_eq_false_iff_not]; omega
        | 2, _ => simp only [bey, List.getD_cons_zero, List.getD_cons_succ, Bool.or_eq_false_iff, decide_eq_false_iff_not]; omega
    rw [this]; cases nearV v 4194304 <;> rfl
def reachV (k : Int) : Int := if k = 0 then 0 else if k = 1 ∨ k = 2 ∨ k = 3 then 524288 else 4194304
theorem robot_limit_e {k : Int} (h0 : 0 ≤ k) (h1 : k ≤ 6) : (robot_limit_C k).o = some (reachV k) := by
  show (robot_limit_T k).run NN = _
  simp only [robot_limit_T, T.run, kindP, andC_out, reachV]
  by_cases h : k = 1 ∨ k = 2 ∨ k = 3
  · rw [bif_dpos h, if_neg (by omega), if_pos h]
  · rw [bif_dneg h]
    by_cases h' : k = 4 ∨ k = 5 ∨ k = 6
    · rw [bif_dpos h', if_neg (by omega), if_neg h]
    · rw [bif_dneg h', if_pos (by omega)]
def betV (x a b : Int) : Bool := decide (a ≤ x) && decide (x ≤ b)
theorem robot_from1_e (x m : Int) : (robot_from1_C x m).o = some (betV x 1 m) := by
  show (robot_from1_T x m).run NN = _
  simp only [robot_from1_T, T.run, bif_some, bif_bf, betV]
def costV (j : S_Joint) : Bool := betV j.Weight 1 1024 && (betV j.Speed 1 1048576 && (betV j.Accel 1 1048576 && betV j.Torque 1 1099511627776))
def jointB (l : List S_Joint) (i : Nat) : Int :=
  let j := l.getD i default
  if !nameV j.Name || !noneB (findB l j.Name) i then 802 else if decide (j.Kind < 0) || decide (j.Kind > 6) then 803 else if decide (j.Parent < -1) || decide (j.Parent ≥ (i : Int)) then 804 else if !nearV j.Offset 4194304 then 805 else
  if decide (j.Lo > j.Hi) || (decide (j.Lo < -reachV j.Kind) || decide (j.Hi > reachV j.Kind)) then 806 else if !costV j then 807 else 0
theorem cost4 : ∀ a b c d : Bool, (bif !a || (!b || (!c || !d)) then some (807 : Int) else some 0) = some (if (!(a && (b && (c && d)))) = true then 807 else 0) := by decide
theorem reach_bd (k : Int) : 0 ≤ reachV k ∧ reachV k ≤ 4194304 := by unfold reachV; split <;> (try split) <;> omega
theorem neg_reach (k : Int) : IntKind.i64.wrap (0 - reachV k) = -reachV k := by
  have := reach_bd k; rw [w64 (by omega) (by omega)]; omega
theorem robot_checkJoint_e (r : S_Robot) {i : Nat} (hi : i < r.Joints.length) (h : r.Joints.length < 4294967296) : (robot_checkJoint_C r (i : Int)).o = some (jointB r.Joints i) := by
  show (robot_checkJoint_T r (i : Int)).run NN = _
  simp only [robot_checkJoint_T, T.run]
  rw [grd_p (by omega), Int.toNat_natCast]
  simp only [token_Name_e, robot_Find_e r _ h, robot_beyond_e, robot_from1_e, Option.bind_some, bif_out, andC_out, jointB]
  rw [find_ne hi]
  generalize r.Joints.getD i default = j
  cases h1 : nameV j.Name
  · rfl
  · cases h2 : noneB (findB r.Joints j.Name) i
    · rfl
    · simp only [Bool.not_true, cond_false, Bool.or_self, if_neg Bool.false_ne_true]
      by_cases h3 : j.Kind < 0
      · rw [decide_eq_true h3]; rfl
      · by_cases h4 : j.Kind > 6
        · rw [decide_eq_true h4, decide_eq_false h3]; rfl
        · simp only [decide_eq_false h3, decide_eq_false h4, cond_false, Bool.or_self, if_neg Bool.false_ne_true, robot_limit_e (show 0 ≤ j.Kind by omega) (by omega), Option.bind_some, neg_reach, bif_out, andC_out, bif_tb]
          cases decide (j.Parent < -1) || decide (j.Parent ≥ (i : Int))
          · cases nearV j.Offset 4194304
            · rfl
            · simp only [Bool.not_true, cond_false, if_neg Bool.false_ne_true]
              cases decide (j.Lo > j.Hi) || (decide (j.Lo < -reachV j.Kind) || decide (j.Hi > reachV j.Kind))
              · simp only [cond_false, if_neg Bool.false_ne_true, costV]
                exact cost4 _ _ _ _
              · rfl
          · rfl
def tab {α : Type} (f : Nat → α) (n : Nat) : List α := (List.range n).map f
theorem tab_succ {α : Type} (f : Nat → α) (n : Nat) : tab f (n + 1) = tab f n ++ [f n] := by simp [tab, List.range_succ]
theorem tab_len {α : Type} (f : Nat → α) (n : Nat) : (tab f n).length = n := by simp [tab]
theorem tab_get {α : Type} {f : Nat → α} {n i : Nat} {d : α} (h : i < n) : (tab f n).getD i d = f i := by simp [tab, List.getD_eq_getElem?_getD, h]
def half {α : Type} (f : Nat → α) (z : α) (n j : Nat) : List α := tab f j ++ List.replicate (n - j) z
theorem half_len {α : Type} {f : Nat → α} {z : α} {n j : Nat} (h : j ≤ n) : (half f z n j).length = n := by simp [half, tab_len]; omega
theorem half_set {α : Type} {f : Nat → α} {z : α} {n j : Nat} (h : j < n) : (half f z n j).set j (f j) = half f z n (j + 1) := by
  unfold half
  rw [List.set_append_right _ _ (by rw [tab_len]; omega), tab_len, Nat.sub_self]
  obtain ⟨m, hm⟩ : ∃ m, n - j = m + 1 := ⟨n - j - 1, by omega⟩
  rw [hm, List.replicate_succ, List.set_cons_zero, tab_succ, show n - (j + 1) = m by omega]; simp
theorem half_zero {α : Type} (f : Nat → α) (z : α) (n : Nat) : half f z n 0 = List.replicate n z := by simp [half, tab]
theorem half_all {α : Type} (f : Nat → α) (z : α) (n : Nat) : half f z n n = tab f n := by simp [half]
def massB (n : Nat) (m : S_Mass) : Bool := (decide (0 ≤ m.Link) && decide (m.Link < (n : Int))) && (betV m.Mass 1 65536 && nearV m.Point 4194304)
theorem robot_validMass_e (r : S_Robot) (m : S_Mass) : (robot_validMass_C r m).o = some (massB r.Joints.length m) := by
  show (robot_validMass_T r m).run NN = _
  simp only [robot_validMass_T, T.run, robot_from1_e, robot_beyond_e, Option.bind_some, massB]
  cases decide (0 ≤ m.Link) <;> cases decide (m.Link < (r.Joints.length : Int)) <;> cases betV m.Mass 1 65536 <;> cases nearV m.Point 4194304 <;> rfl
def badM (n : Nat) (l : List S_Mass) (i : Nat) : Bool := !massB n (l.getD i default)
theorem ix_mass (l : List S_Mass) (js : List S_Joint) (ms : List S_Mass) (h : l.length < 4294967296) : (slices_IndexFunc_api_Mass_api_Mass_C l js ms).o = some (match scan (fun i => sw (badM js.length l i) (i : Int)) l.length 0 with | some x => x | none => -1, js, ms) := by
  show (slices_IndexFunc_api_Mass_api_Mass_T l js ms).run NN = _
  simp only [slices_IndexFunc_api_Mass_api_Mass_T, T.run]
  have e1 : ∀ m, (robot_Check_1_C m js ms).o = some (!massB js.length m, js, ms) := fun m => by
    show (robot_Check_1_T m js ms).run NN = _
    simp only [robot_Check_1_T, T.run, robot_validMass_e, Option.bind_some]
  refine (loop_scan (fun j => (js, ms, (j : Int))) (fun i => sw (badM js.length l i) ((i : Int), js, ms)) (js, ms) l.length rfl h (fun j hj => ?_) ?_).trans ?_
  · rw [bif_dpos (by simpa using hj), grd_p ⟨by simp, by simpa using hj⟩]
    simp only [e1, Option.bind_some, Int.toNat_natCast]
    rw [wn (by omega)]; unfold badM; cases massB js.length (l.getD j default) <;> rfl
  · rw [bif_dneg (by simp)]
  · have : ∀ n i, scan (fun i => sw (badM js.length l i) ((i : Int), js, ms)) n i = (scan (fun i => sw (badM js.length l i) (i : Int)) n i).map fun x => (x, js, ms) := by
      intro n
      induction n with
      | zero => intro i; rfl
      | succ n ih =>
        intro i; simp only [scan]
        cases badM js.length l i with
        | true => rfl
        | false => exact ih (i + 1)
    rw [this]
    cases scan (fun i => sw (badM js.length l i) (i : Int)) l.length 0 <;> rfl
theorem scan_ge {g : Nat → Bool} {n : Nat} : decide ((match scan (fun i => sw (g i) (i : Int)) n 0 with | some x => x | none => -1) ≥ 0) = !noneB g n := by
  cases h : scan (fun i => sw (g i) (i : Int)) n 0 with
  | none =>
    rw [scan_none] at h
    have : noneB g n = true := noneB_iff.2 fun i hi => by
      have := h i (Nat.zero_le _) (by omega)
      cases hg : g i with
      | true => rw [hg] at this; cases this
      | false => rfl
    rw [this]; rfl
  | some x =>
    obtain ⟨j, h1, h2, h3, -⟩ := scan_some _ _ h
    cases hg : g j with
    | false => rw [hg] at h3; cases h3
    | true =>
      rw [hg] at h3; simp only [sw, cond_true, Option.some.injEq] at h3
      have : noneB g n = false := by
        cases hn : noneB g n with
        | false => rfl
        | true => have := noneB_iff.1 hn j (by omega); rw [hg] at this; cases this
      rw [this, ← h3]; simp
theorem cf_mass (l : List S_Mass) (js : List S_Joint) (ms : List S_Mass) (h : l.length < 4294967296) : (slices_ContainsFunc_api_Mass_api_Mass_C l js ms).o = some (!noneB (badM js.length l) l.length, js, ms) := by
  show (slices_ContainsFunc_api_Mass_api_Mass_T l js ms).run NN = _
  simp only [slices_ContainsFunc_api_Mass_api_Mass_T, T.run, ix_mass l js ms h, Option.bind_some]
  rw [scan_ge]
def errJ (l : List S_Joint) (i : Nat) : Option Int := sw (jointB l i != 0) (jointB l i)
def robotV (r : S_Robot) : Int :=
  if r.Joints.length = 0 ∨ 10 < r.Joints.length then 801 else match scan (errJ r.Joints) r.Joints.length 0 with
    | some e => e
    | none => if 32 < r.Masses.length ∨ noneB (badM r.Joints.length r.Masses) r.Masses.length = false then 808 else 0
theorem robot_Check_e (r : S_Robot) : (robot_Check_C r).o = some (robotV r) := by
  show (robot_Check_T r).run NN = _
  simp only [robot_Check_T, T.run, bif_out, andC_out, robotV]
  by_cases h : r.Joints.length = 0 ∨ 10 < r.Joints.length
  · rw [if_pos h]
    rcases h with h | h
    · rw [bif_eq (by omega)]; rfl
    · rw [bif_ne (by omega), bif_dpos (by omega)]
  · rw [if_neg h, bif_ne (by omega), bif_dneg (by omega)]
    refine (scanI (errJ r.Joints) r.Joints.length (by omega) (fun j hj => ?_) ?_).trans ?_
    · rw [bif_dpos (by omega)]
      simp only [robot_checkJoint_e ⟨r.Joints, r.Masses⟩ hj (show r.Joints.length < 4294967296 by omega), Option.bind_some]
      rw [wn (by omega), sw_fin]; rfl
    · rw [bif_dneg (by omega)]
    · cases scan (errJ r.Joints) r.Joints.length 0 with
      | some e => rfl
      | none =>
        simp only
        by_cases hm : 32 < r.Masses.length
        · rw [bif_dpos (by omega), if_pos (Or.inl hm)]; rfl
        · rw [bif_dneg (by omega), cf_mass _ _ _ (by omega)]
          cases hn : noneB (badM r.Joints.length r.Masses) r.Masses.length
          · rw [if_pos (Or.inr rfl)]; rfl
          · rw [if_neg (by simp; omega)]; rfl
theorem robotV_ok {r : S_Robot} (h : robotV r = 0) : 1 ≤ r.Joints.length ∧ r.Joints.length ≤ 10 ∧ ∀ i, i < r.Joints.length → jointB r.Joints i = 0 := by
  unfold robotV at h
  split at h
  · cases h
  · refine ⟨by omega, by omega, fun i hi => ?_⟩
    split at h
    · rename_i e he
      obtain ⟨j, -, -, h3, -⟩ := scan_some _ _ he
      unfold errJ sw at h3
      cases hb : jointB r.Joints j != 0 with
      | false => rw [hb] at h3; cases h3
      | true =>
        rw [hb] at h3; simp only [cond_true, Option.some.injEq] at h3
        simp only [bne_iff_ne] at hb
        rw [h3] at hb; exact absurd h hb
    · rename_i he
      have := (scan_none _ _).1 he i (Nat.zero_le _) (by omega)
      unfold errJ sw at this
      cases hb : jointB r.Joints i != 0 with
      | false => simpa using hb
      | true => rw [hb] at this; cases this
def linkV (n : Nat) (k : Int) : Bool := decide (-1 ≤ k) && decide (k < (n : Int))
theorem scene_isLink_e (s : S_Scene) (k : Int) : (scene_isLink_C s k).o = some (linkV s.Robot.Joints.length k) := by
  show (scene_isLink_T s k).run NN = _
  simp only [scene_isLink_T, T.run, bif_some, bif_bf, linkV]
def farP (l : List (Int × Int × Int)) (i : Nat) : Bool := !nearV (l.getD i default) 4194304
def shapeV (n : Nat) (x : S_Shape) : Int :=
  if (linkV n x.Link && betV x.Radius 1 1048576) = false ∨ x.Points.length = 0 ∨ 8 < x.Points.length then 902 else if noneB (farP x.Points) x.Points.length then 0 else 805
theorem far3 (v : Int × Int × Int) : noneB (fun i => bey (([v.1, v.2.1, v.2.2] : List Int).getD i 0)) 3 = nearV v 4194304 := by
  rw [Bool.eq_iff_iff, noneB_iff, nearV_iff]
  constructor
  · intro h
    have a := h 0 (by decide); have b := h 1 (by decide); have c := h 2 (by decide)
    simp only [bey, List.getD_cons_zero, List.getD_cons_succ, Bool.or_eq_false_iff, decide_eq_false_iff_not] at a b c
    omega
  · intro h i hi
    match i, hi with
    | 0, _ => simp only [bey, List.getD_cons_zero, Bool.or_eq_false_iff, decide_eq_false_iff_not]; omega
    | 1, _ => simp only [bey, List.getD_cons_zero, List.getD_cons_succ, Bool.or_eq_false_iff, decide_eq_false_iff_not]; omega
    | 2, _ => simp only [bey, List.getD_cons_zero, List.getD_cons_succ, Bool.or_eq_false_iff, decide_eq_false_iff_not]; omega
theorem scene_checkShape_e (s : S_Scene) (x : S_Shape) : (scene_checkShape_C s x).o = some (shapeV s.Robot.Joints.length x) := by
  show (scene_checkShape_T s x).run NN = _
  simp only [scene_checkShape_T, T.run, scene_isLink_e, Option.bind_some, bif_out, andC_out, shapeV]
  cases hl : linkV s.Robot.Joints.length x.Link
  · rfl
  · simp only [Bool.not_true, cond_false, Bool.true_and]
    by_cases h1 : x.Radius < 1
    · rw [bif_dpos h1, if_pos]; · rfl
      simp [betV]; omega
    · rw [bif_dneg h1]
      by_cases h2 : x.Radius > 1048576
      · rw [bif_dpos h2, if_pos]; · rfl
        simp [betV]; omega
      · rw [bif_dneg h2]
        by_cases h3 : x.Points.length = 0
        · rw [bif_dpos (by omega), if_pos (Or.inr (Or.inl h3))]; rfl
        · rw [bif_dneg (by omega)]
          by_cases h4 : 8 < x.Points.length
          · rw [bif_dpos (by omega), if_pos (Or.inr (Or.inr h4))]
          · have hb : betV x.Radius 1 1048576 = true := by simp [betV]; omega
            rw [bif_dneg (by omega), hb, if_neg (fun h5 => by rcases h5 with h5 | h5 | h5; · cases h5
                                                              · omega
                                                              · omega)]
            refine (scanI (fun i => sw (farP x.Points i) 805) x.Points.length (by omega) (fun j hj => ?_) ?_).trans ?_
            · rw [bif_dpos (by omega), grd_p (by omega), Int.toNat_natCast, wn (by omega)]
              refine (scanI (fun i => sw (bey (([(x.Points.getD j default).1, (x.Points.getD j default).2.1, (x.Points.getD j default).2.2] : List Int).getD i 0)) (Step3.fin 805)) 3 (by decide) (fun k hk => ?_) ?_).trans ?_
              · rw [bif_dpos (by omega), grd_p (by omega), wn (by omega), Int.toNat_natCast, ← sw_fin]
                simp only [bif_tb]; rfl
              · rw [bif_dneg (by omega)]
              · rw [scan_sw, far3]; unfold farP
                cases nearV (x.Points.getD j default) 4194304 <;> rfl
            · rw [bif_dneg (by omega)]
            · rw [scan_sw]; cases noneB (farP x.Points) x.Points.length <;> rfl
def errS (n : Nat) (l : List S_Shape) (i : Nat) : Option Int := sw (shapeV n (l.getD i default) != 0) (shapeV n (l.getD i default))
def badK (n : Nat) (l : List S_Skip) (i : Nat) : Bool := !(linkV n (l.getD i default).A && linkV n (l.getD i default).B)
def sceneV (s : S_Scene) : Int :=
  if robotV s.Robot ≠ 0 then robotV s.Robot else if 24 < s.Shapes.length then 901 else match scan (errS s.Robot.Joints.length s.Shapes) s.Shapes.length 0 with
    | some e => e
    | none => if 64 < s.Skips.length then 903 else if noneB (badK s.Robot.Joints.length s.Skips) s.Skips.length then 0 else 903
theorem scene_Check_e (s : S_Scene) : (scene_Check_C s).o = some (sceneV s) := by
  show (scene_Check_T s).run NN = _
  simp only [scene_Check_T, T.run, robot_Check_e, Option.bind_some, sceneV]
  by_cases h : robotV s.Robot = 0
  · rw [bif_nne h, if_neg (by simpa using h)]
    by_cases h1 : 24 < s.Shapes.length
    · rw [bif_dpos (by omega), if_pos h1]
    · rw [bif_dneg (by omega), if_neg h1]
      refine (scanI (errS s.Robot.Joints.length s.Shapes) s.Shapes.length (by omega) (fun j hj => ?_) ?_).trans ?_
      · rw [bif_dpos (by omega), grd_p (by omega), wn (by omega), Int.toNat_natCast]
        simp only [scene_checkShape_e, Option.bind_some]
        rw [sw_fin]; rfl
      · rw [bif_dneg (by omega)]
      · cases scan (errS s.Robot.Joints.length s.Shapes) s.Shapes.length 0 with
        | some e => rfl
        | none =>
          simp only
          by_cases h2 : 64 < s.Skips.length
          · rw [bif_dpos (by omega), if_pos h2]
          · rw [bif_dneg (by omega), if_neg h2]
            refine (scanI (fun i => sw (badK s.Robot.Joints.length s.Skips i) 903) s.Skips.length (by omega) (fun j hj => ?_) ?_).trans ?_
            · rw [bif_dpos (by omega), grd_p (by omega), wn (by omega), Int.toNat_natCast, ← sw_fin]
              simp only [scene_isLink_e, Option.bind_some, bif_out, andC_out, badK]
              cases linkV s.Robot.Joints.length (s.Skips.getD j default).A <;> cases linkV s.Robot.Joints.length (s.Skips.getD j default).B <;> rfl
            · rw [bif_dneg (by omega)]
            · rw [scan_sw]; cases noneB (badK s.Robot.Joints.length s.Skips) s.Skips.length <;> rfl
  · rw [bif_neq h, if_pos h]
def outJ (l : List S_Joint) (c : List Int) (i : Nat) : Bool := decide (c.getD i default < (l.getD i default).Lo) || decide (c.getD i default > (l.getD i default).Hi)
def insideV (r : S_Robot) (c : List Int) : Bool := decide (robotV r = 0) && (decide (c.length = r.Joints.length) && noneB (outJ r.Joints c) c.length)
theorem config_every_e (l : List S_Joint) (c : List Int) (h : l.length < 4294967296) : (config_every_api_Joint_int64_C l c).o = some (decide (c.length = l.length) && noneB (outJ l c) c.length) := by
  show (config_every_api_Joint_int64_T l c).run NN = _
  simp only [config_every_api_Joint_int64_T, T.run]
  have e1 : ∀ j x, (config_Inside_1_C j x).o = some (decide (j.Lo ≤ x) && decide (x ≤ j.Hi)) := fun j x => by
    show (config_Inside_1_T j x).run NN = _
    simp only [config_Inside_1_T, T.run, bif_some, bif_bf]
  by_cases h1 : c.length = l.length
  · rw [bif_nne (by omega), decide_eq_true h1, Bool.true_and]
    refine (scanI (fun i => sw (outJ l c i) false) l.length h (fun j hj => ?_) ?_).trans ?_
    · rw [bif_dpos (by omega), grd_p (by omega), grd_p (by omega), wn (by omega), Int.toNat_natCast, ← sw_fin]
      simp only [e1, Option.bind_some]
      refine congrArg (fun b => bif b then some (Step3.fin false) else some (Step3.next ((j + 1 : Nat) : Int))) ?_
      rw [Bool.eq_iff_iff]
      simp only [outJ, Bool.not_eq_true', Bool.and_eq_false_iff, Bool.or_eq_true, decide_eq_true_eq, decide_eq_false_iff_not]
      omega
    · rw [bif_dneg (by omega)]
    · rw [scan_sw, h1]; cases noneB (outJ l c) l.length <;> rfl
  · rw [bif_neq (by omega), decide_eq_false h1]; rfl
theorem config_Inside_e (r : S_Robot) (c : List Int) : (config_Inside_C r c).o = some (insideV r c) := by
  show (config_Inside_T r c).run NN = _
  simp only [config_Inside_T, T.run, robot_Check_e, Option.bind_some, insideV]
  by_cases h : robotV r = 0
  · have := robotV_ok h
    rw [bif_eq h, config_every_e _ _ (by omega), decide_eq_true h]; rfl
  · rw [bif_ne h, decide_eq_false h]; rfl
def big1 (l : List Int) (i : Nat) : Bool := decide (l.getD i default < -2147483648) || decide (l.getD i default > 2147483648)
def smallV (l : List Int) : Bool := noneB (big1 l) l.length
theorem config_small_e (l : List Int) (h : l.length < 4294967296) : (config_small_C l).o = some (smallV l) := by
  show (config_small_T l).run NN = _
  have e1 : ∀ x, (config_small_1_C x).o = some (decide (x < -2147483648) || decide (x > 2147483648)) := fun x => by
    show (config_small_1_T x).run NN = _
    simp only [config_small_1_T, T.run, bif_some, bif_tb]
  have e2 : (slices_IndexFunc_int64_int64_C l).o = some (match scan (fun i => sw (big1 l i) (i : Int)) l.length 0 with | some x => x | none => -1) := by
    show (slices_IndexFunc_int64_int64_T l).run NN = _
    simp only [slices_IndexFunc_int64_int64_T, T.run]
    refine (scanI (fun i => sw (big1 l i) (i : Int)) l.length h (fun j hj => ?_) ?_).trans ?_
    · rw [bif_dpos (by omega), grd_p (by omega), wn (by omega), Int.toNat_natCast, ← sw_fin]
      simp only [e1, Option.bind_some, big1]
    · rw [bif_dneg (by omega)]
    · cases scan (fun i => sw (big1 l i) (i : Int)) l.length 0 <;> rfl
  have e3 : (slices_ContainsFunc_int64_int64_C l).o = some (!smallV l) := by
    show (slices_ContainsFunc_int64_int64_T l).run NN = _
    simp only [slices_ContainsFunc_int64_int64_T, T.run, e2, Option.bind_some]
    rw [scan_ge]; rfl
  simp only [config_small_T, T.run, e3, Option.bind_some, Bool.not_not]
def motionV (p q : List Int) (d : Int) : Bool := smallV p && (smallV q && (decide (p.length = q.length) && (decide (0 ≤ d) && decide (d ≤ 20))))
theorem beq_len {a b : Nat} : ((a : Int) == (b : Int)) = decide (a = b) := by rw [Bool.eq_iff_iff]; simp only [beq_iff_eq, decide_eq_true_eq]; omega
theorem config_isMotion_e (p q : List Int) (d : Int) (hp : p.length < 4294967296) (hq : q.length < 4294967296) : (config_isMotion_C p q d).o = some (motionV p q d) := by
  show (config_isMotion_T p q d).run NN = _
  simp only [config_isMotion_T, T.run, config_small_e p hp, config_small_e q hq, Option.bind_some, motionV, beq_len]
  cases decide (p.length = q.length) <;> cases smallV p <;> cases smallV q <;> cases decide (0 ≤ d) <;> rfl
def pieceI (p q : List Int) (d : Nat) (i : Int) (k : Nat) : S_Interval :=
  ⟨p.getD k default + min (i * (q.getD k default - p.getD k default)) ((i + 1) * (q.getD k default - p.getD k default)) / 2 ^ d,
   p.getD k default + cdiv (max (i * (q.getD k default - p.getD k default)) ((i + 1) * (q.getD k default - p.getD k default))) (2 ^ d)⟩
def pieceV (p q : List Int) (d i : Int) : List S_Interval × Bool :=
  if motionV p q d = true ∧ 0 ≤ i ∧ i < 2 ^ d.toNat then (tab (pieceI p q d.toNat i) p.length, true) else (nl, false)
theorem small_get {l : List Int} (h : smallV l = true) {i : Nat} (hi : i < l.length) : -2147483648 ≤ l.getD i default ∧ l.getD i default ≤ 2147483648 := by
  have := noneB_iff.1 h i hi
  simp only [big1, Bool.or_eq_false_iff, decide_eq_false_iff_not] at this
  omega
theorem motionV_iff {p q : List Int} {d : Int} : motionV p q d = true ↔ smallV p = true ∧ smallV q = true ∧ p.length = q.length ∧ 0 ≤ d ∧ d ≤ 20 := by
  simp only [motionV, Bool.and_eq_true, decide_eq_true_eq]
theorem pow20 {k : Nat} (h : k ≤ 20) : (2 : Int) ^ k ≤ 1048576 := by
  have : (2 : Int) ^ k ≤ 2 ^ 20 := by
    exact_mod_cast Nat.pow_le_pow_right (by decide : 0 < 2) h
  have e : (2 : Int) ^ 20 = 1048576 := by decide
  omega
theorem mul52 {i D : Int} (h0 : 0 ≤ i) (h1 : i ≤ 1048576) (h2 : -4294967296 ≤ D ∧ D ≤ 4294967296) : -4503599627370496 ≤ i * D ∧ i * D ≤ 4503599627370496 := by
  have h : (i * D).natAbs ≤ 1048576 * 4294967296 := by rw [Int.natAbs_mul]; exact Nat.mul_le_mul (by omega) (by omega)
  omega
theorem config_down_e (a : Int) (k : Nat) (hk : k ≤ 64) : (config_down_C a (k : Int)).o = some (a / 2 ^ k) := by
  show (config_down_T a (k : Int)).run NN = _
  simp only [config_down_T, T.run]
  rw [grd_p (by omega), Int.toNat_natCast, Nat.min_eq_left hk, fdiv_pow]
section
variable {a b i : Int} {k : Nat} (ha : -2147483648 ≤ a ∧ a ≤ 2147483648) (hb : -2147483648 ≤ b ∧ b ≤ 2147483648) (h0 : 0 ≤ i) (hi : i < 2 ^ k) (hk : k ≤ 20)
include ha hb h0 hi hk
theorem piece_in : IntKind.i64.wrap (b - a) = b - a ∧ IntKind.i64.wrap (i + 1) = i + 1 ∧ IntKind.i64.wrap (i * (b - a)) = i * (b - a) ∧ IntKind.i64.wrap ((i + 1) * (b - a)) = (i + 1) * (b - a) ∧
    InR (min (i * (b - a)) ((i + 1) * (b - a))) ∧ InR (max (i * (b - a)) ((i + 1) * (b - a))) ∧ InR (-(max (i * (b - a)) ((i + 1) * (b - a)))) ∧
    InR (a + min (i * (b - a)) ((i + 1) * (b - a)) / 2 ^ k) ∧ InR (a + cdiv (max (i * (b - a)) ((i + 1) * (b - a))) (2 ^ k)) := by
  have p20 := pow20 hk
  have hp := two_pow_pos k
  have m1 := mul52 h0 (by omega) (show -4294967296 ≤ b - a ∧ b - a ≤ 4294967296 by omega)
  have m2 := mul52 (i := i + 1) (by omega) (by omega) (show -4294967296 ≤ b - a ∧ b - a ≤ 4294967296 by omega)
  generalize i * (b - a) = u at *
  generalize (i + 1) * (b - a) = v at *
  have b1 : -4503599627370496 ≤ min u v ∧ min u v ≤ 4503599627370496 := by omega
  have b2 : -4503599627370496 ≤ max u v ∧ max u v ≤ 4503599627370496 := by omega
  have d1 := div_bd (a := min u v) hp
  have d2 := cdiv_bd (a := max u v) hp
  refine ⟨w64 (by omega) (by omega), w64 (by omega) (by omega), w64 (by omega) (by omega), w64 (by omega) (by omega), ⟨by omega, by omega⟩, ⟨by omega, by omega⟩, ⟨by omega, by omega⟩, ?_, ?_⟩
  · generalize min u v = x at *
    generalize x / 2 ^ k = y at *
    by_cases hx : 0 ≤ x
    · have := d1.1 hx; exact ⟨by omega, by omega⟩
    · have := d1.2 (by omega); exact ⟨by omega, by omega⟩
  · generalize max u v = x at *
    generalize cdiv x (2 ^ k) = y at *
    by_cases hx : 0 < x
    · have := d2.1 hx; exact ⟨by omega, by omega⟩
    · have := d2.2 (by omega); exact ⟨by omega, by omega⟩
theorem config_Piece_1_e : (config_Piece_1_C a b i (k : Int)).o = some (⟨a + min (i * (b - a)) ((i + 1) * (b - a)) / 2 ^ k, a + cdiv (max (i * (b - a)) ((i + 1) * (b - a))) (2 ^ k)⟩, i, (k : Int)) := by
  obtain ⟨e1, e2, e3, e4, e5, e6, e7, e8, e9⟩ := piece_in ha hb h0 hi hk
  show (config_Piece_1_T a b i (k : Int)).run NN = _
  have e0 : IntKind.i64.wrap (0 - max (i * (b - a)) ((i + 1) * (b - a))) = -(max (i * (b - a)) ((i + 1) * (b - a))) := by rw [Int.zero_sub]; exact e7.w
  have e10 : a - -(max (i * (b - a)) ((i + 1) * (b - a))) / 2 ^ k = a + cdiv (max (i * (b - a)) ((i + 1) * (b - a))) (2 ^ k) := by unfold cdiv; omega
  simp only [config_Piece_1_T, T.run, e1, e2, e3, e4, e0, config_down_e _ k (show k ≤ 64 by omega), Option.bind_some, e8.w, e10, e9.w]
end
theorem config_joined_e {p q : List Int} {k : Nat} {i : Int} (hp : smallV p = true) (hq : smallV q = true) (hl : p.length = q.length) (hn : p.length < 4294967296) (h0 : 0 ≤ i) (hi : i < 2 ^ k) (hk : k ≤ 20) :
    (config_joined_int64_int64_api_Interval_C p q i (k : Int)).o = some (tab (pieceI p q k i) p.length, i, (k : Int)) := by
  show (config_joined_int64_int64_api_Interval_T p q i (k : Int)).run NN = _
  simp only [config_joined_int64_int64_api_Interval_T, T.run]
  rw [grd_p ⟨by omega, by omega, by omega, by omega⟩, Int.toNat_natCast]
  refine (loop_to (fun j => (i, (k : Int), half (pieceI p q k i) ⟨0, 0⟩ p.length j, (j : Int))) (i, (k : Int), tab (pieceI p q k i) p.length) p.length ?_ hn (fun j hj => ?_) ?_).trans rfl
  · rw [half_zero]; rfl
  · rw [bif_dpos (by simpa using hj), grd_p ⟨by simp, by simpa using hj⟩, grd_p ⟨by simp, by simp; omega⟩]
    simp only [Int.toNat_natCast, config_Piece_1_e (small_get hp hj) (small_get hq (by omega : j < q.length)) h0 hi hk, Option.bind_some, half_len (show j ≤ p.length by omega)]
    rw [grd_p ⟨by omega, by omega⟩, grd_p ⟨hj, by omega⟩, wn (by omega)]
    exact congrArg (fun x => some (Step3.next (i, (k : Int), x, ((j + 1 : Nat) : Int)))) (half_set hj)
  · rw [bif_dneg (by simp)]; simp only [half_all]
theorem w2k {k : Nat} (h : k ≤ 20) : IntKind.i64.wrap (1 * 2 ^ k) = 2 ^ k := by
  have := pow20 h; have := two_pow_pos k
  rw [Int.one_mul]; exact w64 (by omega) (by omega)
theorem config_Piece_e (p q : List Int) (d i : Int) (hp : p.length < 4294967296) (hq : q.length < 4294967296) : (config_Piece_C p q d i).o = some (pieceV p q d i) := by
  show (config_Piece_T p q d i).run NN = _
  simp only [config_Piece_T, T.run, config_isMotion_e p q d hp hq, Option.bind_some, pieceV]
  by_cases hm : motionV p q d = true
  · have hm' := motionV_iff.1 hm
    obtain ⟨k, rfl⟩ : ∃ k : Nat, d = (k : Int) := ⟨d.toNat, by omega⟩
    have hk : k ≤ 20 := by omega
    rw [hm, Int.toNat_natCast]
    simp only [Bool.not_true, cond_false]
    by_cases h0 : i < 0
    · rw [bif_dpos h0, if_neg (by omega)]; rfl
    · rw [bif_dneg h0, grd_p (by omega), Nat.min_eq_left (by omega), w2k hk]
      simp only [andC_out]
      by_cases h1 : i ≥ 2 ^ k
      · rw [bif_dpos h1, if_neg (by omega)]
      · rw [bif_dneg h1, if_pos ⟨trivial, by omega, by omega⟩, config_joined_e hm'.1 hm'.2.1 hm'.2.2.1 hp (by omega) (by omega) hk]; rfl
  · rw [if_neg (fun h => hm h.1)]
    simp only [Bool.not_eq_true] at hm
    rw [hm]; rfl
structure JointOk (l : List S_Joint) (i : Nat) : Prop where
  kind : 0 ≤ (l.getD i default).Kind ∧ (l.getD i default).Kind ≤ 6
  parent : -1 ≤ (l.getD i default).Parent ∧ (l.getD i default).Parent < (i : Int)
  off : nearV (l.getD i default).Offset 4194304 = true
  lim : (l.getD i default).Lo ≤ (l.getD i default).Hi ∧ -reachV (l.getD i default).Kind ≤ (l.getD i default).Lo ∧ (l.getD i default).Hi ≤ reachV (l.getD i default).Kind
  cost : costV (l.getD i default) = true
theorem jointB_ok {l : List S_Joint} {i : Nat} (h : jointB l i = 0) : JointOk l i := by
  unfold jointB at h
  simp only at h
  split at h
  · cases h
  · split at h
    · cases h
    · rename_i h2
      split at h
      · cases h
      · rename_i h3
        split at h
        · cases h
        · rename_i h4
          split at h
          · cases h
          · rename_i h5
            split at h
            · cases h
            · rename_i h6
              simp only [Bool.or_eq_true, decide_eq_true_eq, Bool.not_eq_true', Bool.not_eq_false] at h2 h3 h4 h5 h6
              exact ⟨by omega, by omega, h4, by omega, h6⟩
theorem robot_joint {r : S_Robot} (h : robotV r = 0) {i : Nat} (hi : i < r.Joints.length) : JointOk r.Joints i := jointB_ok ((robotV_ok h).2.2 i hi)
def notV (b : List S_Interval) (i : Nat) : Bool := !vV (b.getD i default)
def boxV (r : S_Robot) (b : List S_Interval) : Bool := decide (b.length = r.Joints.length) && noneB (notV b) b.length
theorem kinematics_isBox_e (r : S_Robot) (b : List S_Interval) (h : b.length < 4294967296) : (kinematics_isBox_C r b).o = some (boxV r b) := by
  have e1 : ∀ x, (kinematics_isBox_1_C x).o = some (!vV x) := fun x => by
    show (kinematics_isBox_1_T x).run NN = _
    simp only [kinematics_isBox_1_T, T.run, interval_Valid_e, Option.bind_some]
  have e2 : (slices_IndexFunc_api_Interval_api_Interval_C b).o = some (match scan (fun i => sw (notV b i) (i : Int)) b.length 0 with | some x => x | none => -1) := by
    show (slices_IndexFunc_api_Interval_api_Interval_T b).run NN = _
    simp only [slices_IndexFunc_api_Interval_api_Interval_T, T.run, e1, Option.bind_some]
    refine (scanI (fun i => sw (notV b i) (i : Int)) b.length h (fun j hj => ?_) ?_).trans ?_
    · rw [bif_dpos (by omega), grd_p (by omega), wn (by omega), Int.toNat_natCast, ← sw_fin]; rfl
    · rw [bif_dneg (by omega)]
    · cases scan (fun i => sw (notV b i) (i : Int)) b.length 0 <;> rfl
  have e3 : (slices_ContainsFunc_api_Interval_api_Interval_C b).o = some (!noneB (notV b) b.length) := by
    show (slices_ContainsFunc_api_Interval_api_Interval_T b).run NN = _
    simp only [slices_ContainsFunc_api_Interval_api_Interval_T, T.run, e2, Option.bind_some]
    exact congrArg some scan_ge
  show (kinematics_isBox_T r b).run NN = _
  simp only [kinematics_isBox_T, T.run, e3, Option.bind_some, boxV, beq_len, Bool.not_not]
  cases decide (b.length = r.Joints.length) <;> rfl
section
variable (r : S_Robot) (b : List S_Interval)
def lk1 (L : List S_Pose) (i : Nat) : S_Pose :=
  if (r.Joints.getD i default).Parent = -1 then jointV (r.Joints.getD i default) (b.getD i default) else compV (L.getD (r.Joints.getD i default).Parent.toNat default) (jointV (r.Joints.getD i default) (b.getD i default))
def lkL : Nat → List S_Pose
  | 0 => []
  | i + 1 => lkL i ++ [lk1 r b (lkL i) i]
def lkP (i : Nat) : S_Pose := lk1 r b (lkL r b i) i
theorem lk_tab : ∀ j, lkL r b j = tab (lkP r b) j
  | 0 => rfl
  | j + 1 => by rw [tab_succ, ← lk_tab j]; rfl
end
variable {r : S_Robot} {b : List S_Interval}
theorem half_get {α : Type} {f : Nat → α} {z d : α} {n j i : Nat} (h : i < j) : (half f z n j).getD i d = f i := by
  unfold half
  rw [List.getD_eq_getElem?_getD, List.getElem?_append_left (by rw [tab_len]; exact h), ← List.getD_eq_getElem?_getD, tab_get h]
theorem set_get_ne {α : Type} {l : List α} {i j : Nat} {x d : α} (h : i ≠ j) : (l.set i x).getD j d = l.getD j d := by
  rw [List.getD_eq_getElem?_getD, List.getElem?_set_ne h, List.getD_eq_getElem?_getD]
theorem set_get_eq {α : Type} {l : List α} {i : Nat} {x d : α} (h : i < l.length) : (l.set i x).getD i d = x := by
  rw [List.getD_eq_getElem?_getD, List.getElem?_set_self h]; rfl
theorem kinematics_links_e (hr : robotV r = 0) (hb : boxV r b = true) : (kinematics_links_C r b).o = some (tab (lkP r b) r.Joints.length) := by
  have hr' := robotV_ok hr
  have hb' := hb
  simp only [boxV, Bool.and_eq_true, decide_eq_true_eq] at hb'
  show (kinematics_links_T r b).run NN = _
  simp only [kinematics_links_T, T.run]
  rw [grd_p ⟨by omega, by omega, by omega, by omega⟩, Int.toNat_natCast]
  refine (loop_to (fun j => (half (lkP r b) (⟨(izv, izv, izv), izv⟩ : S_Pose) r.Joints.length j, (j : Int))) (tab (lkP r b) r.Joints.length) r.Joints.length ?_ (show r.Joints.length < 4294967296 by omega) (fun j hj => ?_) ?_).trans rfl
  · rw [half_zero]; rfl
  · have jo := robot_joint hr hj
    have jp := jo.parent
    rw [bif_dpos (by simp; omega), grd_p ⟨by simp, by simpa using hj⟩, grd_p ⟨by simp, by simp; omega⟩]
    simp only [Int.toNat_natCast, kinematics_Joint_e, Option.bind_some, List.length_set, half_len (show j ≤ r.Joints.length by omega)]
    rw [grd_p ⟨by omega, by omega⟩, grd_p ⟨hj, by omega⟩, wn (by omega)]
    by_cases hp : (r.Joints.getD j default).Parent = -1
    · have e : lkP r b j = jointV (r.Joints.getD j default) (b.getD j default) := by unfold lkP lk1; rw [if_pos hp]
      rw [bif_nne hp]
      simp only [andC_out]
      rw [← half_set hj, e]
    · have e : lkP r b j = compV (lkP r b (r.Joints.getD j default).Parent.toNat) (jointV (r.Joints.getD j default) (b.getD j default)) := by
        conv => lhs; unfold lkP lk1
        rw [if_neg hp, lk_tab, tab_get (by omega)]
      rw [bif_neq hp, grd_p ⟨by omega, by omega⟩, grd_p (by omega), grd_p ⟨by omega, by omega⟩, grd_p hj, set_get_ne (by omega), half_get (by omega), set_get_eq (by rw [half_len (by omega)]; exact hj)]
      simp only [pose_Compose_e, Option.bind_some]
      rw [grd_p ⟨by omega, by omega⟩, grd_p ⟨hj, by omega⟩, andC_out, List.set_set, ← e, half_set hj]
  · rw [bif_dneg (by simp)]; simp only [half_all]
def shapeOk (x : S_Shape) : Bool := (betV x.Radius 1 1048576 && decide (1 ≤ x.Points.length ∧ x.Points.length ≤ 8)) && noneB (farP x.Points) x.Points.length
def placeV (x : S_Shape) (p : S_Pose) : List IV3 := if shapeOk x then tab (fun i => moveV p (pointV (x.Points.getD i default))) x.Points.length else nl
theorem shapeOk_len {x : S_Shape} (h : shapeOk x = true) : 1 ≤ x.Points.length ∧ x.Points.length ≤ 8 := by
  simp only [shapeOk, Bool.and_eq_true, decide_eq_true_eq] at h; exact h.1.2
theorem shape_cond (x : S_Shape) {α : Type} (k : Bool → Option α) : (andC (bif decide (x.Radius < 1) then some (.out true) else bif decide (x.Radius > 1048576) then some (.out true) else bif decide ((x.Points.length : Int) < 1) then some (.out true) else
    some (.out (decide ((x.Points.length : Int) > 8)))) k) = k (!(betV x.Radius 1 1048576 && decide (1 ≤ x.Points.length ∧ x.Points.length ≤ 8))) := by
  simp only [bif_out, andC_out]
  congr 1
  rw [Bool.eq_iff_iff]
  simp only [bif_tb, betV, Bool.or_eq_true, Bool.not_eq_true', Bool.and_eq_false_iff, decide_eq_true_eq, decide_eq_false_iff_not]
  omega
theorem shape_Check_e (x : S_Shape) : (shape_Check_C x).o = some (shapeOk x) := by
  show (shape_Check_T x).run NN = _
  simp only [shape_Check_T, T.run, shape_cond, shapeOk]
  cases h : betV x.Radius 1 1048576 && decide (1 ≤ x.Points.length ∧ x.Points.length ≤ 8)
  · rfl
  · simp only [Bool.and_eq_true, decide_eq_true_eq] at h
    simp only [Bool.not_true, cond_false, Bool.true_and]
    refine (scanI (fun i => sw (farP x.Points i) false) x.Points.length (by omega) (fun j hj => ?_) ?_).trans ?_
    · rw [bif_dpos (by omega), grd_p (by omega), Int.toNat_natCast, wn (by omega)]
      refine (scanI (fun i => sw (bey (([(x.Points.getD j default).1, (x.Points.getD j default).2.1, (x.Points.getD j default).2.2] : List Int).getD i 0)) (Step3.fin false)) 3 (by decide) (fun k hk => ?_) ?_).trans ?_
      · rw [bif_dpos (by omega), grd_p (by omega), wn (by omega), Int.toNat_natCast, ← sw_fin]
        simp only [bif_out, andC_out, bif_tb]; rfl
      · rw [bif_dneg (by omega)]
      · rw [scan_sw, far3]; unfold farP
        cases nearV (x.Points.getD j default) 4194304 <;> rfl
    · rw [bif_dneg (by omega)]
    · rw [scan_sw]; cases noneB (farP x.Points) x.Points.length <;> rfl
theorem shape_Place_e (x : S_Shape) (p : S_Pose) : (shape_Place_C x p).o = some (placeV x p) := by
  show (shape_Place_T x p).run NN = _
  simp only [shape_Place_T, T.run, shape_Check_e, Option.bind_some, placeV]
  cases h : shapeOk x
  · rfl
  · have hl := shapeOk_len h
    simp only [Bool.not_true, cond_false, if_true]
    rw [grd_p ⟨by omega, by omega, by omega, by omega⟩, Int.toNat_natCast]
    refine (loop_to (fun j => (half (fun i => moveV p (pointV (x.Points.getD i default))) izv x.Points.length j, (j : Int))) (tab (fun i => moveV p (pointV (x.Points.getD i default))) x.Points.length) x.Points.length ?_ (show x.Points.length < 4294967296 by omega) (fun j hj => ?_) ?_).trans rfl
    · rw [half_zero]; rfl
    · rw [bif_dpos (by simpa using hj), grd_p ⟨by simp, by simpa using hj⟩]
      simp only [Int.toNat_natCast, matrix_Point_e, pose_Apply_e, Option.bind_some, half_len (show j ≤ x.Points.length by omega)]
      rw [grd_p ⟨by omega, by omega⟩, grd_p ⟨hj, by omega⟩, wn (by omega), ← half_set hj]
    · rw [bif_dneg (by simp)]; simp only [half_all]
def linkP (r : S_Robot) (b : List S_Interval) (k : Int) : S_Pose := if k = -1 then restV else lkP r b k.toNat
def pointsF (s : S_Scene) (b : List S_Interval) (i : Nat) : List IV3 := placeV (s.Shapes.getD i default) (linkP s.Robot b (s.Shapes.getD i default).Link)
def pointsV (s : S_Scene) (b : List S_Interval) : List (List IV3) := if sceneV s = 0 ∧ boxV s.Robot b = true then tab (pointsF s b) s.Shapes.length else nl
structure SceneOk (s : S_Scene) : Prop where
  robot : robotV s.Robot = 0
  len : s.Shapes.length ≤ 24
  shape : ∀ i, i < s.Shapes.length → shapeV s.Robot.Joints.length (s.Shapes.getD i default) = 0
  skips : s.Skips.length ≤ 64
theorem sceneV_ok {s : S_Scene} (h : sceneV s = 0) : SceneOk s := by
  unfold sceneV at h
  split at h
  · rename_i h1; exact absurd h h1
  · rename_i h1
    split at h
    · cases h
    · rename_i h2
      split at h
      · rename_i e he
        obtain ⟨j, -, -, h3, -⟩ := scan_some _ _ he
        unfold errS sw at h3
        cases hb : shapeV s.Robot.Joints.length (s.Shapes.getD j default) != 0 with
        | false => rw [hb] at h3; cases h3
        | true =>
          rw [hb] at h3; simp only [cond_true, Option.some.injEq] at h3
          simp only [bne_iff_ne] at hb
          rw [h3] at hb; exact absurd h hb
      · rename_i he
        split at h
        · cases h
        · rename_i h4
          refine ⟨by simpa using h1, by omega, fun i hi => ?_, by omega⟩
          have := (scan_none _ _).1 he i (Nat.zero_le _) (by omega)
          unfold errS sw at this
          cases hb : shapeV s.Robot.Joints.length (s.Shapes.getD i default) != 0 with
          | false => simpa using hb
          | true => rw [hb] at this; cases this
theorem shapeV_ok {n : Nat} {x : S_Shape} (h : shapeV n x = 0) : shapeOk x = true ∧ -1 ≤ x.Link ∧ x.Link < (n : Int) := by
  unfold shapeV at h
  split at h
  · cases h
  · rename_i h1
    split at h
    · rename_i h2
      have hb : (linkV n x.Link && betV x.Radius 1 1048576) = true := by
        cases hc : (linkV n x.Link && betV x.Radius 1 1048576) with
        | true => rfl
        | false => exact absurd (Or.inl hc) h1
      simp only [Bool.and_eq_true] at hb
      refine ⟨?_, ?_⟩
      · simp only [shapeOk, Bool.and_eq_true, decide_eq_true_eq]; exact ⟨⟨hb.2, by omega⟩, h2⟩
      · have := hb.1; simp only [linkV, Bool.and_eq_true, decide_eq_true_eq] at this; exact this
    · cases h
theorem kinematics_Points_e (s : S_Scene) (b : List S_Interval) (hbl : b.length < 4294967296) : (kinematics_Points_C s b).o = some (pointsV s b) := by
  show (kinematics_Points_T s b).run NN = _
  simp only [kinematics_Points_T, T.run, scene_Check_e, kinematics_isBox_e _ b hbl, Option.bind_some, pointsV]
  cases hb : boxV s.Robot b
  · rw [if_neg (fun h => by cases h.2)]; rfl
  · simp only [Bool.not_true, cond_false, andC_out]
    by_cases h : sceneV s = 0
    · have so := sceneV_ok h
      have so2 := so.len
      rw [if_pos ⟨h, trivial⟩, bif_nne h, kinematics_links_e so.robot hb, Option.bind_some, grd_p ⟨by omega, by omega, by omega, by omega⟩, Int.toNat_natCast]
      refine (loop_to (fun j => (half (pointsF s b) nl s.Shapes.length j, (j : Int))) (tab (pointsF s b) s.Shapes.length) s.Shapes.length ?_ (show s.Shapes.length < 4294967296 by omega) (fun j hj => ?_) ?_).trans rfl
      · rw [half_zero]; rfl
      · have sl := (shapeV_ok (so.shape j hj)).2
        rw [bif_dpos (by simpa using hj), grd_p ⟨by simp, by simpa using hj⟩]
        simp only [Int.toNat_natCast, pose_Identity_e, Option.bind_some, half_len (show j ≤ s.Shapes.length by omega)]
        rw [wn (by omega), ← half_set hj]
        by_cases hp : (s.Shapes.getD j default).Link = -1
        · have e : pointsF s b j = placeV (s.Shapes.getD j default) restV := by unfold pointsF linkP; rw [if_pos hp]
          rw [bif_nne hp]
          simp only [andC_out, shape_Place_e, Option.bind_some]
          rw [grd_p ⟨by omega, by omega⟩, grd_p ⟨hj, by omega⟩, e]
        · have e : pointsF s b j = placeV (s.Shapes.getD j default) ((tab (lkP s.Robot b) s.Robot.Joints.length).getD (s.Shapes.getD j default).Link.toNat default) := by
            unfold pointsF linkP; rw [if_neg hp, tab_get (by omega)]
          rw [bif_neq hp, grd_p ⟨by omega, by rw [tab_len]; omega⟩]
          simp only [andC_out, shape_Place_e, Option.bind_some]
          rw [grd_p ⟨by omega, by omega⟩, grd_p ⟨hj, by omega⟩, e]
      · rw [bif_dneg (by simp)]; simp only [half_all]
    · rw [if_neg (fun h' => h h'.1), bif_neq h]
section
variable (par : Nat → Nat) (mv : Nat → Prop) [DecidablePred mv]
inductive AncN : Nat → Nat → Prop
  | self {m : Nat} : 0 < m → AncN m m
  | up {m x : Nat} : 0 < m → AncN (par m) x → AncN m x
def cF : Nat → Nat → Nat
  | 0, _ => 0
  | d + 1, m => if m = 0 then 0 else if mv m then m else cF d (par m)
end
section
variable {par : Nat → Nat} {mv : Nat → Prop} [DecidablePred mv]
theorem cF_fuel {n : Nat} (hp : ∀ m, 0 < m → m ≤ n → par m < m) : ∀ (d d' m : Nat), m ≤ n → m < d → m < d' → cF par mv d m = cF par mv d' m
  | 0, _, _, _, h, _ => by omega
  | _, 0, _, _, _, h => by omega
  | d + 1, d' + 1, m, hm, h1, h2 => by
    simp only [cF]
    by_cases h0 : m = 0
    · simp only [h0, if_true]
    · simp only [h0, if_false]
      have := hp m (by omega) hm
      by_cases hv : mv m
      · simp only [hv, if_true]
      · simp only [hv, if_false]; exact cF_fuel hp d d' (par m) (by omega) (by omega) (by omega)
end
section
variable (r : S_Robot)
def parN (m : Nat) : Nat := ((r.Joints.getD (m - 1) default).Parent + 1).toNat
def mvN (m : Nat) : Prop := (r.Joints.getD (m - 1) default).Lo ≠ (r.Joints.getD (m - 1) default).Hi
instance : DecidablePred (mvN r) := fun m => inferInstanceAs (Decidable (_ ≠ _))
def carN (m : Nat) : Nat := cF (parN r) (mvN r) (r.Joints.length + 1) m
end
variable {r : S_Robot} (hr : robotV r = 0)
include hr
theorem parN_lt : ∀ m, 0 < m → m ≤ r.Joints.length → parN r m < m := fun m h0 hm => by
  have := (robot_joint hr (show m - 1 < r.Joints.length by omega)).parent
  unfold parN; omega
omit hr in
theorem carN_zero : carN r 0 = 0 := by
  unfold carN; simp only [cF, if_true]
theorem carN_succ {i : Nat} (hi : i < r.Joints.length) : carN r (i + 1) = if (r.Joints.getD i default).Lo = (r.Joints.getD i default).Hi then carN r ((r.Joints.getD i default).Parent + 1).toNat else i + 1 := by
  have hl := parN_lt hr (i + 1) (by omega) (by omega)
  unfold carN
  conv => lhs; simp only [cF]
  rw [if_neg (by omega)]
  by_cases h : (r.Joints.getD i default).Lo = (r.Joints.getD i default).Hi
  · rw [if_neg (fun hm => hm h), if_pos h]
    exact cF_fuel (parN_lt hr) _ _ (parN r (i + 1)) (by omega) (by omega) (by omega)
  · rw [if_pos (show mvN r (i + 1) from h), if_neg h]
def caP (r : S_Robot) (m : Nat) : Int := (carN r m : Int) - 1
theorem scene_carriers_e : (scene_carriers_C r).o = some (tab (caP r) (r.Joints.length + 1)) := by
  have hr' := robotV_ok hr
  show (scene_carriers_T r).run NN = _
  simp only [scene_carriers_T, T.run]
  rw [wn (by omega), Int.toNat_natCast, grd_p ⟨by omega, by omega, by omega, by omega⟩]
  simp only [List.length_replicate]
  rw [grd_p ⟨by omega, by omega⟩, grd_p ⟨by simp, by omega⟩]
  refine (loop_to (fun j => (half (caP r) 0 (r.Joints.length + 1) (j + 1), (j : Int))) (tab (caP r) (r.Joints.length + 1)) r.Joints.length ?_ (show r.Joints.length < 4294967296 by omega) (fun j hj => ?_) ?_).trans rfl
  · rw [← half_set (by omega), half_zero]
    have : caP r 0 = -1 := by unfold caP; rw [carN_zero]; rfl
    rw [this]; rfl
  · have jp := (robot_joint hr hj).parent
    rw [bif_dpos (by simpa using hj), grd_p ⟨by simp, by simpa using hj⟩]
    simp only [Int.toNat_natCast, half_len (show j + 1 ≤ r.Joints.length + 1 by omega), List.length_set]
    rw [wn (by omega), Int.toNat_natCast, grd_p ⟨by omega, by omega⟩, grd_p ⟨by omega, by omega⟩, w64 (x := (r.Joints.getD j default).Parent + 1) (by omega) (by omega)]
    have e := carN_succ hr hj
    by_cases h : (r.Joints.getD j default).Lo = (r.Joints.getD j default).Hi
    · have e2 : caP r (j + 1) = caP r ((r.Joints.getD j default).Parent + 1).toNat := by unfold caP; rw [e, if_pos h]
      rw [bif_eq h, grd_p ⟨by omega, by omega⟩, grd_p (by omega), grd_p ⟨by omega, by omega⟩, grd_p ⟨by omega, by omega⟩, set_get_ne (by omega), half_get (by omega), andC_out, List.set_set, ← half_set (j := j + 1) (by omega), e2]
    · have e2 : caP r (j + 1) = (j : Int) := by unfold caP; rw [e, if_neg h]; omega
      rw [bif_ne h, andC_out, ← half_set (j := j + 1) (by omega), e2]
  · rw [bif_dneg (by simp)]; simp only [half_all]
omit hr
def skB (l : List S_Skip) (a b : Int) (i : Nat) : Bool := ((l.getD i default).A == a && (l.getD i default).B == b) || ((l.getD i default).A == b && (l.getD i default).B == a)
def skV (s : S_Scene) (a b : Int) : Bool := !noneB (skB s.Skips a b) s.Skips.length
theorem scene_Skipped_e (s : S_Scene) (a b : Int) (h : s.Skips.length < 4294967296) : (scene_Skipped_C s a b).o = some (skV s a b) := by
  show (scene_Skipped_T s a b).run NN = _
  simp only [scene_Skipped_T, T.run, bif_out, andC_out, Bool.and_true, bif_tb]
  refine (scanI (fun i => sw (skB s.Skips a b i) true) s.Skips.length h (fun j hj => ?_) ?_).trans ?_
  · rw [bif_dpos (by omega), grd_p (by omega), wn (by omega), Int.toNat_natCast, ← sw_fin]; rfl
  · rw [bif_dneg (by omega)]
  · rw [scan_sw]; unfold skV; cases noneB (skB s.Skips a b) s.Skips.length <;> rfl
section
variable (c : Nat → Nat → Bool)
def pin (L : List S_Pair) (i : Nat) : Nat → List S_Pair
  | 0 => L
  | m + 1 => if c i (i + 1 + m) then pin L i m ++ [⟨(i : Int), ((i + 1 + m : Nat) : Int)⟩] else pin L i m
def pou (n : Nat) : Nat → List S_Pair
  | 0 => nl
  | i + 1 => pin c (pou n i) i (n - (i + 1))
theorem pin_len (L : List S_Pair) (i : Nat) : ∀ m, (pin c L i m).length ≤ L.length + m
  | 0 => by simp [pin]
  | m + 1 => by
    have := pin_len L i m
    simp only [pin]; split
    · simp; omega
    · omega
theorem pou_len {n : Nat} : ∀ i, (pou c n i).length ≤ i * n
  | 0 => by simp [pou, nl]
  | i + 1 => by
    have h1 := pou_len (n := n) i
    have h2 := pin_len c (pou c n i) i (n - (i + 1))
    simp only [pou]; rw [Nat.add_mul]; omega
end
def linkOf (s : S_Scene) (i : Nat) : Int := (s.Shapes.getD i default).Link
def pairB (s : S_Scene) (i k : Nat) : Bool := !decide (carN s.Robot (linkOf s i + 1).toNat = carN s.Robot (linkOf s k + 1).toNat) && !skV s (linkOf s i) (linkOf s k)
def pairsV (s : S_Scene) : List S_Pair := if sceneV s = 0 then pou (pairB s) s.Shapes.length s.Shapes.length else nl
theorem scene_Pairs_e (s : S_Scene) : (scene_Pairs_C s).o = some (pairsV s) := by
  show (scene_Pairs_T s).run NN = _
  simp only [scene_Pairs_T, T.run, scene_Check_e, Option.bind_some, pairsV]
  by_cases h : sceneV s = 0
  · have so := sceneV_ok h
    have so2 := so.len
    have so3 := so.skips
    have so4 := robotV_ok so.robot
    rw [bif_nne h, if_pos h, scene_carriers_e so.robot, Option.bind_some]
    refine (loop_to (fun i => (pou (pairB s) s.Shapes.length i, (i : Int))) (pou (pairB s) s.Shapes.length s.Shapes.length) s.Shapes.length rfl (show s.Shapes.length < 4294967296 by omega) (fun i hi => ?_) ?_).trans rfl
    · rw [bif_dpos (by simpa using hi), grd_p ⟨by simp, by simpa using hi⟩]
      simp only [Int.toNat_natCast]
      rw [wn (by omega)]
      refine (loop_to (fun m => (pin (pairB s) (pou (pairB s) s.Shapes.length i) i m, ((i + 1 + m : Nat) : Int))) (pou (pairB s) s.Shapes.length (i + 1)) (s.Shapes.length - (i + 1)) rfl (show s.Shapes.length - (i + 1) < 4294967296 by omega) (fun m hm => ?_) ?_).trans rfl
      · have hk : i + 1 + m < s.Shapes.length := by omega
        have l1 := (shapeV_ok (so.shape i hi)).2
        have l2 := (shapeV_ok (so.shape (i + 1 + m) hk)).2
        have lp := pin_len (pairB s) (pou (pairB s) s.Shapes.length i) i m
        have lo := pou_len (pairB s) (n := s.Shapes.length) i
        have li : i * s.Shapes.length ≤ 24 * 24 := Nat.mul_le_mul (by omega) (by omega)
        simp only [Int.toNat_natCast, tab_len]
        rw [bif_dpos (by omega), grd_p ⟨by omega, by omega⟩, w64 (x := (s.Shapes.getD i default).Link + 1) (by omega) (by omega), w64 (x := (s.Shapes.getD (i + 1 + m) default).Link + 1) (by omega) (by omega),
          grd_p ⟨by omega, by omega⟩, grd_p ⟨by omega, by omega⟩, wn (by omega), tab_get (by omega), tab_get (by omega)]
        simp only [scene_Skipped_e s _ _ (show s.Skips.length < 4294967296 by omega), Option.bind_some, pin]
        have e : (andC (bif !(caP s.Robot ((s.Shapes.getD i default).Link + 1).toNat == caP s.Robot ((s.Shapes.getD (i + 1 + m) default).Link + 1).toNat) then
            some (.out (!skV s (s.Shapes.getD i default).Link (s.Shapes.getD (i + 1 + m) default).Link)) else some (.out false)) : (Bool → Option (Step3 Unit (List S_Pair) (Step3 (List S_Pair × Int) (List S_Pair) (Step3 (List S_Pair × Int) (List S_Pair) (List S_Pair))))) → _) = fun k => k (pairB s i (i + 1 + m)) := by
          funext k
          have e1 : (caP s.Robot ((s.Shapes.getD i default).Link + 1).toNat == caP s.Robot ((s.Shapes.getD (i + 1 + m) default).Link + 1).toNat) = decide (carN s.Robot ((s.Shapes.getD i default).Link + 1).toNat = carN s.Robot ((s.Shapes.getD (i + 1 + m) default).Link + 1).toNat) := by
            rw [Bool.eq_iff_iff]; unfold caP; simp only [beq_iff_eq, decide_eq_true_eq]; omega
          rw [e1]; unfold pairB linkOf
          cases decide (carN s.Robot ((s.Shapes.getD i default).Link + 1).toNat = carN s.Robot ((s.Shapes.getD (i + 1 + m) default).Link + 1).toNat) <;> rfl
        rw [e]
        simp only
        rw [grd_p ⟨by simp; omega, by simp [maxLen_eq]; omega⟩]
        cases pairB s i (i + 1 + m) <;> rfl
      · rw [bif_dneg (by omega)]; rfl
    · rw [bif_dneg (by simp)]
  · rw [bif_neq h, if_neg h]
theorem u64w {x : Int} (h0 : 0 ≤ x) (h1 : x < 18446744073709551616) : IntKind.u64.wrap x = x := by
  show (if (false && decide (x % 18446744073709551616 ≥ 9223372036854775808)) = true then x % 18446744073709551616 - 18446744073709551616 else x % 18446744073709551616) = x
  rw [if_neg (by simp)]; omega
theorem u8w {x : Int} (h0 : 0 ≤ x) (h1 : x < 256) : IntKind.u8.wrap x = x := by
  show (if (false && decide (x % 256 ≥ 128)) = true then x % 256 - 256 else x % 256) = x
  rw [if_neg (by simp)]; omega
def IsRoot (n s : Int) : Prop := 0 ≤ s ∧ s * s ≤ n ∧ n < (s + 1) * (s + 1)
theorem IsRoot.uniq {n s t : Int} (h1 : IsRoot n s) (h2 : IsRoot n t) : s = t := by
  obtain ⟨a0, a1, a2⟩ := h1
  obtain ⟨b0, b1, b2⟩ := h2
  by_cases h : s < t
  · have : (s + 1) * (s + 1) ≤ t * t := Int.mul_le_mul (by omega) (by omega) (by omega) (by omega)
    omega
  · by_cases h' : t < s
    · have : (t + 1) * (t + 1) ≤ s * s := Int.mul_le_mul (by omega) (by omega) (by omega) (by omega)
      omega
    · omega
theorem ref1_Root_x {n : Int} (h0 : 1 ≤ n) (h1 : n < 4611686018427387904) : ∃ s, (ref1_Root_C n).o = some s ∧ IsRoot n s := by
  have e0 : (ref1_Root_C n).o = (ref1_Root_T n).run NN := rfl
  rw [e0]
  simp only [ref1_Root_T, T.run]
  rw [bif_dneg (by omega)]
  refine ex_loop (β := Int) (g := fun s => some s) (P := fun s => IsRoot n s) (fun (y : Int × Int) => 1 ≤ y.1 ∧ y.1 < y.2 ∧ y.2 ≤ 4294967296 ∧ y.1 * y.1 ≤ n ∧ n < y.2 * y.2) (fun y => (y.2 - y.1).toNat) (fun s => IsRoot n s)
    ⟨by decide, by decide, by decide, by omega, by simp only; omega⟩ (by decide) (fun y hy => ?_) (fun s hs => ⟨s, rfl, hs⟩)
  obtain ⟨a1, a2, a3, a4, a5⟩ := hy
  rw [w64 (x := y.2 - y.1) (by omega) (by omega)]
  by_cases hd : y.2 - y.1 > 1
  · left
    rw [bif_dpos hd, tdiv_pos (by omega), w64 (x := (y.2 - y.1) / 2) (by omega) (by omega), w64 (x := y.1 + (y.2 - y.1) / 2) (by omega) (by omega), grd_p (by omega)]
    generalize hm : y.1 + (y.2 - y.1) / 2 = m
    have m1 : y.1 < m ∧ m < y.2 := by omega
    have q := div_bd (a := n) (b := m) (by omega)
    have q1 := q.1 (by omega)
    rw [tdiv_pos (by omega), w64 (x := n / m) (by omega) (by omega)]
    have key : m ≤ n / m ↔ m * m ≤ n := Int.le_ediv_iff_mul_le (by omega)
    by_cases hc : m ≤ n / m
    · rw [bif_dpos hc]; exact ⟨_, rfl, ⟨by simp only; omega, by simp only; omega, a3, key.1 hc, a5⟩, by simp only; omega⟩
    · rw [bif_dneg hc]; exact ⟨_, rfl, ⟨a1, by simp only; omega, by simp only; omega, a4, by simp only; have := mt key.2 hc; omega⟩, by simp only; omega⟩
  · right
    rw [bif_dneg hd]
    exact ⟨_, rfl, by omega, a4, by rw [show y.1 + 1 = y.2 by omega]; exact a5⟩
def lenT (b : Nat) : Nat := ((#[0, 1, 2, 2, 3, 3, 3, 3, 4, 4, 4, 4, 4, 4, 4, 4, 5, 5, 5, 5, 5, 5, 5, 5, 5, 5, 5, 5, 5, 5, 5, 5, 6, 6, 6, 6, 6, 6, 6, 6, 6, 6, 6, 6, 6, 6, 6, 6, 6, 6, 6, 6, 6, 6, 6, 6, 6, 6, 6, 6, 6, 6, 6, 6, 7, 7, 7, 7, 7, 7, 7, 7, 7, 7, 7, 7, 7, 7, 7, 7, 7, 7, 7, 7, 7, 7, 7, 7, 7, 7, 7, 7, 7, 7, 7, 7, 7, 7, 7, 7, 7, 7, 7, 7, 7, 7, 7, 7, 7, 7, 7, 7, 7, 7, 7, 7, 7, 7, 7, 7, 7, 7, 7, 7, 7, 7, 7, 7, 8, 8, 8, 8, 8, 8, 8, 8, 8, 8, 8, 8, 8, 8, 8, 8, 8, 8, 8, 8, 8, 8, 8, 8, 8, 8, 8, 8, 8, 8, 8, 8, 8, 8, 8, 8, 8, 8, 8, 8, 8, 8, 8, 8, 8, 8, 8, 8, 8, 8, 8, 8, 8, 8, 8, 8, 8, 8, 8, 8, 8, 8, 8, 8, 8, 8, 8, 8, 8, 8, 8, 8, 8, 8, 8, 8, 8, 8, 8, 8, 8, 8, 8, 8, 8, 8, 8, 8, 8, 8, 8, 8, 8, 8, 8, 8, 8, 8, 8, 8, 8, 8, 8, 8, 8, 8, 8, 8, 8, 8, 8, 8, 8, 8, 8, 8, 8, 8, 8, 8, 8, 8, 8, 8, 8, 8, 8, 8] : Array UInt8).getD b 0).toNat
theorem lenT_ok : ∀ b, b < 256 → b < 2 ^ lenT b ∧ lenT b ≤ 8 := of_decide_eq_true (by kernel_rfl)
def lenE (y : Int × Int) : Option Int := grd (0 ≤ IntKind.u8.wrap y.1 ∧ IntKind.u8.wrap y.1 < ((256 : Nat) : Int)) (some (IntKind.i64.wrap (y.2 + IntKind.i64.wrap ((lenT (IntKind.u8.wrap y.1).toNat : Nat) : Int))))
theorem len_eq (n : Int) : (math_bits_Len64_C n).o =
    andC (bif decide (n ≥ 4294967296) then some (.out (n.fdiv (2 ^ min (32 : Int).toNat 64), 32)) else some (.out (n, 0)) : Option (Step3 Unit (Int × Int) Int)) fun y5 =>
    andC (bif decide (y5.1 ≥ 65536) then some (.out (y5.1.fdiv (2 ^ min (16 : Int).toNat 64), IntKind.i64.wrap (y5.2 + 16))) else some (.out (y5.1, y5.2)) : Option (Step3 Unit (Int × Int) Int)) fun y6 =>
    andC (bif decide (y6.1 ≥ 256) then some (.out (y6.1.fdiv (2 ^ min (8 : Int).toNat 64), IntKind.i64.wrap (y6.2 + 8))) else some (.out (y6.1, y6.2)) : Option (Step3 Unit (Int × Int) Int)) fun y7 => lenE y7 := by kernel_rfl
theorem math_bits_Len64_x {n : Int} (h0 : 0 ≤ n) (h1 : n < 4294967296) : ∃ L : Nat, (math_bits_Len64_C n).o = some (L : Int) ∧ n < 2 ^ L ∧ L ≤ 32 := by
  rw [len_eq, bif_dneg (by omega), andC_out]
  have fin : ∀ (x : Int) (k : Nat), 0 ≤ x → x < 256 → k ≤ 24 → n < (x + 1) * 2 ^ k → ∃ L : Nat, lenE (x, (k : Int)) = some (L : Int) ∧ n < 2 ^ L ∧ L ≤ 32 := by
    intro x k x0 x1 hk hn
    obtain ⟨b, rfl⟩ : ∃ b : Nat, x = (b : Int) := ⟨x.toNat, by omega⟩
    have hb := lenT_ok b (by omega)
    unfold lenE
    simp only
    rw [u8w (by omega) (by omega), grd_p ⟨by omega, by omega⟩, Int.toNat_natCast, w64 (x := ((lenT b : Nat) : Int)) (by omega) (by omega), w64 (by omega) (by omega)]
    refine ⟨k + lenT b, by rw [Int.natCast_add], ?_, by omega⟩
    have h2 : (((b + 1 : Nat) : Int)) * 2 ^ k ≤ 2 ^ lenT b * 2 ^ k := by
      refine Int.mul_le_mul_of_nonneg_right ?_ (Int.le_of_lt (two_pow_pos k))
      exact_mod_cast hb.1
    rw [Nat.add_comm, Int.pow_add]
    have h3 : ((b : Int) + 1) = ((b + 1 : Nat) : Int) := by omega
    rw [h3] at hn
    omega
  have s16 : ∀ x : Int, x.fdiv (2 ^ min (Int.toNat 16) 64) = x / 65536 := fun x => fdiv_pow x 16
  have s8 : ∀ x : Int, x.fdiv (2 ^ min (Int.toNat 8) 64) = x / 256 := fun x => fdiv_pow x 8
  have p24 : (2 : Int) ^ 24 = 16777216 := by decide
  have p16 : (2 : Int) ^ 16 = 65536 := by decide
  have p8 : (2 : Int) ^ 8 = 256 := by decide
  have e16 : IntKind.i64.wrap (0 + 16) = 16 := by decide
  have e8 : IntKind.i64.wrap (0 + 8) = 8 := by decide
  have e24 : IntKind.i64.wrap (16 + 8) = 24 := by decide
  by_cases c1 : n ≥ 65536
  · rw [bif_dpos c1, andC_out, s16, e16]
    by_cases c2 : n / 65536 ≥ 256
    · rw [bif_dpos c2, andC_out, s8, e24]; exact fin _ 24 (by omega) (by omega) (by omega) (by rw [p24]; omega)
    · rw [bif_dneg c2, andC_out]; exact fin _ 16 (by omega) (by omega) (by omega) (by rw [p16]; omega)
  · rw [bif_dneg c1, andC_out]
    by_cases c2 : n ≥ 256
    · rw [bif_dpos c2, andC_out, s8, e8]; exact fin _ 8 (by omega) (by omega) (by omega) (by rw [p8]; omega)
    · rw [bif_dneg c2, andC_out]; exact fin _ 0 (by omega) (by omega) (by omega) (by simp only [Int.pow_zero]; omega)
theorem fixed_Root_x {n : Int} (h0 : 1 ≤ n) (h1 : n < 4294967296) : ∃ s, (fixed_Root_C n).o = some s ∧ IsRoot n s := by
  have e0 : (fixed_Root_C n).o = (fixed_Root_T n).run NN := rfl
  rw [e0]
  obtain ⟨L, l1, l2, l3⟩ := math_bits_Len64_x (n := n) (by omega) h1
  simp only [fixed_Root_T, T.run]
  rw [bif_dneg (by omega), u64w (x := n) (by omega) (by omega), l1, Option.bind_some, w64 (x := (L : Int) + 1) (by omega) (by omega), tdiv_pos (by omega), w64 (x := ((L : Int) + 1) / 2) (by omega) (by omega), grd_p (by omega)]
  obtain ⟨W, hW⟩ : ∃ W : Nat, ((L : Int) + 1) / 2 = (W : Int) := ⟨(L + 1) / 2, by omega⟩
  rw [hW, Int.toNat_natCast, Nat.min_eq_left (by omega), Int.one_mul]
  have hw16 : W ≤ 16 := by omega
  have hpw : (2 : Int) ^ W ≤ 65536 := by
    have : (2 : Int) ^ W ≤ 2 ^ 16 := by exact_mod_cast Nat.pow_le_pow_right (by decide : 0 < 2) hw16
    have e : (2 : Int) ^ 16 = 65536 := by decide
    omega
  have hp0 := two_pow_pos W
  rw [u64w (x := 2 ^ W) (by omega) (by omega)]
  have hn4 : n < 2 ^ W * 2 ^ W := by
    rw [← Int.pow_add]
    have : (2 : Int) ^ L ≤ 2 ^ (W + W) := by exact_mod_cast Nat.pow_le_pow_right (by decide : 0 < 2) (show L ≤ W + W by omega)
    omega
  refine ex_loop (β := Int) (g := fun s => some s) (P := fun s => IsRoot n s) (fun (y : Int × Int × Int) => ∃ k : Nat, y.2.2 = ((W - k : Nat) : Int) ∧ k ≤ W ∧ y.2.1 = 2 ^ k ∧ 0 ≤ y.1 ∧ y.1 ≤ 2 ^ W - 2 ^ k ∧ y.1 * y.1 ≤ n ∧ n < (y.1 + 2 ^ k) * (y.1 + 2 ^ k))
    (fun y => ((W : Int) - y.2.2).toNat) (fun s => IsRoot n s) ⟨W, by simp, Nat.le_refl _, rfl, by simp, by simp, by simp; omega, by simp only [Int.zero_add]; exact hn4⟩ (by show _ < 4294967296; simp only; omega) (fun y hy => ?_) (fun s hs => ⟨IntKind.i64.wrap s, rfl, ?_⟩)
  · obtain ⟨k, b1, b2, b3, b4, b5, b6, b7⟩ := hy
    rw [b1, b3]
    cases k with
    | zero =>
      right
      rw [bif_dneg (by omega)]
      exact ⟨_, rfl, b4, b6, by simpa using b7⟩
    | succ k =>
      left
      have hk2 : (2 : Int) ^ (k + 1) = 2 * 2 ^ k := by rw [Int.pow_succ]; omega
      have hkp := two_pow_pos k
      rw [bif_dpos (by omega), tdiv_pos (by omega), show (2 : Int) ^ (k + 1) / 2 = 2 ^ k by omega, u64w (x := 2 ^ k) (by omega) (by omega), u64w (x := y.1 + 2 ^ k) (by omega) (by omega)]
      have hsq : (y.1 + 2 ^ k) * (y.1 + 2 ^ k) ≤ 65536 * 65536 := Int.mul_le_mul (by omega) (by omega) (by omega) (by omega)
      have hsq0 : 0 ≤ (y.1 + 2 ^ k) * (y.1 + 2 ^ k) := Int.mul_nonneg (by omega) (by omega)
      rw [u64w (x := (y.1 + 2 ^ k) * (y.1 + 2 ^ k)) hsq0 (by omega)]
      have hi : IntKind.i64.wrap (((W - (k + 1) : Nat) : Int) + 1) = ((W - k : Nat) : Int) := by rw [w64 (by omega) (by omega)]; omega
      rw [hi]
      by_cases hc : (y.1 + 2 ^ k) * (y.1 + 2 ^ k) ≤ n
      · rw [bif_dpos hc, andC_out]
        exact ⟨_, rfl, ⟨k, rfl, by omega, rfl, by simp only; omega, by simp only; omega, hc, by simp only; rw [show y.1 + 2 ^ k + 2 ^ k = y.1 + 2 ^ (k + 1) by omega]; exact b7⟩, by simp only; omega⟩
      · rw [bif_dneg hc, andC_out]
        exact ⟨_, rfl, ⟨k, rfl, by omega, rfl, b4, by simp only; omega, b6, by simp only; omega⟩, by simp only; omega⟩
  · obtain ⟨c1, c2, c3⟩ := hs
    have : s ≤ n := by
      by_cases hz : s = 0
      · omega
      · have : s * 1 ≤ s * s := Int.mul_le_mul_of_nonneg_left (by omega) c1
        omega
    rw [w64 (by omega) (by omega)]; exact ⟨c1, c2, c3⟩
noncomputable def rootV (n : Int) : Int := (ref1_Root_C n).o.getD 0
theorem rootV_is {n : Int} (h0 : 1 ≤ n) (h1 : n < 4294967296) : IsRoot n (rootV n) ∧ (ref1_Root_C n).o = some (rootV n) := by
  obtain ⟨s, e, h⟩ := ref1_Root_x h0 (by omega)
  unfold rootV; rw [e]; exact ⟨h, rfl⟩
theorem root_le {n s : Int} (h0 : 1 ≤ n) (h : IsRoot n s) : s ≤ n := by
  obtain ⟨c1, c2, -⟩ := h
  by_cases hz : s = 0
  · omega
  · have : s * 1 ≤ s * s := Int.mul_le_mul_of_nonneg_left (by omega) c1
    omega
noncomputable def rupV (n : Int) : Int := if rootV n * rootV n < n then rootV n + 1 else rootV n
theorem fixed_RootUp_e {n : Int} (h0 : 1 ≤ n) (h1 : n < 4294967296) : (fixed_RootUp_C n).o = some (rupV n) := by
  obtain ⟨s, e, h⟩ := fixed_Root_x h0 h1
  obtain ⟨k1, k2⟩ := rootV_is h0 h1
  have es : s = rootV n := h.uniq k1
  have sl := root_le h0 k1
  obtain ⟨r1, r2, r3⟩ := k1
  show (fixed_RootUp_T n).run NN = _
  simp only [fixed_RootUp_T, T.run, e, Option.bind_some, es, rupV]
  rw [w64 (x := rootV n * rootV n) (by have := Int.mul_nonneg r1 r1; omega) (by omega), w64 (x := rootV n + 1) (by omega) (by omega)]
  by_cases hc : rootV n * rootV n < n
  · rw [bif_dpos hc, if_pos hc, andC_out]
  · rw [bif_dneg hc, if_neg hc, andC_out]
abbrev V3 := Int × Int × Int
def usableV (n : V3) : Bool := !((n.1 == 0) && ((n.2.1 == 0) && ((n.2.2 == 0) && true))) && nearV n 16384
def bey2 (x : Int) : Bool := decide (x < -16384) || decide (x > 16384)
theorem support_inRange_e (v : V3) : (support_inRange_C v).o = some (nearV v 16384) := by
  show (support_inRange_T v).run NN = _
  simp only [support_inRange_T, T.run, bif_out, andC_out, bif_tb]
  refine (scanI (fun i => sw (bey2 (([v.1, v.2.1, v.2.2] : List Int).getD i 0)) false) 3 (by decide) (fun j hj => ?_) ?_).trans ?_
  · rw [bif_dpos (by omega), grd_p (by omega), wn (by omega), Int.toNat_natCast, ← sw_fin]; rfl
  · rw [bif_dneg (by omega)]
  · rw [scan_sw]
    have : noneB (fun i => bey2 (([v.1, v.2.1, v.2.2] : List Int).getD i 0)) 3 = nearV v 16384 := by
      rw [Bool.eq_iff_iff, noneB_iff, nearV_iff]
      constructor
      · intro h
        have a := h 0 (by decide); have b := h 1 (by decide); have c := h 2 (by decide)
        simp only [bey2, List.getD_cons_zero, List.getD_cons_succ, Bool.or_eq_false_iff, decide_eq_false_iff_not] at a b c
        omega
      · intro h i hi
        match i, hi with
        | 0, _ => simp only [bey2, List.getD_cons_zero, Bool.or_eq_false_iff, decide_eq_false_iff_not]; omega
        | 1, _ => simp only [bey2, List.getD_cons_zero, List.getD_cons_succ, Bool.or_eq_false_iff, decide_eq_false_iff_not]; omega
        | 2, _ => simp only [bey2, List.getD_cons_zero, List.getD_cons_succ, Bool.or_eq_false_iff, decide_eq_false_iff_not]; omega
    rw [this]; cases nearV v 16384 <;> rfl
theorem support_Usable_e (n : V3) : (support_Usable_C n).o = some (usableV n) := by
  show (support_Usable_T n).run NN = _
  simp only [support_Usable_T, T.run, support_inRange_e, Option.bind_some, usableV]
  cases nearV n 16384 <;> cases (n.1 == 0) && ((n.2.1 == 0) && ((n.2.2 == 0) && true)) <;> rfl
theorem usable_bd {n : V3} (h : usableV n = true) : ((-16384 ≤ n.1 ∧ n.1 ≤ 16384) ∧ (-16384 ≤ n.2.1 ∧ n.2.1 ≤ 16384) ∧ (-16384 ≤ n.2.2 ∧ n.2.2 ≤ 16384)) ∧ (n.1 ≠ 0 ∨ n.2.1 ≠ 0 ∨ n.2.2 ≠ 0) := by
  simp only [usableV, Bool.and_eq_true, nearV_iff, Bool.not_eq_true', Bool.and_eq_false_iff, beq_eq_false_iff_ne, ne_eq, Bool.and_true] at h
  refine ⟨h.2, ?_⟩
  rcases h.1 with h | h | h
  · exact Or.inl h
  · exact Or.inr (Or.inl h)
  · exact Or.inr (Or.inr h)
theorem sq_bd {x : Int} (h : -16384 ≤ x ∧ x ≤ 16384) : 0 ≤ x * x ∧ x * x ≤ 268435456 ∧ (x ≠ 0 → 1 ≤ x * x) := by
  have h1 : (x * x).natAbs ≤ 16384 * 16384 := by rw [Int.natAbs_mul]; exact Nat.mul_le_mul (by omega) (by omega)
  have h0 : 0 ≤ x * x := by
    by_cases hx : 0 ≤ x
    · exact Int.mul_nonneg hx hx
    · exact Int.mul_nonneg_of_nonpos_of_nonpos (by omega) (by omega)
  refine ⟨h0, by omega, fun hx => ?_⟩
  have : x * x ≠ 0 := Int.mul_ne_zero hx hx
  omega
def sqV (n : V3) : Int := n.1 * n.1 + n.2.1 * n.2.1 + n.2.2 * n.2.2
noncomputable def normV (n : V3) : Int := if usableV n then rupV (sqV n) else 0
theorem sqV_bd {n : V3} (h : usableV n = true) : 1 ≤ sqV n ∧ sqV n < 4294967296 ∧ IntKind.i64.wrap (IntKind.i64.wrap (IntKind.i64.wrap (n.1 * n.1) + IntKind.i64.wrap (n.2.1 * n.2.1)) + IntKind.i64.wrap (n.2.2 * n.2.2)) = sqV n := by
  obtain ⟨⟨b1, b2, b3⟩, hz⟩ := usable_bd h
  have s1 := sq_bd b1; have s2 := sq_bd b2; have s3 := sq_bd b3
  unfold sqV
  rw [w64 (x := n.1 * n.1) (by omega) (by omega), w64 (x := n.2.1 * n.2.1) (by omega) (by omega), w64 (x := n.2.2 * n.2.2) (by omega) (by omega), w64 (x := n.1 * n.1 + n.2.1 * n.2.1) (by omega) (by omega), w64 (by omega) (by omega)]
  refine ⟨?_, by omega, rfl⟩
  rcases hz with h | h | h
  · have := s1.2.2 h; omega
  · have := s2.2.2 h; omega
  · have := s3.2.2 h; omega
theorem support_Norm_e (n : V3) : (support_Norm_C n).o = some (normV n) := by
  show (support_Norm_T n).run NN = _
  simp only [support_Norm_T, T.run, T.ix, support_Usable_e, Option.bind_some, normV]
  cases h : usableV n
  · rfl
  · have hs := sqV_bd h
    simp only [Bool.not_true, cond_false, if_true]
    rw [hs.2.2, fixed_RootUp_e hs.1 hs.2.1]; rfl
end Go.Abs
