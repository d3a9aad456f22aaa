import Derived.Test.YtnehaejghnoigaaGreatPLib
import Derived.Test.YtnehaejghnoigaaGreatF4
/-
  Numbers: wrapping, rounding down and up; loops that scan and that gather. No program here.
-/
namespace Go.Abs

theorem bif_npos {α : Type} {p : Prop} [Decidable p] {x y : α} (h : ¬ p) : (bif (!decide p) then x else y) = x := by rw [decide_eq_false h]; rfl
theorem bif_nneg {α : Type} {p : Prop} [Decidable p] {x y : α} (h : p) : (bif (!decide p) then x else y) = y := by rw [decide_eq_true h]; rfl
theorem bif_eq {α : Type} {a b : Int} {x y : α} (h : a = b) : (bif (a == b) then x else y) = x := bif_pos (by simpa using h)
theorem bif_ne {α : Type} {a b : Int} {x y : α} (h : a ≠ b) : (bif (a == b) then x else y) = y := bif_neg (by simpa using h)
theorem bif_neq {α : Type} {a b : Int} {x y : α} (h : a ≠ b) : (bif (a != b) then x else y) = x := bif_pos (by simpa using h)
theorem bif_nne {α : Type} {a b : Int} {x y : α} (h : a = b) : (bif (a != b) then x else y) = y := bif_neg (by simpa using h)

theorem wr (n : Int) : IntKind.i64.wrap n = (n + 9223372036854775808) % 18446744073709551616 - 9223372036854775808 := by
  show (if (true && decide (n % 18446744073709551616 ≥ 9223372036854775808)) = true then n % 18446744073709551616 - 18446744073709551616 else n % 18446744073709551616) = _
  by_cases h : n % 18446744073709551616 ≥ 9223372036854775808
  · rw [if_pos (by rw [decide_eq_true h]; rfl)]; omega
  · rw [if_neg (by rw [decide_eq_false h]; decide)]; omega
theorem wr_lo (n : Int) : -9223372036854775808 ≤ IntKind.i64.wrap n := by rw [wr]; omega
theorem wr_hi (n : Int) : IntKind.i64.wrap n ≤ 9223372036854775807 := by rw [wr]; omega
theorem wr_wr (n : Int) : IntKind.i64.wrap (IntKind.i64.wrap n) = IntKind.i64.wrap n := w64 (wr_lo n) (wr_hi n)
theorem wr_addl (a b : Int) : IntKind.i64.wrap (IntKind.i64.wrap a + b) = IntKind.i64.wrap (a + b) := by simp only [wr]; omega
theorem wr_addr (a b : Int) : IntKind.i64.wrap (a + IntKind.i64.wrap b) = IntKind.i64.wrap (a + b) := by simp only [wr]; omega
theorem wr_subl (a b : Int) : IntKind.i64.wrap (IntKind.i64.wrap a - b) = IntKind.i64.wrap (a - b) := by simp only [wr]; omega
theorem wr_subr (a b : Int) : IntKind.i64.wrap (a - IntKind.i64.wrap b) = IntKind.i64.wrap (a - b) := by simp only [wr]; omega

/-- A number that an int64 can be. -/
def InR (x : Int) : Prop := -9223372036854775808 ≤ x ∧ x ≤ 9223372036854775807
theorem InR.wr (n : Int) : InR (IntKind.i64.wrap n) := ⟨wr_lo n, wr_hi n⟩
theorem InR.w {x : Int} (h : InR x) : IntKind.i64.wrap x = x := w64 h.1 h.2

/-- The quotient, rounded up. -/
def cdiv (a b : Int) : Int := -((-a) / b)

theorem tdiv_pos {a b : Int} (ha : 0 ≤ a) : a.tdiv b = a / b := Int.tdiv_eq_ediv_of_nonneg ha
theorem tmod_pos {a b : Int} (ha : 0 ≤ a) : a.tmod b = a % b := Int.tmod_eq_emod_of_nonneg ha
theorem tdiv_negl (a b : Int) : (-a).tdiv b = -(a.tdiv b) := Int.neg_tdiv a b
theorem tmod_negl (a b : Int) : (-a).tmod b = -(a.tmod b) := Int.neg_tmod a b

/-- a = q * b + r with 0 ≤ r < b tells the quotient. -/
theorem div_unique {a b q r : Int} (h0 : 0 ≤ r) (h1 : r < b) (h : a = b * q + r) : a / b = q := by
  subst h
  rw [Int.mul_add_ediv_left _ _ (by omega : b ≠ 0), Int.ediv_eq_zero_of_lt h0 h1]; omega

theorem floor_t {a b : Int} (hb : 0 < b) : (if a.tmod b < 0 then a.tdiv b - 1 else a.tdiv b) = a / b := by
  have h1 := Int.mul_tdiv_add_tmod a b
  have h2 := Int.tmod_lt_of_pos a hb
  have h3 := Int.lt_tmod_of_pos a hb
  split
  · symm; exact div_unique (r := a.tmod b + b) (by omega) (by omega) (by rw [Int.mul_sub]; omega)
  · symm; exact div_unique (r := a.tmod b) (by omega) (by omega) (by omega)
theorem ceil_t {a b : Int} (hb : 0 < b) : (if a.tmod b > 0 then a.tdiv b + 1 else a.tdiv b) = cdiv a b := by
  have := floor_t (a := -a) hb
  rw [tmod_negl, tdiv_negl] at this
  unfold cdiv
  rw [← this]
  split
  · rw [if_pos (by omega)]; omega
  · rw [if_neg (by omega)]; omega

theorem div_lo {a b : Int} (hb : 0 < b) : b * (a / b) ≤ a := Int.mul_ediv_self_le (by omega)
theorem div_hi {a b : Int} (hb : 0 < b) : a < b * (a / b) + b := Int.lt_mul_ediv_self_add hb
/-- A quotient lies between 0 and its number, or -1. -/
theorem div_bd {a b : Int} (hb : 0 < b) : (0 ≤ a → 0 ≤ a / b ∧ a / b ≤ a) ∧ (a < 0 → a ≤ a / b ∧ a / b < 0) := by
  refine ⟨fun h => ⟨Int.ediv_nonneg h (by omega), Int.ediv_le_self _ h⟩, fun h => ⟨?_, Int.ediv_neg_of_neg_of_pos h hb⟩⟩
  have h1 := div_hi (a := a) hb
  have h2 : a / b < 0 := Int.ediv_neg_of_neg_of_pos h hb
  by_cases hc : a ≤ a / b
  · exact hc
  · exfalso
    have h3 : a / b + 1 ≤ a := by omega
    have h4 : b * (a / b) + b = b * (a / b + 1) := by rw [Int.mul_add]; omega
    have h5 : b * (a / b + 1) ≤ 1 * (a / b + 1) := Int.mul_le_mul_of_nonpos_right (by omega) (by omega)
    omega
theorem InR.div {a b : Int} (h : InR a) (hb : 0 < b) : InR (a / b) := by
  have := div_bd (a := a) hb
  obtain ⟨h1, h2⟩ := h
  by_cases h0 : 0 ≤ a
  · have := this.1 h0; exact ⟨by omega, by omega⟩
  · have := this.2 (by omega); exact ⟨by omega, by omega⟩
theorem cdiv_bd {a b : Int} (hb : 0 < b) : (0 < a → 0 < cdiv a b ∧ cdiv a b ≤ a) ∧ (a ≤ 0 → a ≤ cdiv a b ∧ cdiv a b ≤ 0) := by
  have := div_bd (a := -a) hb
  unfold cdiv
  exact ⟨fun h => by have := this.2 (by omega); omega, fun h => by have := this.1 (by omega); omega⟩
theorem InR.cdiv {a b : Int} (h : InR a) (hb : 0 < b) : InR (Go.Abs.cdiv a b) := by
  have := cdiv_bd (a := a) hb
  obtain ⟨h1, h2⟩ := h
  by_cases h0 : 0 < a
  · have := this.1 h0; exact ⟨by omega, by omega⟩
  · have := this.2 (by omega); exact ⟨by omega, by omega⟩
theorem tdiv_bd {a b : Int} (hb : 0 < b) : (0 ≤ a → 0 ≤ a.tdiv b ∧ a.tdiv b ≤ a) ∧ (a ≤ 0 → a ≤ a.tdiv b ∧ a.tdiv b ≤ 0) := by
  refine ⟨fun h => ?_, fun h => ?_⟩
  · rw [tdiv_pos h]; exact (div_bd hb).1 h
  · have h1 := (div_bd (a := -a) hb).1 (by omega)
    rw [← tdiv_pos (by omega), tdiv_negl] at h1
    omega
theorem InR.tdiv {a b : Int} (h : InR a) (hb : 0 < b) : InR (a.tdiv b) := by
  have := tdiv_bd (a := a) hb
  obtain ⟨h1, h2⟩ := h
  by_cases h0 : 0 ≤ a
  · have := this.1 h0; exact ⟨by omega, by omega⟩
  · have := this.2 (by omega); exact ⟨by omega, by omega⟩

/-- The model's floor. -/
theorem floorW {a b : Int} (ha : InR a) (hb : 0 < b) : (bif decide (a.tmod b < 0) then IntKind.i64.wrap (IntKind.i64.wrap (a.tdiv b) - 1) else IntKind.i64.wrap (a.tdiv b)) = a / b := by
  rw [(ha.tdiv hb).w, ← floor_t hb, cond_eq_ite]
  simp only [decide_eq_true_eq]
  split
  · rename_i h
    have := ha.div hb
    rw [← floor_t hb, if_pos h] at this
    exact this.w
  · rfl
theorem ceilW {a b : Int} (ha : InR a) (hb : 0 < b) : (bif decide (a.tmod b > 0) then IntKind.i64.wrap (IntKind.i64.wrap (a.tdiv b) + 1) else IntKind.i64.wrap (a.tdiv b)) = cdiv a b := by
  rw [(ha.tdiv hb).w, ← ceil_t hb, cond_eq_ite]
  simp only [decide_eq_true_eq]
  split
  · rename_i h
    have := ha.cdiv hb
    rw [← ceil_t hb, if_pos h] at this
    exact this.w
  · rfl

theorem cdiv_spec {a b q : Int} (hb : 0 < b) : cdiv a b = q ↔ a ≤ b * q ∧ b * q < a + b := by
  unfold cdiv
  have h1 := div_lo (a := -a) hb
  have h2 := div_hi (a := -a) hb
  constructor
  · intro h
    have : b * q = -(b * (-a / b)) := by rw [← h, Int.mul_neg]
    omega
  · intro h
    have : -a / b = -q := div_unique (r := b * q - a) (by omega) (by omega) (by rw [Int.mul_neg]; omega)
    omega

/-! ### Loops that scan: the first place that ends all -/
def scan {R : Type} (g : Nat → Option R) : Nat → Nat → Option R
  | 0, _ => none
  | n + 1, i => match g i with
    | some r => some r
    | none => scan g n (i + 1)

theorem scan_congr {R : Type} {g g' : Nat → Option R} : ∀ (n i : Nat), (∀ j, i ≤ j → j < i + n → g j = g' j) → scan g n i = scan g' n i
  | 0, _, _ => rfl
  | n + 1, i, h => by
    simp only [scan]
    rw [h i (by omega) (by omega), scan_congr n (i + 1) (fun j h1 h2 => h j (by omega) (by omega))]
theorem scan_none {R : Type} {g : Nat → Option R} : ∀ (n i : Nat), scan g n i = none ↔ ∀ j, i ≤ j → j < i + n → g j = none
  | 0, i => by simp only [scan, true_iff]; intro j h1 h2; omega
  | n + 1, i => by
    simp only [scan]
    constructor
    · intro h
      split at h
      · cases h
      · rename_i h0
        intro j h1 h2
        by_cases e : j = i
        · subst e; exact h0
        · exact (scan_none n (i + 1)).1 h j (by omega) (by omega)
    · intro h
      rw [h i (by omega) (by omega)]
      exact (scan_none n (i + 1)).2 fun j h1 h2 => h j (by omega) (by omega)
theorem scan_some {R : Type} {g : Nat → Option R} {r : R} : ∀ (n i : Nat), scan g n i = some r → ∃ j, i ≤ j ∧ j < i + n ∧ g j = some r ∧ ∀ k, i ≤ k → k < j → g k = none
  | 0, i, h => by cases h
  | n + 1, i, h => by
    simp only [scan] at h
    split at h
    · rename_i h0; cases h; exact ⟨i, by omega, by omega, h0, fun k h1 h2 => by omega⟩
    · rename_i h0
      obtain ⟨j, h1, h2, h3, h4⟩ := scan_some n (i + 1) h
      refine ⟨j, by omega, by omega, h3, fun k h5 h6 => ?_⟩
      by_cases e : k = i
      · subst e; exact h0
      · exact h4 k (by omega) h6

/-- Rounds with a state. -/
theorem iter_scan {σ τ R : Type} {f : σ → Option (Step3 σ τ R)} (st : Nat → σ) (g : Nat → Option R) (y : τ) :
    ∀ (n i N : Nat), n < N → (∀ j, i ≤ j → j < i + n → f (st j) = match g j with | some r => some (.fin r) | none => some (.next (st (j + 1)))) → f (st (i + n)) = some (.out y) →
      iter f N (st i) = some (match scan g n i with | some r => .inr r | none => .inl y)
  | 0, i, 0, h, _, _ => by omega
  | 0, i, N + 1, _, _, h => by simp only [Nat.add_zero] at h; simp [iter, h, scan]
  | n + 1, i, 0, h, _, _ => by omega
  | n + 1, i, N + 1, h0, hs, he => by
    have h1 := hs i (by omega) (by omega)
    simp only [scan]
    cases hg : g i with
    | some r => rw [hg] at h1; simp [iter, h1]
    | none =>
      rw [hg] at h1
      simp only [iter, h1]
      exact iter_scan st g y n (i + 1) N (by omega) (fun j a b => hs j (by omega) (by omega)) (by rw [← he]; congr 2; omega)

/-- A loop that scans, and what follows. -/
theorem loop_scan {σ τ R : Type} {f : σ → Option (Step3 σ τ R)} {k : τ → Option R} {x : σ} (st : Nat → σ) (g : Nat → Option R) (y : τ) (n : Nat) (hx : x = st 0) (hn : n < NN)
    (hs : ∀ j, j < n → f (st j) = match g j with | some r => some (.fin r) | none => some (.next (st (j + 1)))) (he : f (st n) = some (.out y)) :
    andK (iter f NN x) k = match scan g n 0 with | some r => some r | none => k y := by
  rw [hx, iter_scan st g y n 0 NN hn (fun j _ h => hs j (by omega)) (by rw [Nat.zero_add]; exact he)]
  cases scan g n 0 <;> rfl
/-- A loop that only goes on. -/
theorem loop_to {σ τ R : Type} {f : σ → Option (Step3 σ τ R)} {k : τ → Option R} {x : σ} (st : Nat → σ) (y : τ) (n : Nat) (hx : x = st 0) (hn : n < NN)
    (hs : ∀ j, j < n → f (st j) = some (.next (st (j + 1)))) (he : f (st n) = some (.out y)) : andK (iter f NN x) k = k y := by
  rw [hx, andK_inl (iter_out st rfl n hn hs he)]
end Go.Abs

/-
  Numbers and intervals: what the program and the reference compute is the same.
-/
namespace Go.Abs

theorem grd_p {R : Type} {p : Prop} [Decidable p] {k : Option R} (h : p) : grd p k = k := by unfold grd; simp [h]
theorem bif_some {α : Type} {b : Bool} {x y : α} : (bif b then some x else some y) = some (bif b then x else y) := by cases b <;> rfl
theorem bif_out {σ τ R : Type} {b : Bool} {x y : τ} : (bif b then some (Step3.out x) else some (Step3.out y) : Option (Step3 σ τ R)) = some (.out (bif b then x else y)) := by cases b <;> rfl
theorem bif_tb {b c : Bool} : (bif b then true else c) = (b || c) := by cases b <;> rfl
theorem bif_bf {b c : Bool} : (bif b then c else false) = (b && c) := by cases b <;> rfl
theorem bif_not {α : Type} {b : Bool} {x y : α} : (bif !b then x else y) = bif b then y else x := by cases b <;> rfl

theorem ref1_Floor_e {a b : Int} (ha : InR a) (hb : 0 < b) : (ref1_Floor_C a b).o = some (a / b) := by
  show (ref1_Floor_T a b).run NN = _
  have h0 : b ≠ 0 := by omega
  simp only [ref1_Floor_T, T.run, grd_p h0, bif_out, andC_out]
  exact congrArg some (floorW ha hb)
theorem ref1_Ceil_e {a b : Int} (ha : InR a) (hb : 0 < b) : (ref1_Ceil_C a b).o = some (cdiv a b) := by
  show (ref1_Ceil_T a b).run NN = _
  have h0 : b ≠ 0 := by omega
  simp only [ref1_Ceil_T, T.run, grd_p h0, bif_out, andC_out]
  exact congrArg some (ceilW ha hb)
theorem two_pow_pos (k : Nat) : (0 : Int) < 2 ^ k := Int.pow_pos (by omega)
theorem fdiv_pow (a : Int) (k : Nat) : a.fdiv (2 ^ k) = a / 2 ^ k := Int.fdiv_eq_ediv_of_nonneg _ (Int.le_of_lt (two_pow_pos k))
theorem fixed_ShiftDown_e (a : Int) (k : Nat) (hk : k ≤ 64) : (fixed_ShiftDown_C a (k : Int)).o = some (a / 2 ^ k) := by
  show (fixed_ShiftDown_T a (k : Int)).run NN = _
  simp only [fixed_ShiftDown_T, T.run]
  rw [bif_dneg (by omega), grd_p (by omega), Int.toNat_natCast, Nat.min_eq_left hk, fdiv_pow]
theorem up_w {a b : Int} (ha : InR a) (hb : 0 < b) (hlo : InR (b * (a / b))) : (bif (IntKind.i64.wrap (a / b * b) != a) then IntKind.i64.wrap (a / b + 1) else a / b) = cdiv a b := by
  rw [Int.mul_comm, hlo.w]
  have h1 := div_lo (a := a) hb
  have h2 := div_hi (a := a) hb
  symm
  rw [cdiv_spec hb]
  by_cases e : b * (a / b) = a
  · rw [bif_nne e]; omega
  · rw [bif_neq e]
    have : IntKind.i64.wrap (a / b + 1) = a / b + 1 := by
      have h3 := ha.cdiv hb
      have : cdiv a b = a / b + 1 := by rw [cdiv_spec hb, Int.mul_add]; omega
      rw [this] at h3; exact h3.w
    rw [this, Int.mul_add]; omega
theorem pow_in {a : Int} {k : Nat} (hk : k ≤ 63) (ha : InR a) : InR (2 ^ k * (a / 2 ^ k)) := by
  have hp := two_pow_pos k
  have h1 := div_lo (a := a) hp
  obtain ⟨h3, h4⟩ := ha
  have h5 : -(2 ^ (63 - k)) ≤ a / 2 ^ k := by
    rw [Int.le_ediv_iff_mul_le hp, Int.neg_mul, ← Int.pow_add, Nat.sub_add_cancel hk]
    have : (2 : Int) ^ 63 = 9223372036854775808 := by decide
    omega
  have h6 : 2 ^ k * -(2 : Int) ^ (63 - k) ≤ 2 ^ k * (a / 2 ^ k) := Int.mul_le_mul_of_nonneg_left h5 (by omega)
  rw [Int.mul_neg, ← Int.pow_add, Nat.add_sub_cancel' hk] at h6
  have : (2 : Int) ^ 63 = 9223372036854775808 := by decide
  exact ⟨by omega, by omega⟩
theorem fixed_ShiftUp_e {a : Int} (k : Nat) (hk : k ≤ 63) (ha : InR a) : (fixed_ShiftUp_C a (k : Int)).o = some (cdiv a (2 ^ k)) := by
  show (fixed_ShiftUp_T a (k : Int)).run NN = _
  simp only [fixed_ShiftUp_T, T.run]
  rw [bif_dneg (by omega), grd_p (by omega), grd_p (by omega), Int.toNat_natCast, Nat.min_eq_left (by omega), fdiv_pow, bif_out, andC_out, up_w ha (two_pow_pos k) (pow_in hk ha)]
theorem sd16 (a : Int) : (fixed_ShiftDown_C a 16).o = some (a / 65536) := fixed_ShiftDown_e a 16 (by decide)
theorem sd30 (a : Int) : (fixed_ShiftDown_C a 30).o = some (a / 1073741824) := fixed_ShiftDown_e a 30 (by decide)
theorem sd14 (a : Int) : (fixed_ShiftDown_C a 14).o = some (a / 16384) := fixed_ShiftDown_e a 14 (by decide)
theorem sd1 (a : Int) : (fixed_ShiftDown_C a 1).o = some (a / 2) := fixed_ShiftDown_e a 1 (by decide)
theorem su16 {a : Int} (h : InR a) : (fixed_ShiftUp_C a 16).o = some (cdiv a 65536) := fixed_ShiftUp_e 16 (by decide) h
theorem su30 {a : Int} (h : InR a) : (fixed_ShiftUp_C a 30).o = some (cdiv a 1073741824) := fixed_ShiftUp_e 30 (by decide) h
theorem su14 {a : Int} (h : InR a) : (fixed_ShiftUp_C a 14).o = some (cdiv a 16384) := fixed_ShiftUp_e 14 (by decide) h

/-! ### Intervals -/
def clV (x : Int) : Int := max (-2147483648) (min x 2147483648)
def vV (a : S_Interval) : Bool := decide (-2147483648 ≤ a.Lo) && (decide (a.Lo ≤ a.Hi) && decide (a.Hi ≤ 2147483648))
theorem vV_iff {a : S_Interval} : vV a = true ↔ -2147483648 ≤ a.Lo ∧ a.Lo ≤ a.Hi ∧ a.Hi ≤ 2147483648 := by simp [vV]
def iz : S_Interval := ⟨0, 0⟩
def limV (lo hi : Int) : S_Interval := ⟨clV lo, clV hi⟩
def addV (a b : S_Interval) : S_Interval := if vV a && vV b then limV (a.Lo + b.Lo) (a.Hi + b.Hi) else iz
def negV (a : S_Interval) : S_Interval := if vV a then ⟨-a.Hi, -a.Lo⟩ else iz
def mulLo (a b : S_Interval) : Int := min (min (min (a.Lo * b.Lo) (a.Lo * b.Hi)) (a.Hi * b.Lo)) (a.Hi * b.Hi)
def mulHi (a b : S_Interval) : Int := max (max (max (a.Lo * b.Lo) (a.Lo * b.Hi)) (a.Hi * b.Lo)) (a.Hi * b.Hi)
def mulV (a b : S_Interval) : S_Interval := if vV a && vV b then limV (mulLo a b / 65536) (cdiv (mulHi a b) 65536) else iz
def hullV (a b : S_Interval) : S_Interval := if vV a && vV b then ⟨min a.Lo b.Lo, max a.Hi b.Hi⟩ else iz
def ofV (x : Int) : S_Interval := ⟨clV x, clV x⟩
def midV (a : S_Interval) : Int := if vV a then (a.Lo + a.Hi) / 2 else 0

theorem fixed_Clamp_e (a : Int) : (fixed_Clamp_C a).o = some (clV a) := by
  show (fixed_Clamp_T a).run NN = _
  simp only [fixed_Clamp_T, T.run, clV, Option.some.injEq]; omega
theorem ref1_Clamp_e (a : Int) : (ref1_Clamp_C a).o = some (clV a) := by
  show (ref1_Clamp_T a).run NN = _
  simp only [ref1_Clamp_T, T.run, clV]
theorem interval_Valid_e (a : S_Interval) : (interval_Valid_C a).o = some (vV a) := by
  show (interval_Valid_T a).run NN = _
  simp only [interval_Valid_T, T.run, vV, bif_some, bif_bf]
theorem ref1_Valid_e (a : S_Interval) : (ref1_Valid_C a).o = some (vV a) := by
  show (ref1_Valid_T a).run NN = _
  simp only [ref1_Valid_T, T.run, vV, bif_some, bif_bf]
theorem interval_valid_e (a b : S_Interval) : (interval_valid_C a b).o = some (vV a && vV b) := by
  show (interval_valid_T a b).run NN = _
  simp only [interval_valid_T, T.run, interval_Valid_e, Option.bind_some, bif_some, bif_bf]
theorem interval_limited_e (a b : Int) : (interval_limited_C a b).o = some (limV a b) := by
  show (interval_limited_T a b).run NN = _
  simp only [interval_limited_T, T.run, fixed_Clamp_e, Option.bind_some, limV]
theorem ref1_limited_e (a b : Int) : (ref1_limited_C a b).o = some (limV a b) := by
  show (ref1_limited_T a b).run NN = _
  simp only [ref1_limited_T, T.run, ref1_Clamp_e, Option.bind_some, limV]
theorem interval_Of_e (a : Int) : (interval_Of_C a).o = some (ofV a) := by
  show (interval_Of_T a).run NN = _
  simp only [interval_Of_T, T.run, interval_limited_e, Option.bind_some, limV, ofV]
theorem ref1_Of_e (a : Int) : (ref1_Of_C a).o = some (ofV a) := by
  show (ref1_Of_T a).run NN = _
  simp only [ref1_Of_T, T.run, ref1_Clamp_e, Option.bind_some, ofV]
theorem wsum {a b : Int} (ha : -2147483648 ≤ a ∧ a ≤ 2147483648) (hb : -2147483648 ≤ b ∧ b ≤ 2147483648) : IntKind.i64.wrap (a + b) = a + b := w64 (by omega) (by omega)
theorem wmul {a b : Int} (ha : -2147483648 ≤ a ∧ a ≤ 2147483648) (hb : -2147483648 ≤ b ∧ b ≤ 2147483648) : IntKind.i64.wrap (a * b) = a * b ∧ -4611686018427387904 ≤ a * b ∧ a * b ≤ 4611686018427387904 := by
  have h : -4611686018427387904 ≤ a * b ∧ a * b ≤ 4611686018427387904 := by
    have h1 : (a * b).natAbs ≤ 2147483648 * 2147483648 := by rw [Int.natAbs_mul]; exact Nat.mul_le_mul (by omega) (by omega)
    omega
  exact ⟨w64 (by omega) (by omega), h⟩
theorem interval_Add_e (a b : S_Interval) : (interval_Add_C a b).o = some (addV a b) := by
  show (interval_Add_T a b).run NN = _
  simp only [interval_Add_T, T.run, interval_valid_e, interval_limited_e, Option.bind_some, bif_some, addV]
  cases h : vV a && vV b
  · rfl
  · simp only [Bool.and_eq_true, vV_iff] at h
    rw [wsum ⟨by omega, by omega⟩ ⟨by omega, by omega⟩, wsum ⟨by omega, by omega⟩ ⟨by omega, by omega⟩]; rfl
theorem ref1_Add_e (a b : S_Interval) : (ref1_Add_C a b).o = some (addV a b) := by
  show (ref1_Add_T a b).run NN = _
  simp only [ref1_Add_T, T.run, ref1_Valid_e, ref1_limited_e, Option.bind_some, bif_some, bif_out, andC_out, addV]
  cases h1 : vV a
  · rfl
  · cases h2 : vV b
    · rfl
    · simp only [vV_iff] at h1 h2
      rw [wsum ⟨by omega, by omega⟩ ⟨by omega, by omega⟩, wsum ⟨by omega, by omega⟩ ⟨by omega, by omega⟩]; rfl
theorem interval_Neg_e (a : S_Interval) : (interval_Neg_C a).o = some (negV a) := by
  show (interval_Neg_T a).run NN = _
  simp only [interval_Neg_T, T.run, interval_Valid_e, Option.bind_some, bif_some, negV]
  cases h : vV a
  · rfl
  · simp only [vV_iff] at h
    rw [w64 (x := 0 - a.Hi) (by omega) (by omega), w64 (x := 0 - a.Lo) (by omega) (by omega)]
    simp
theorem ref1_Neg_e (a : S_Interval) : (ref1_Neg_C a).o = some (negV a) := by
  show (ref1_Neg_T a).run NN = _
  simp only [ref1_Neg_T, T.run, ref1_Valid_e, Option.bind_some, bif_some, negV]
  cases h : vV a
  · rfl
  · simp only [vV_iff] at h
    rw [w64 (x := 0 - a.Hi) (by omega) (by omega), w64 (x := 0 - a.Lo) (by omega) (by omega)]
    simp
theorem interval_Hull_e (a b : S_Interval) : (interval_Hull_C a b).o = some (hullV a b) := by
  show (interval_Hull_T a b).run NN = _
  simp only [interval_Hull_T, T.run, interval_valid_e, Option.bind_some, bif_some, hullV]
  cases h : vV a && vV b <;> rfl
theorem ref1_Hull_e (a b : S_Interval) : (ref1_Hull_C a b).o = some (hullV a b) := by
  show (ref1_Hull_T a b).run NN = _
  simp only [ref1_Hull_T, T.run, ref1_Valid_e, Option.bind_some, bif_some, bif_out, andC_out, hullV]
  cases h1 : vV a <;> cases h2 : vV b <;> rfl
theorem interval_Width_e (a : S_Interval) (h : vV a = true) : (interval_Width_C a).o = some (a.Hi - a.Lo) := by
  show (interval_Width_T a).run NN = _
  simp only [interval_Width_T, T.run, interval_Valid_e, Option.bind_some, bif_some, h]
  simp only [vV_iff] at h
  rw [w64 (by omega) (by omega)]; rfl
theorem interval_Has_e (a : S_Interval) (x : Int) : (interval_Has_C a x).o = some (vV a && (decide (a.Lo ≤ x) && decide (x ≤ a.Hi))) := by
  show (interval_Has_T a x).run NN = _
  simp only [interval_Has_T, T.run, interval_Valid_e, Option.bind_some, bif_some, bif_bf]
theorem interval_scaled_e {a b : Int} (hb : InR b) : (interval_scaled_C a b).o = some (limV (a / 65536) (cdiv b 65536)) := by
  show (interval_scaled_T a b).run NN = _
  simp only [interval_scaled_T, T.run, sd16, su16 hb, interval_limited_e, Option.bind_some]
theorem mul_bd {a b : S_Interval} (ha : vV a = true) (hb : vV b = true) : InR (mulLo a b) ∧ InR (mulHi a b) ∧ mulLo a b ≤ mulHi a b := by
  simp only [vV_iff] at ha hb
  obtain ⟨-, p1, p2⟩ := wmul (a := a.Lo) (b := b.Lo) ⟨by omega, by omega⟩ ⟨by omega, by omega⟩
  obtain ⟨-, q1, q2⟩ := wmul (a := a.Lo) (b := b.Hi) ⟨by omega, by omega⟩ ⟨by omega, by omega⟩
  obtain ⟨-, r1, r2⟩ := wmul (a := a.Hi) (b := b.Lo) ⟨by omega, by omega⟩ ⟨by omega, by omega⟩
  obtain ⟨-, s1, s2⟩ := wmul (a := a.Hi) (b := b.Hi) ⟨by omega, by omega⟩ ⟨by omega, by omega⟩
  unfold mulLo mulHi InR
  generalize a.Lo * b.Lo = p at *
  generalize a.Lo * b.Hi = q at *
  generalize a.Hi * b.Lo = r at *
  generalize a.Hi * b.Hi = s at *
  omega
theorem ref1_Mul_e (a b : S_Interval) : (ref1_Mul_C a b).o = some (mulV a b) := by
  show (ref1_Mul_T a b).run NN = _
  simp only [ref1_Mul_T, T.run, ref1_Valid_e, ref1_limited_e, Option.bind_some, bif_some, bif_out, andC_out, mulV]
  cases h1 : vV a
  · rfl
  · cases h2 : vV b
    · rfl
    · have hm := mul_bd h1 h2
      simp only [vV_iff] at h1 h2
      rw [(wmul (a := a.Lo) (b := b.Lo) ⟨by omega, by omega⟩ ⟨by omega, by omega⟩).1, (wmul (a := a.Lo) (b := b.Hi) ⟨by omega, by omega⟩ ⟨by omega, by omega⟩).1,
        (wmul (a := a.Hi) (b := b.Lo) ⟨by omega, by omega⟩ ⟨by omega, by omega⟩).1, (wmul (a := a.Hi) (b := b.Hi) ⟨by omega, by omega⟩ ⟨by omega, by omega⟩).1]
      show (ref1_Floor_C (mulLo a b) 65536).o.bind _ = _
      rw [ref1_Floor_e hm.1 (by decide), Option.bind_some]
      show (ref1_Ceil_C (mulHi a b) 65536).o.bind _ = _
      rw [ref1_Ceil_e hm.2.1 (by decide)]; rfl
theorem interval_Mul_e (a b : S_Interval) : (interval_Mul_C a b).o = some (mulV a b) := by
  show (interval_Mul_T a b).run NN = _
  simp only [interval_Mul_T, T.run, interval_valid_e, Option.bind_some, mulV]
  cases h : vV a && vV b
  · rfl
  · simp only [Bool.and_eq_true] at h
    have hm := mul_bd h.1 h.2
    simp only [vV_iff] at h
    rw [(wmul (a := a.Lo) (b := b.Lo) ⟨by omega, by omega⟩ ⟨by omega, by omega⟩).1, (wmul (a := a.Lo) (b := b.Hi) ⟨by omega, by omega⟩ ⟨by omega, by omega⟩).1,
        (wmul (a := a.Hi) (b := b.Lo) ⟨by omega, by omega⟩ ⟨by omega, by omega⟩).1, (wmul (a := a.Hi) (b := b.Hi) ⟨by omega, by omega⟩ ⟨by omega, by omega⟩).1]
    simp only [Bool.not_true, cond_false]
    refine Eq.trans (loop_to (fun i => match i with
      | 0 => (a.Lo * b.Lo, a.Lo * b.Lo, 0)
      | 1 => (a.Lo * b.Lo, a.Lo * b.Lo, 1)
      | 2 => (min (a.Lo * b.Lo) (a.Lo * b.Hi), max (a.Lo * b.Lo) (a.Lo * b.Hi), 2)
      | 3 => (min (min (a.Lo * b.Lo) (a.Lo * b.Hi)) (a.Hi * b.Lo), max (max (a.Lo * b.Lo) (a.Lo * b.Hi)) (a.Hi * b.Lo), 3)
      | _ => (mulLo a b, mulHi a b, 4)) (mulLo a b, mulHi a b) 4 rfl (by decide) ?_ ?_) ?_
    · intro j hj
      match j, hj with
      | 0, _ => simp [grd_p, IntKind.wrap, IntKind.bits, IntKind.signed]
      | 1, _ => simp [grd_p, IntKind.wrap, IntKind.bits, IntKind.signed]
      | 2, _ => simp [grd_p, IntKind.wrap, IntKind.bits, IntKind.signed]
      | 3, _ => simp [grd_p, IntKind.wrap, IntKind.bits, IntKind.signed, mulLo, mulHi]
    · rfl
    · rw [interval_scaled_e hm.2.1]; rfl
end Go.Abs

/-
  Sines and cosines: what the program and the reference compute is the same.
-/
namespace Go.Abs

def pd1 (x : Int) : Int := IntKind.i64.wrap (x * 6746518852) / 65536
def pu1 (x : Int) : Int := cdiv (IntKind.i64.wrap (x * 6746518853)) 65536
def pd (x : Int) : Nat → Int
  | 0 => pd1 x
  | k + 1 => IntKind.i64.wrap (pd x k * pd1 x) / 1073741824
def pu (x : Int) : Nat → Int
  | 0 => pu1 x
  | k + 1 => cdiv (IntKind.i64.wrap (pu x k * pu1 x)) 1073741824

theorem angle_powersOf_e (x : Int) : (angle_powersOf_C x).o = some ((1073741824, pd x 0, pd x 1, pd x 2, pd x 3, pd x 4, pd x 5, pd x 6, pd x 7, pd x 8, pd x 9), (1073741824, pu x 0, pu x 1, pu x 2, pu x 3, pu x 4, pu x 5, pu x 6, pu x 7, pu x 8, pu x 9)) := by
  show (angle_powersOf_T x).run NN = _
  simp only [angle_powersOf_T, T.run, sd16, su16 (InR.wr _), sd30, su30 (InR.wr _), Option.bind_some, pd, pu, pd1, pu1]
theorem ref1_powers_e (x : Int) : (ref1_powers_C x).o = some ((0, pd x 0, pd x 1, pd x 2, pd x 3, pd x 4, pd x 5, pd x 6, pd x 7, pd x 8, pd x 9), (0, pu x 0, pu x 1, pu x 2, pu x 3, pu x 4, pu x 5, pu x 6, pu x 7, pu x 8, pu x 9)) := by
  have h1 : ∀ y : Int, (ref1_Floor_C (IntKind.i64.wrap y) 65536).o = some (IntKind.i64.wrap y / 65536) := fun y => ref1_Floor_e (InR.wr _) (by decide)
  have h2 : ∀ y : Int, (ref1_Ceil_C (IntKind.i64.wrap y) 65536).o = some (cdiv (IntKind.i64.wrap y) 65536) := fun y => ref1_Ceil_e (InR.wr _) (by decide)
  have h3 : ∀ y : Int, (ref1_Floor_C (IntKind.i64.wrap y) 1073741824).o = some (IntKind.i64.wrap y / 1073741824) := fun y => ref1_Floor_e (InR.wr _) (by decide)
  have h4 : ∀ y : Int, (ref1_Ceil_C (IntKind.i64.wrap y) 1073741824).o = some (cdiv (IntKind.i64.wrap y) 1073741824) := fun y => ref1_Ceil_e (InR.wr _) (by decide)
  show (ref1_powers_T x).run NN = _
  simp only [ref1_powers_T, T.run, h1, h2, h3, h4, Option.bind_some, pd, pu, pd1, pu1]

theorem pd1_bd {x : Int} (h0 : 0 ≤ x) (h1 : x ≤ 8192) : 0 ≤ pd1 x ∧ pd1 x ≤ 1073741824 := by
  unfold pd1; rw [w64 (by omega) (by omega)]; omega
theorem pu1_bd {x : Int} (h0 : 0 ≤ x) (h1 : x ≤ 8192) : 0 ≤ pu1 x ∧ pu1 x ≤ 1073741824 := by
  unfold pu1 cdiv; rw [w64 (by omega) (by omega)]; omega
theorem prod_bd {a b : Int} (ha : 0 ≤ a ∧ a ≤ 1073741824) (hb : 0 ≤ b ∧ b ≤ 1073741824) : 0 ≤ a * b ∧ a * b ≤ 1152921504606846976 := by
  refine ⟨Int.mul_nonneg ha.1 hb.1, ?_⟩
  have := Int.mul_le_mul ha.2 hb.2 hb.1 (by omega : (0 : Int) ≤ 1073741824)
  omega
theorem pd_bd {x : Int} (h0 : 0 ≤ x) (h1 : x ≤ 8192) : ∀ k, 0 ≤ pd x k ∧ pd x k ≤ 1073741824
  | 0 => pd1_bd h0 h1
  | k + 1 => by
    have := prod_bd (pd_bd h0 h1 k) (pd1_bd h0 h1)
    simp only [pd]
    generalize pd x k * pd1 x = y at this ⊢
    rw [w64 (by omega) (by omega)]; omega
theorem pu_bd {x : Int} (h0 : 0 ≤ x) (h1 : x ≤ 8192) : ∀ k, 0 ≤ pu x k ∧ pu x k ≤ 1073741824
  | 0 => pu1_bd h0 h1
  | k + 1 => by
    have := prod_bd (pu_bd h0 h1 k) (pu1_bd h0 h1)
    simp only [pu]
    generalize pu x k * pu1 x = y at this ⊢
    rw [w64 (by omega) (by omega)]; unfold cdiv; omega

theorem angle_ceiling_e {n d : Int} (h0 : 0 ≤ n) (h1 : n ≤ 1073741824) (h2 : 0 < d) (h3 : d ≤ 1073741824) : (angle_ceiling_C n d).o = some (cdiv n d) := by
  show (angle_ceiling_T n d).run NN = _
  simp only [angle_ceiling_T, T.run]
  rw [grd_p (by omega), w64 (x := n + d) (by omega) (by omega), w64 (x := n + d - 1) (by omega) (by omega), tdiv_pos (by omega)]
  have h4 := div_lo (a := n + d - 1) h2
  have h5 := div_hi (a := n + d - 1) h2
  have h6 := (div_bd (a := n + d - 1) h2).1 (by omega)
  rw [w64 (by omega) (by omega)]
  congr 1; symm
  rw [cdiv_spec h2]; omega
def alt (l : List Int) : Nat → Int × Int
  | 0 => (0, 1)
  | k + 1 => (IntKind.i64.wrap ((alt l k).1 + IntKind.i64.wrap ((alt l k).2 * l.getD k default)), IntKind.i64.wrap (0 - (alt l k).2))
theorem angle_alternating_e (l : List Int) (h : l.length < 4294967296) : (angle_alternating_C l).o = some (alt l l.length).1 := by
  show (angle_alternating_T l).run NN = _
  simp only [angle_alternating_T, T.run]
  refine Eq.trans (loop_to (fun i => ((alt l i).1, (alt l i).2, (i : Int))) (alt l l.length).1 l.length rfl h ?_ ?_) rfl
  · intro j hj
    rw [bif_dpos (by simpa using hj), grd_p ⟨by simp, by simpa using hj⟩]
    simp only [alt, w64n (show j < 9223372036854775807 by omega), Int.toNat_natCast]
  · rw [bif_dneg (by simp)]
theorem alt4 {a b c d : Int} (ha : 0 ≤ a ∧ a ≤ 1073741824) (hb : 0 ≤ b ∧ b ≤ 1073741824) (hc : 0 ≤ c ∧ c ≤ 1073741824) (hd : 0 ≤ d ∧ d ≤ 1073741824) : (angle_alternating_C [a, b, c, d]).o = some (a - b + c - d) := by
  rw [angle_alternating_e _ (by simp)]
  simp [alt, wr]; omega
theorem alt5 {a b c d e : Int} (ha : 0 ≤ a ∧ a ≤ 1073741824) (hb : 0 ≤ b ∧ b ≤ 1073741824) (hc : 0 ≤ c ∧ c ≤ 1073741824) (hd : 0 ≤ d ∧ d ≤ 1073741824) (he : 0 ≤ e ∧ e ≤ 1073741824) : (angle_alternating_C [a, b, c, d, e]).o = some (a - b + c - d + e) := by
  rw [angle_alternating_e _ (by simp)]
  simp [alt, wr]; omega
theorem alt6 {a b c d e f : Int} (ha : 0 ≤ a ∧ a ≤ 1073741824) (hb : 0 ≤ b ∧ b ≤ 1073741824) (hc : 0 ≤ c ∧ c ≤ 1073741824) (hd : 0 ≤ d ∧ d ≤ 1073741824) (he : 0 ≤ e ∧ e ≤ 1073741824) (hf : 0 ≤ f ∧ f ≤ 1073741824) : (angle_alternating_C [a, b, c, d, e, f]).o = some (a - b + c - d + e - f) := by
  rw [angle_alternating_e _ (by simp)]
  simp [alt, wr]; omega

def encV (lo hi : Int) : S_Interval := ⟨max 0 (lo / 16384), min 65536 (cdiv hi 16384)⟩
theorem angle_enclosure_e {a b : Int} (hb : InR b) : (angle_enclosure_C a b).o = some (encV a b) := by
  show (angle_enclosure_T a b).run NN = _
  simp only [angle_enclosure_T, T.run, sd14, su14 hb, Option.bind_some, encV]
theorem ref1_enclosure_e {a b : Int} (ha : InR a) (hb : InR b) : (ref1_enclosure_C a b).o = some (encV a b) := by
  show (ref1_enclosure_T a b).run NN = _
  simp only [ref1_enclosure_T, T.run, ref1_Floor_e ha (show (0 : Int) < 16384 by decide), ref1_Ceil_e hb (show (0 : Int) < 16384 by decide), Option.bind_some, encV]

def sLo (x : Int) : Int := pd x 0 - cdiv (pu x 2) 6 + pd x 4 / 120 - cdiv (pu x 6) 5040
def sHi (x : Int) : Int := pu x 0 - pd x 2 / 6 + cdiv (pu x 4) 120 - pd x 6 / 5040 + cdiv (pu x 8) 362880
def cLo (x : Int) : Int := 1073741824 - cdiv (pu x 1) 2 + pd x 3 / 24 - cdiv (pu x 5) 720 + pd x 7 / 40320 - cdiv (pu x 9) 3628800
def cHi (x : Int) : Int := 1073741824 - pd x 1 / 2 + cdiv (pu x 3) 24 - pd x 5 / 720 + cdiv (pu x 7) 40320
theorem q_bd {a b : Int} (ha : 0 ≤ a ∧ a ≤ 1073741824) (hb : 0 < b) : 0 ≤ a / b ∧ a / b ≤ 1073741824 := by
  have := (div_bd (a := a) hb).1 ha.1; omega
theorem c_bd {a b : Int} (ha : 0 ≤ a ∧ a ≤ 1073741824) (hb : 0 < b) : 0 ≤ cdiv a b ∧ cdiv a b ≤ 1073741824 := by
  have h := cdiv_bd (a := a) hb
  by_cases h0 : a = 0
  · have := h.2 (by omega); omega
  · have := h.1 (by omega); omega
theorem wq {a b : Int} (ha : 0 ≤ a ∧ a ≤ 1073741824) (hb : 0 < b) : IntKind.i64.wrap (a.tdiv b) = a / b := by
  rw [tdiv_pos ha.1]; have := q_bd ha hb; exact w64 (by omega) (by omega)
theorem in30 {a : Int} (ha : 0 ≤ a ∧ a ≤ 1073741824) : InR a := ⟨by omega, by omega⟩

section
variable {x : Int} (h0 : 0 ≤ x) (h1 : x ≤ 8192)
include h0 h1
theorem angle_sine_e : (angle_sine_C x).o = some (encV (sLo x) (sHi x)) := by
  have P := pd_bd h0 h1
  have U := pu_bd h0 h1
  show (angle_sine_T x).run NN = _
  simp only [angle_sine_T, T.run, T.ix, angle_powersOf_e, Option.bind_some, angle_ceiling_e (U 2).1 (U 2).2 (show (0 : Int) < 6 by decide) (by decide), angle_ceiling_e (U 6).1 (U 6).2 (show (0 : Int) < 5040 by decide) (by decide),
    angle_ceiling_e (U 4).1 (U 4).2 (show (0 : Int) < 120 by decide) (by decide), angle_ceiling_e (U 8).1 (U 8).2 (show (0 : Int) < 362880 by decide) (by decide), wq (P 4) (show (0 : Int) < 120 by decide), wq (P 2) (show (0 : Int) < 6 by decide), wq (P 6) (show (0 : Int) < 5040 by decide),
    alt4 (P 0) (c_bd (U 2) (show (0 : Int) < 6 by decide)) (q_bd (P 4) (show (0 : Int) < 120 by decide)) (c_bd (U 6) (show (0 : Int) < 5040 by decide)),
    alt5 (U 0) (q_bd (P 2) (show (0 : Int) < 6 by decide)) (c_bd (U 4) (show (0 : Int) < 120 by decide)) (q_bd (P 6) (show (0 : Int) < 5040 by decide)) (c_bd (U 8) (show (0 : Int) < 362880 by decide))]
  have a0 := U 0; have a1 := q_bd (P 2) (show (0 : Int) < 6 by decide); have a2 := c_bd (U 4) (show (0 : Int) < 120 by decide); have a3 := q_bd (P 6) (show (0 : Int) < 5040 by decide); have a4 := c_bd (U 8) (show (0 : Int) < 362880 by decide)
  rw [angle_enclosure_e ⟨by omega, by omega⟩]; rfl
theorem angle_cosine_e : (angle_cosine_C x).o = some (encV (cLo x) (cHi x)) := by
  have P := pd_bd h0 h1
  have U := pu_bd h0 h1
  have one : (0 : Int) ≤ 1073741824 ∧ (1073741824 : Int) ≤ 1073741824 := by decide
  show (angle_cosine_T x).run NN = _
  simp only [angle_cosine_T, T.run, T.ix, angle_powersOf_e, Option.bind_some, angle_ceiling_e (U 1).1 (U 1).2 (show (0 : Int) < 2 by decide) (by decide), angle_ceiling_e (U 5).1 (U 5).2 (show (0 : Int) < 720 by decide) (by decide), angle_ceiling_e (U 9).1 (U 9).2 (show (0 : Int) < 3628800 by decide) (by decide),
    angle_ceiling_e (U 3).1 (U 3).2 (show (0 : Int) < 24 by decide) (by decide), angle_ceiling_e (U 7).1 (U 7).2 (show (0 : Int) < 40320 by decide) (by decide), wq (P 3) (show (0 : Int) < 24 by decide), wq (P 7) (show (0 : Int) < 40320 by decide), wq (P 1) (show (0 : Int) < 2 by decide), wq (P 5) (show (0 : Int) < 720 by decide),
    alt6 one (c_bd (U 1) (show (0 : Int) < 2 by decide)) (q_bd (P 3) (show (0 : Int) < 24 by decide)) (c_bd (U 5) (show (0 : Int) < 720 by decide)) (q_bd (P 7) (show (0 : Int) < 40320 by decide)) (c_bd (U 9) (show (0 : Int) < 3628800 by decide)),
    alt5 one (q_bd (P 1) (show (0 : Int) < 2 by decide)) (c_bd (U 3) (show (0 : Int) < 24 by decide)) (q_bd (P 5) (show (0 : Int) < 720 by decide)) (c_bd (U 7) (show (0 : Int) < 40320 by decide))]
  have a1 := q_bd (P 1) (show (0 : Int) < 2 by decide); have a2 := c_bd (U 3) (show (0 : Int) < 24 by decide); have a3 := q_bd (P 5) (show (0 : Int) < 720 by decide); have a4 := c_bd (U 7) (show (0 : Int) < 40320 by decide)
  rw [angle_enclosure_e ⟨by omega, by omega⟩]; rfl
theorem ref1_sine_e : (ref1_sine_C x).o = some (encV (sLo x) (sHi x)) := by
  have P := pd_bd h0 h1
  have U := pu_bd h0 h1
  show (ref1_sine_T x).run NN = _
  simp only [ref1_sine_T, T.run, T.ix, ref1_powers_e, Option.bind_some, ref1_Ceil_e (in30 (U 2)) (show (0 : Int) < 6 by decide), ref1_Ceil_e (in30 (U 6)) (show (0 : Int) < 5040 by decide), ref1_Ceil_e (in30 (U 4)) (show (0 : Int) < 120 by decide), ref1_Ceil_e (in30 (U 8)) (show (0 : Int) < 362880 by decide),
    ref1_Floor_e (in30 (P 4)) (show (0 : Int) < 120 by decide), ref1_Floor_e (in30 (P 2)) (show (0 : Int) < 6 by decide), ref1_Floor_e (in30 (P 6)) (show (0 : Int) < 5040 by decide), wr_addl, wr_subl]
  have b0 := P 0; have b1 := c_bd (U 2) (show (0 : Int) < 6 by decide); have b2 := q_bd (P 4) (show (0 : Int) < 120 by decide); have b3 := c_bd (U 6) (show (0 : Int) < 5040 by decide)
  have a0 := U 0; have a1 := q_bd (P 2) (show (0 : Int) < 6 by decide); have a2 := c_bd (U 4) (show (0 : Int) < 120 by decide); have a3 := q_bd (P 6) (show (0 : Int) < 5040 by decide); have a4 := c_bd (U 8) (show (0 : Int) < 362880 by decide)
  rw [w64 (x := pd x 0 - cdiv (pu x 2) 6 + pd x 4 / 120 - cdiv (pu x 6) 5040) (by omega) (by omega), w64 (x := pu x 0 - pd x 2 / 6 + cdiv (pu x 4) 120 - pd x 6 / 5040 + cdiv (pu x 8) 362880) (by omega) (by omega), ref1_enclosure_e ⟨by omega, by omega⟩ ⟨by omega, by omega⟩]; rfl
theorem ref1_cosine_e : (ref1_cosine_C x).o = some (encV (cLo x) (cHi x)) := by
  have P := pd_bd h0 h1
  have U := pu_bd h0 h1
  show (ref1_cosine_T x).run NN = _
  simp only [ref1_cosine_T, T.run, T.ix, ref1_powers_e, Option.bind_some, ref1_Ceil_e (in30 (U 1)) (show (0 : Int) < 2 by decide), ref1_Ceil_e (in30 (U 5)) (show (0 : Int) < 720 by decide), ref1_Ceil_e (in30 (U 9)) (show (0 : Int) < 3628800 by decide), ref1_Ceil_e (in30 (U 3)) (show (0 : Int) < 24 by decide), ref1_Ceil_e (in30 (U 7)) (show (0 : Int) < 40320 by decide),
    ref1_Floor_e (in30 (P 3)) (show (0 : Int) < 24 by decide), ref1_Floor_e (in30 (P 7)) (show (0 : Int) < 40320 by decide), ref1_Floor_e (in30 (P 1)) (show (0 : Int) < 2 by decide), ref1_Floor_e (in30 (P 5)) (show (0 : Int) < 720 by decide), wr_addl, wr_subl]
  have b1 := c_bd (U 1) (show (0 : Int) < 2 by decide); have b2 := q_bd (P 3) (show (0 : Int) < 24 by decide); have b3 := c_bd (U 5) (show (0 : Int) < 720 by decide); have b4 := q_bd (P 7) (show (0 : Int) < 40320 by decide); have b5 := c_bd (U 9) (show (0 : Int) < 3628800 by decide)
  have a1 := q_bd (P 1) (show (0 : Int) < 2 by decide); have a2 := c_bd (U 3) (show (0 : Int) < 24 by decide); have a3 := q_bd (P 5) (show (0 : Int) < 720 by decide); have a4 := c_bd (U 7) (show (0 : Int) < 40320 by decide)
  rw [w64 (x := 1073741824 - cdiv (pu x 1) 2 + pd x 3 / 24 - cdiv (pu x 5) 720 + pd x 7 / 40320 - cdiv (pu x 9) 3628800) (by omega) (by omega), w64 (x := 1073741824 - pd x 1 / 2 + cdiv (pu x 3) 24 - pd x 5 / 720 + cdiv (pu x 7) 40320) (by omega) (by omega), ref1_enclosure_e ⟨by omega, by omega⟩ ⟨by omega, by omega⟩]; rfl
end
def qV (r : Int) : S_Interval := if r ≤ 8192 then encV (sLo r) (sHi r) else encV (cLo (16384 - r)) (cHi (16384 - r))
theorem angle_first_e {r : Int} (h0 : 0 ≤ r) (h1 : r ≤ 16384) : (angle_first_C r).o = some (qV r) := by
  show (angle_first_T r).run NN = _
  simp only [angle_first_T, T.run, qV]
  by_cases h : r ≤ 8192
  · rw [bif_dpos h, if_pos h, angle_sine_e h0 h]; rfl
  · rw [bif_dneg h, if_neg h, w64 (by omega) (by omega), angle_cosine_e (by omega) (by omega)]; rfl
theorem ref1_Quarter_e {r : Int} (h0 : 0 ≤ r) (h1 : r ≤ 16384) : (ref1_Quarter_C r).o = some (qV r) := by
  show (ref1_Quarter_T r).run NN = _
  simp only [ref1_Quarter_T, T.run, qV]
  by_cases h : r ≤ 8192
  · rw [bif_dpos h, if_pos h, ref1_sine_e h0 h]; rfl
  · rw [bif_dneg h, if_neg h, w64 (by omega) (by omega), ref1_cosine_e (by omega) (by omega)]; rfl
theorem and_mask (a : Int) : (((BitVec.ofInt 64 a &&& BitVec.ofInt 64 65535).toNat : Nat) : Int) = a % 65536 := by
  have h1 : (BitVec.ofInt 64 65535).toNat = 2 ^ 16 - 1 := by decide
  rw [BitVec.toNat_and, h1, Nat.and_two_pow_sub_one_eq_mod, BitVec.toNat_ofInt]
  omega
theorem angle_modTurn_e (a : Int) : (angle_modTurn_C a).o = some (a % 65536) := by
  show (angle_modTurn_T a).run NN = _
  simp only [angle_modTurn_T, T.run]
  rw [and_mask, w64 (by omega) (by omega)]
theorem ref1_Mod_e (a : Int) : (ref1_Mod_C a).o = some (a % 65536) := by
  show (ref1_Mod_T a).run NN = _
  simp only [ref1_Mod_T, T.run]
  have h2 := Int.tmod_lt_of_pos a (show (0 : Int) < 65536 by decide)
  have h3 := Int.lt_tmod_of_pos a (show (0 : Int) < 65536 by decide)
  have h1 := Int.mul_tdiv_add_tmod a 65536
  rw [w64 (by omega) (by omega), tmod_pos (by omega)]
  congr 1; omega
def sinV (a : Int) : S_Interval :=
  if a % 65536 / 16384 = 0 then qV (a % 65536 % 16384) else if a % 65536 / 16384 = 1 then qV (16384 - a % 65536 % 16384) else
  if a % 65536 / 16384 = 2 then negV (qV (a % 65536 % 16384)) else negV (qV (16384 - a % 65536 % 16384))
theorem angle_Sin_e (a : Int) : (angle_Sin_C a).o = some (sinV a) := by
  show (angle_Sin_T a).run NN = _
  simp only [angle_Sin_T, T.run, angle_modTurn_e, Option.bind_some, sinV]
  rw [tdiv_pos (by omega), tmod_pos (by omega), w64 (x := a % 65536 / 16384) (by omega) (by omega), w64 (x := 16384 - a % 65536 % 16384) (by omega) (by omega), angle_first_e (by omega) (by omega), angle_first_e (by omega) (by omega)]
  simp only [Option.bind_some, interval_Neg_e]
  by_cases h0 : a % 65536 / 16384 = 0
  · rw [bif_eq h0, if_pos h0]
  · rw [bif_ne h0, if_neg h0]
    by_cases h1 : a % 65536 / 16384 = 1
    · rw [bif_eq h1, if_pos h1]
    · rw [bif_ne h1, if_neg h1]
      by_cases h2 : a % 65536 / 16384 = 2
      · rw [bif_eq h2, if_pos h2]
      · rw [bif_ne h2, if_neg h2]
theorem ref1_Sin_e (a : Int) : (ref1_Sin_C a).o = some (sinV a) := by
  show (ref1_Sin_T a).run NN = _
  simp only [ref1_Sin_T, T.run, ref1_Mod_e, Option.bind_some, sinV]
  rw [tdiv_pos (by omega), tmod_pos (by omega), w64 (x := a % 65536 / 16384) (by omega) (by omega), w64 (x := 16384 - a % 65536 % 16384) (by omega) (by omega), ref1_Quarter_e (by omega) (by omega), ref1_Quarter_e (by omega) (by omega)]
  simp only [Option.bind_some, ref1_Neg_e]
  by_cases h0 : a % 65536 / 16384 = 0
  · rw [bif_eq h0, if_pos h0]
  · rw [bif_ne h0, if_neg h0]
    by_cases h1 : a % 65536 / 16384 = 1
    · rw [bif_eq h1, if_pos h1]
    · rw [bif_ne h1, if_neg h1]
      by_cases h2 : a % 65536 / 16384 = 2
      · rw [bif_eq h2, if_pos h2]
      · rw [bif_ne h2, if_neg h2]
def cosV (a : Int) : S_Interval := sinV (a % 65536 + 16384)
theorem angle_Cos_e (a : Int) : (angle_Cos_C a).o = some (cosV a) := by
  show (angle_Cos_T a).run NN = _
  simp only [angle_Cos_T, T.run, angle_modTurn_e, Option.bind_some, cosV]
  rw [w64 (by omega) (by omega), angle_Sin_e]; rfl
theorem ref1_Cos_e (a : Int) : (ref1_Cos_C a).o = some (cosV a) := by
  show (ref1_Cos_T a).run NN = _
  simp only [ref1_Cos_T, T.run, ref1_Mod_e, Option.bind_some, cosV]
  rw [w64 (by omega) (by omega), ref1_Sin_e]; rfl

/-! ### Over an interval -/
def meetV (a : S_Interval) (c : Int) : Bool := decide (a.Lo + (c - a.Lo) % 65536 ≤ a.Hi)
def hull1 (b : Bool) (x y : S_Interval) : S_Interval := if b then hullV x y else x
def overV (a lo hi : S_Interval) (top bot : Int) : S_Interval :=
  if vV a then (if a.Hi - a.Lo ≥ 65536 then ⟨-65536, 65536⟩ else hull1 (meetV a bot) (hull1 (meetV a top) (hullV lo hi) (ofV 65536)) (ofV (-65536))) else iz
section
variable {a : S_Interval} (h : vV a = true) {c : Int} (h0 : 0 ≤ c) (h1 : c ≤ 65536)
include h h0 h1
theorem angle_meets_e : (angle_meets_C a c).o = some (meetV a c) := by
  show (angle_meets_T a c).run NN = _
  have hv := h
  simp only [vV_iff] at hv
  simp only [angle_meets_T, T.run, angle_modTurn_e, Option.bind_some, interval_Has_e, h, Bool.true_and, meetV]
  rw [w64 (x := c - a.Lo) (by omega) (by omega), w64 (by omega) (by omega), decide_eq_true (p := a.Lo ≤ _) (by omega), Bool.true_and]
theorem ref1_meets_e : (ref1_meets_C a c).o = some (meetV a c) := by
  show (ref1_meets_T a c).run NN = _
  have hv := h
  simp only [vV_iff] at hv
  simp only [ref1_meets_T, T.run, ref1_Mod_e, Option.bind_some, meetV]
  rw [w64 (x := c - a.Lo) (by omega) (by omega), w64 (by omega) (by omega)]
end
theorem angle_over_e (a : S_Interval) {t b : Int} (ht : 0 ≤ t ∧ t ≤ 65536) (hb : 0 ≤ b ∧ b ≤ 65536) : (angle_over_C a t b).o = some (overV a (cosV a.Lo) (cosV a.Hi) t b) := by
  show (angle_over_T a t b).run NN = _
  simp only [angle_over_T, T.run, interval_Valid_e, Option.bind_some, overV]
  cases h : vV a
  · rfl
  · simp only [Bool.not_true, cond_false, interval_Width_e a h, Option.bind_some, angle_Cos_e, interval_Hull_e, angle_meets_e h ht.1 ht.2, angle_meets_e h hb.1 hb.2, interval_Of_e, if_true]
    by_cases hw : a.Hi - a.Lo ≥ 65536
    · rw [bif_dpos hw, if_pos hw]
    · rw [bif_dneg hw, if_neg hw]
      cases meetV a t <;> cases meetV a b <;> rfl
theorem angle_over_1_e (a : S_Interval) {t b : Int} (ht : 0 ≤ t ∧ t ≤ 65536) (hb : 0 ≤ b ∧ b ≤ 65536) : (angle_over_1_C a t b).o = some (overV a (sinV a.Lo) (sinV a.Hi) t b) := by
  show (angle_over_1_T a t b).run NN = _
  simp only [angle_over_1_T, T.run, interval_Valid_e, Option.bind_some, overV]
  cases h : vV a
  · rfl
  · simp only [Bool.not_true, cond_false, interval_Width_e a h, Option.bind_some, angle_Sin_e, interval_Hull_e, angle_meets_e h ht.1 ht.2, angle_meets_e h hb.1 hb.2, interval_Of_e, if_true]
    by_cases hw : a.Hi - a.Lo ≥ 65536
    · rw [bif_dpos hw, if_pos hw]
    · rw [bif_dneg hw, if_neg hw]
      cases meetV a t <;> cases meetV a b <;> rfl
theorem ref1_over_e (a lo hi : S_Interval) {t b : Int} (ht : 0 ≤ t ∧ t ≤ 65536) (hb : 0 ≤ b ∧ b ≤ 65536) : (ref1_over_C a lo hi t b).o = some (overV a lo hi t b) := by
  show (ref1_over_T a lo hi t b).run NN = _
  simp only [ref1_over_T, T.run, ref1_Valid_e, Option.bind_some, overV]
  cases h : vV a
  · rfl
  · have hv := h
    simp only [vV_iff] at hv
    rw [w64 (by omega) (by omega)]
    simp only [Bool.not_true, cond_false, Option.bind_some, ref1_Hull_e, ref1_meets_e h ht.1 ht.2, ref1_meets_e h hb.1 hb.2, ref1_Of_e, if_true]
    by_cases hw : a.Hi - a.Lo ≥ 65536
    · rw [bif_dpos hw, if_pos hw]
    · rw [bif_dneg hw, if_neg hw]
      cases meetV a t <;> cases meetV a b <;> rfl
def sinO (a : S_Interval) : S_Interval := overV a (sinV a.Lo) (sinV a.Hi) 16384 49152
def cosO (a : S_Interval) : S_Interval := overV a (cosV a.Lo) (cosV a.Hi) 0 32768
theorem angle_SinOver_e (a : S_Interval) : (angle_SinOver_C a).o = some (sinO a) := by
  show (angle_SinOver_T a).run NN = _
  simp only [angle_SinOver_T, T.run, angle_over_1_e a (show (0 : Int) ≤ 16384 ∧ (16384 : Int) ≤ 65536 by decide) (show (0 : Int) ≤ 49152 ∧ (49152 : Int) ≤ 65536 by decide), Option.bind_some, sinO]
theorem angle_CosOver_e (a : S_Interval) : (angle_CosOver_C a).o = some (cosO a) := by
  show (angle_CosOver_T a).run NN = _
  simp only [angle_CosOver_T, T.run, angle_over_e a (show (0 : Int) ≤ 0 ∧ (0 : Int) ≤ 65536 by decide) (show (0 : Int) ≤ 32768 ∧ (32768 : Int) ≤ 65536 by decide), Option.bind_some, cosO]
theorem ref1_SinOver_e (a : S_Interval) : (ref1_SinOver_C a).o = some (sinO a) := by
  show (ref1_SinOver_T a).run NN = _
  simp only [ref1_SinOver_T, T.run, ref1_Sin_e, ref1_over_e a _ _ (show (0 : Int) ≤ 16384 ∧ (16384 : Int) ≤ 65536 by decide) (show (0 : Int) ≤ 49152 ∧ (49152 : Int) ≤ 65536 by decide), Option.bind_some, sinO]
theorem ref1_CosOver_e (a : S_Interval) : (ref1_CosOver_C a).o = some (cosO a) := by
  show (ref1_CosOver_T a).run NN = _
  simp only [ref1_CosOver_T, T.run, ref1_Cos_e, ref1_over_e a _ _ (show (0 : Int) ≤ 0 ∧ (0 : Int) ≤ 65536 by decide) (show (0 : Int) ≤ 32768 ∧ (32768 : Int) ≤ 65536 by decide), Option.bind_some, cosO]
end Go.Abs

/-
  Vectors, matrices, poses, joints: what the program and the reference compute is the same.
-/
namespace Go.Abs

abbrev IV3 := S_Interval × S_Interval × S_Interval
abbrev IM3 := IV3 × IV3 × IV3
def izv : IV3 := (iz, iz, iz)
def pointV (v : Int × Int × Int) : IV3 := (ofV v.1, ofV v.2.1, ofV v.2.2)
def unitV : IM3 := ((ofV 65536, iz, iz), (iz, ofV 65536, iz), (iz, iz, ofV 65536))
def addVV (a b : IV3) : IV3 := (addV a.1 b.1, addV a.2.1 b.2.1, addV a.2.2 b.2.2)
def dotV (r v : IV3) : S_Interval := addV (addV (mulV r.1 v.1) (mulV r.2.1 v.2.1)) (mulV r.2.2 v.2.2)
def applyV (m : IM3) (v : IV3) : IV3 := (dotV m.1 v, dotV m.2.1 v, dotV m.2.2 v)
def lim1 (a : S_Interval) : S_Interval := ⟨max (-65536) (min a.Lo 65536), max (-65536) (min a.Hi 65536)⟩
def rowV (r : IV3) (b : IM3) : IV3 := (lim1 (dotV r (b.1.1, b.2.1.1, b.2.2.1)), lim1 (dotV r (b.1.2.1, b.2.1.2.1, b.2.2.2.1)), lim1 (dotV r (b.1.2.2, b.2.1.2.2, b.2.2.2.2)))
def compM (a b : IM3) : IM3 := (rowV a.1 b, rowV a.2.1 b, rowV a.2.2 b)
def turnV (axis : Int) (a : S_Interval) : IM3 :=
  if vV a then (if axis = 0 then ((ofV 65536, iz, iz), (iz, cosO a, negV (sinO a)), (iz, sinO a, cosO a)) else
    if axis = 1 then ((cosO a, iz, sinO a), (iz, ofV 65536, iz), (negV (sinO a), iz, cosO a)) else
    if axis = 2 then ((cosO a, negV (sinO a), iz), (sinO a, cosO a, iz), (iz, iz, ofV 65536)) else (izv, izv, izv)) else (izv, izv, izv)
def shiftV (v : IV3) : S_Pose := ⟨unitV, v⟩
def restV : S_Pose := ⟨unitV, izv⟩
def compV (a b : S_Pose) : S_Pose := ⟨compM a.R b.R, addVV a.T (applyV a.R b.T)⟩
def moveV (p : S_Pose) (v : IV3) : IV3 := addVV p.T (applyV p.R v)
def slideV (k : Int) (a : S_Interval) : IV3 := if k = 4 then (a, iz, iz) else if k = 5 then (iz, a, iz) else (iz, iz, a)
def jointV (j : S_Joint) (a : S_Interval) : S_Pose :=
  compV (shiftV (pointV j.Offset)) (if j.Kind = 1 ∨ j.Kind = 2 ∨ j.Kind = 3 then ⟨turnV (j.Kind - 1) a, izv⟩ else if j.Kind = 4 ∨ j.Kind = 5 ∨ j.Kind = 6 then shiftV (slideV j.Kind a) else restV)

theorem clV_mono {a b : Int} (h : a ≤ b) : clV a ≤ clV b := by unfold clV; omega
theorem clV_bd (a : Int) : -2147483648 ≤ clV a ∧ clV a ≤ 2147483648 := by unfold clV; omega
theorem limV_v {a b : Int} (h : a ≤ b) : vV (limV a b) = true := by
  rw [vV_iff]; exact ⟨(clV_bd a).1, clV_mono h, (clV_bd b).2⟩
theorem ofV_v (a : Int) : vV (ofV a) = true := by rw [vV_iff]; exact ⟨(clV_bd a).1, Int.le_refl _, (clV_bd a).2⟩
theorem iz_v : vV iz = true := rfl
theorem of0 : ofV 0 = iz := rfl
theorem floor_le_ceil {a b c : Int} (h : a ≤ b) (hc : 0 < c) : a / c ≤ cdiv b c := by
  have h1 := div_lo (a := a) hc
  have h2 := div_lo (a := -b) hc
  unfold cdiv
  by_cases e : a / c ≤ -(-b / c)
  · exact e
  · exfalso
    have h3 : c * (-(-b / c)) < c * (a / c) := Int.mul_lt_mul_of_pos_left (by omega) hc
    rw [Int.mul_neg] at h3
    omega
theorem mulV_v (a b : S_Interval) : vV (mulV a b) = true := by
  unfold mulV
  split
  · rename_i h
    simp only [Bool.and_eq_true] at h
    exact limV_v (floor_le_ceil (mul_bd h.1 h.2).2.2 (by decide))
  · exact iz_v
theorem addV_v (a b : S_Interval) : vV (addV a b) = true := by
  unfold addV
  split
  · rename_i h
    simp only [Bool.and_eq_true, vV_iff] at h
    exact limV_v (by omega)
  · exact iz_v
theorem addV_iz {x : S_Interval} (h : vV x = true) : addV iz x = x := by
  have hv := h
  rw [vV_iff] at hv
  obtain ⟨lo, hi⟩ := x
  simp only at hv
  have e1 : clV (0 + lo) = lo := by unfold clV; omega
  have e2 : clV (0 + hi) = hi := by unfold clV; omega
  simp only [addV, h, iz_v, Bool.and_self, if_true, limV]
  exact congr (congrArg S_Interval.mk e1) e2
theorem add0 (a b : S_Interval) : addV ⟨0, 0⟩ (mulV a b) = mulV a b := addV_iz (mulV_v a b)

theorem matrix_Point_e (v : Int × Int × Int) : (matrix_Point_C v).o = some (pointV v) := by
  show (matrix_Point_T v).run NN = _
  simp only [matrix_Point_T, T.run, T.ix, interval_Of_e, Option.bind_some, pointV]
theorem ref1_Point_e (v : Int × Int × Int) : (ref1_Point_C v).o = some (pointV v) := by
  show (ref1_Point_T v).run NN = _
  simp only [ref1_Point_T, T.run, T.ix, ref1_Of_e, Option.bind_some, pointV]
theorem matrix_Identity_e : matrix_Identity_C.o = some unitV := by
  show matrix_Identity_T.run NN = _
  simp only [matrix_Identity_T, T.run, T.ix, interval_Of_e, Option.bind_some, unitV, iz]
theorem ref1_Unit_e : ref1_Unit_C.o = some unitV := by
  show ref1_Unit_T.run NN = _
  simp only [ref1_Unit_T, T.run, ref1_Of_e, Option.bind_some, unitV, iz]
theorem matrix_Add_e (a b : IV3) : (matrix_Add_C a b).o = some (addVV a b) := by
  show (matrix_Add_T a b).run NN = _
  simp only [matrix_Add_T, T.run, T.ix, interval_Add_e, Option.bind_some, addVV]
theorem ref1_AddVec_e (a b : IV3) : (ref1_AddVec_C a b).o = some (addVV a b) := by
  show (ref1_AddVec_T a b).run NN = _
  simp only [ref1_AddVec_T, T.run, T.ix, ref1_Add_e, Option.bind_some, addVV]
theorem matrix_Apply_e (m : IM3) (v : IV3) : (matrix_Apply_C m v).o = some (applyV m v) := by
  show (matrix_Apply_T m v).run NN = _
  simp only [matrix_Apply_T, T.run, T.ix, interval_Add_e, interval_Mul_e, Option.bind_some, add0, applyV, dotV]
theorem ref1_ApplyMat_e (m : IM3) (v : IV3) : (ref1_ApplyMat_C m v).o = some (applyV m v) := by
  show (ref1_ApplyMat_T m v).run NN = _
  simp only [ref1_ApplyMat_T, T.run, T.ix, ref1_Add_e, ref1_Mul_e, Option.bind_some, applyV, dotV]
theorem matrix_limited_e (x : Int) : (matrix_limited_C x).o = some (max (-65536) (min x 65536)) := by
  show (matrix_limited_T x).run NN = _
  simp only [matrix_limited_T, T.run, Option.some.injEq]; omega
set_option maxRecDepth 20000 in
theorem matrix_Compose_e (a b : IM3) : (matrix_Compose_C a b).o = some (compM a b) := by
  show (matrix_Compose_T a b).run NN = _
  simp only [matrix_Compose_T, T.run, T.ix, interval_Add_e, interval_Mul_e, matrix_limited_e, Option.bind_some, add0, compM, rowV, dotV, lim1]
set_option maxRecDepth 20000 in
theorem ref1_ComposeMat_e (a b : IM3) : (ref1_ComposeMat_C a b).o = some (compM a b) := by
  show (ref1_ComposeMat_T a b).run NN = _
  simp only [ref1_ComposeMat_T, T.run, T.ix, ref1_Add_e, ref1_Mul_e, Option.bind_some, compM, rowV, dotV, lim1]
theorem matrix_Turn_e (k : Int) (a : S_Interval) : (matrix_Turn_C k a).o = some (turnV k a) := by
  show (matrix_Turn_T k a).run NN = _
  simp only [matrix_Turn_T, T.run, interval_Valid_e, angle_CosOver_e, angle_SinOver_e, interval_Neg_e, interval_Of_e, Option.bind_some, turnV, of0]
  cases h : vV a
  · rfl
  · simp only [Bool.not_true, cond_false, if_true]
    by_cases h0 : k = 0
    · rw [bif_eq h0, if_pos h0]
    · rw [bif_ne h0, if_neg h0]
      by_cases h1 : k = 1
      · rw [bif_eq h1, if_pos h1]
      · rw [bif_ne h1, if_neg h1]
        by_cases h2 : k = 2
        · rw [bif_eq h2, if_pos h2]
        · rw [bif_ne h2, if_neg h2]; rfl
theorem ref1_Turn_e (k : Int) (a : S_Interval) : (ref1_Turn_C k a).o = some (turnV k a) := by
  show (ref1_Turn_T k a).run NN = _
  simp only [ref1_Turn_T, T.run, ref1_Valid_e, ref1_CosOver_e, ref1_SinOver_e, ref1_Neg_e, ref1_Of_e, Option.bind_some, turnV]
  cases h : vV a
  · rfl
  · simp only [Bool.not_true, cond_false, if_true]
    by_cases h0 : k = 0
    · rw [bif_eq h0, if_pos h0]; rfl
    · rw [bif_ne h0, if_neg h0]
      by_cases h1 : k = 1
      · rw [bif_eq h1, if_pos h1]; rfl
      · rw [bif_ne h1, if_neg h1]
        by_cases h2 : k = 2
        · rw [bif_eq h2, if_pos h2]; rfl
        · rw [bif_ne h2, if_neg h2]; rfl
theorem pose_still_e : pose_still_C.o = some izv := by
  show pose_still_T.run NN = _
  simp only [pose_still_T, T.run, matrix_Point_e, Option.bind_some, pointV, of0, izv]
theorem pose_Shift_e (v : IV3) : (pose_Shift_C v).o = some (shiftV v) := by
  show (pose_Shift_T v).run NN = _
  simp only [pose_Shift_T, T.run, matrix_Identity_e, Option.bind_some, shiftV]
theorem pose_Identity_e : pose_Identity_C.o = some restV := by
  show pose_Identity_T.run NN = _
  simp only [pose_Identity_T, T.run, pose_still_e, pose_Shift_e, Option.bind_some, shiftV, restV]
theorem pose_Turn_e (k : Int) (a : S_Interval) : (pose_Turn_C k a).o = some ⟨turnV k a, izv⟩ := by
  show (pose_Turn_T k a).run NN = _
  simp only [pose_Turn_T, T.run, matrix_Turn_e, pose_still_e, Option.bind_some]
theorem pose_Compose_e (a b : S_Pose) : (pose_Compose_C a b).o = some (compV a b) := by
  show (pose_Compose_T a b).run NN = _
  have h1 : (pose_mover_C a).o = (pose_mover_T a).run NN := rfl
  simp only [pose_Compose_T, T.run, h1, pose_mover_T, Option.bind_some, matrix_Compose_e]
  refine Eq.trans (congrArg (fun o => Option.bind o _) (show (pose_mover_1_C _ _ _ _ _ _ _ _ _ _ _ _ _ _ _ _ _ _ _ _ _ _ _ _ _).o = (pose_mover_1_T _ _ _ _ _ _ _ _ _ _ _ _ _ _ _ _ _ _ _ _ _ _ _ _ _).run NN from rfl)) ?_
  simp only [pose_mover_1_T, T.run, matrix_Apply_e, matrix_Add_e, Option.bind_some]; rfl
theorem pose_Apply_e (a : S_Pose) (v : IV3) : (pose_Apply_C a v).o = some (moveV a v) := by
  show (pose_Apply_T a v).run NN = _
  have h1 : (pose_mover_C a).o = (pose_mover_T a).run NN := rfl
  simp only [pose_Apply_T, T.run, h1, pose_mover_T, Option.bind_some]
  refine Eq.trans (congrArg (fun o => Option.bind o _) (show (pose_mover_1_C _ _ _ _ _ _ _ _ _ _ _ _ _ _ _ _ _ _ _ _ _ _ _ _ _).o = (pose_mover_1_T _ _ _ _ _ _ _ _ _ _ _ _ _ _ _ _ _ _ _ _ _ _ _ _ _).run NN from rfl)) ?_
  simp only [pose_mover_1_T, T.run, matrix_Apply_e, matrix_Add_e, Option.bind_some]; rfl
theorem ref1_Rest_e : ref1_Rest_C.o = some restV := by
  show ref1_Rest_T.run NN = _
  simp only [ref1_Rest_T, T.run, ref1_Unit_e, Option.bind_some]; rfl
theorem ref1_Shift_e (v : IV3) : (ref1_Shift_C v).o = some (shiftV v) := by
  show (ref1_Shift_T v).run NN = _
  simp only [ref1_Shift_T, T.run, ref1_Unit_e, Option.bind_some, shiftV]
theorem ref1_TurnPose_e (k : Int) (a : S_Interval) : (ref1_TurnPose_C k a).o = some ⟨turnV k a, izv⟩ := by
  show (ref1_TurnPose_T k a).run NN = _
  simp only [ref1_TurnPose_T, T.run, ref1_Turn_e, Option.bind_some]; rfl
theorem ref1_Compose_e (a b : S_Pose) : (ref1_Compose_C a b).o = some (compV a b) := by
  show (ref1_Compose_T a b).run NN = _
  simp only [ref1_Compose_T, T.run, ref1_ComposeMat_e, ref1_ApplyMat_e, ref1_AddVec_e, Option.bind_some, compV]
theorem ref1_Apply_e (a : S_Pose) (v : IV3) : (ref1_Apply_C a v).o = some (moveV a v) := by
  show (ref1_Apply_T a v).run NN = _
  simp only [ref1_Apply_T, T.run, ref1_ApplyMat_e, ref1_AddVec_e, Option.bind_some, moveV]
theorem axis_turn_e (k : Int) (a : S_Interval) : (axis_turn_C k a).o = some ⟨turnV k a, izv⟩ := by
  show (axis_turn_T k a).run NN = _
  simp only [axis_turn_T, T.run, pose_Turn_e, Option.bind_some]
theorem axis_rest_e (k : Int) (a : S_Interval) : (axis_rest_C k a).o = some restV := by
  show (axis_rest_T k a).run NN = _
  simp only [axis_rest_T, T.run, pose_Identity_e, Option.bind_some]
theorem axis_slide_e {k : Int} (a : S_Interval) (h : k = 4 ∨ k = 5 ∨ k = 6) : (axis_slide_C (k - 4) a).o = some (shiftV (slideV k a)) := by
  show (axis_slide_T (k - 4) a).run NN = _
  simp only [axis_slide_T, T.run, T.ix]
  rcases h with rfl | rfl | rfl
  · simp only [show ((4 - 4 : Int) == 0) = true from rfl, cond_true, andC_out, pose_Shift_e]; rfl
  · simp only [show ((5 - 4 : Int) == 0) = false from rfl, show ((5 - 4 : Int) == 1) = true from rfl, cond_true, cond_false, andC_out, pose_Shift_e]; rfl
  · simp only [show ((6 - 4 : Int) == 0) = false from rfl, show ((6 - 4 : Int) == 1) = false from rfl, show ((6 - 4 : Int) == 2) = true from rfl, cond_true, cond_false, andC_out, pose_Shift_e]; rfl
theorem kindB (k a b c : Int) : (bif k == a then some (.out (k == a)) else bif k == b then some (.out (k == b)) else some (.out (k == c)) : Option (Step3 Unit Bool Int)) = some (.out (decide (k = a ∨ k = b ∨ k = c))) := by
  by_cases h1 : k = a
  · rw [bif_eq h1]; simp [h1]
  · rw [bif_ne h1]
    by_cases h2 : k = b
    · rw [bif_eq h2]; simp [h2]
    · rw [bif_ne h2]; simp [h1, h2, Bool.beq_eq_decide_eq]
theorem kindP (k a b c : Int) {R : Type} : (bif k == a then some (.out (k == a)) else bif k == b then some (.out (k == b)) else some (.out (k == c)) : Option (Step3 Unit Bool R)) = some (.out (decide (k = a ∨ k = b ∨ k = c))) := by
  by_cases h1 : k = a
  · rw [bif_eq h1]; simp [h1]
  · rw [bif_ne h1]
    by_cases h2 : k = b
    · rw [bif_eq h2]; simp [h2]
    · rw [bif_ne h2]; simp [h1, h2, Bool.beq_eq_decide_eq]
theorem mo0 (k : Int) : (kinematics_motionOf_v0_C k).o = if k = 1 ∨ k = 2 ∨ k = 3 then some (k - 1) else none := by
  show (kinematics_motionOf_v0_T k).run NN = _
  simp only [kinematics_motionOf_v0_T, T.run, kindP, andC_out]
  by_cases h : k = 1 ∨ k = 2 ∨ k = 3
  · rw [bif_dpos h, if_pos h, w64 (by omega) (by omega)]
  · rw [bif_dneg h, if_neg h]; cases decide (k = 4 ∨ k = 5 ∨ k = 6) <;> rfl
theorem mo1 (k : Int) (h : ¬ (k = 1 ∨ k = 2 ∨ k = 3)) : (kinematics_motionOf_v1_C k).o = if k = 4 ∨ k = 5 ∨ k = 6 then some (k - 4) else none := by
  show (kinematics_motionOf_v1_T k).run NN = _
  simp only [kinematics_motionOf_v1_T, T.run, kindP, andC_out]
  rw [bif_dneg h]
  by_cases h : k = 4 ∨ k = 5 ∨ k = 6
  · rw [bif_dpos h, if_pos h, w64 (by omega) (by omega)]
  · rw [bif_dneg h, if_neg h]
theorem mo2 (k : Int) (h : ¬ (k = 1 ∨ k = 2 ∨ k = 3)) (h' : ¬ (k = 4 ∨ k = 5 ∨ k = 6)) : (kinematics_motionOf_v2_C k).o = some 0 := by
  show (kinematics_motionOf_v2_T k).run NN = _
  simp only [kinematics_motionOf_v2_T, T.run, kindP, andC_out]
  rw [bif_dneg h, bif_dneg h']
theorem kinematics_Joint_e (j : S_Joint) (a : S_Interval) : (kinematics_Joint_C j a).o = some (jointV j a) := by
  show (kinematics_Joint_T j a).run NN = _
  simp only [kinematics_Joint_T, T.run, matrix_Point_e, pose_Shift_e, Option.bind_some, mo0, jointV]
  by_cases h : j.Kind = 1 ∨ j.Kind = 2 ∨ j.Kind = 3
  · simp only [if_pos h, Option.isSome_some, cond_true, Option.bind_some, axis_turn_e, pose_Compose_e]
  · simp only [if_neg h, Option.isSome_none, cond_false, mo1 _ h]
    by_cases h' : j.Kind = 4 ∨ j.Kind = 5 ∨ j.Kind = 6
    · simp only [if_pos h', Option.isSome_some, cond_true, Option.bind_some, axis_slide_e a h', pose_Compose_e]
    · simp only [if_neg h', Option.isSome_none, cond_false, mo2 _ h h', Option.bind_some, axis_rest_e, pose_Compose_e]
theorem slideC (k : Int) (a : S_Interval) {R : Type} (h : k = 4 ∨ k = 5 ∨ k = 6) : (bif IntKind.i64.wrap (k - 4) == 0 then some (.out (a.Lo, a.Hi, 0, 0, 0, 0)) else bif IntKind.i64.wrap (k - 4) == 1 then some (.out (0, 0, a.Lo, a.Hi, 0, 0)) else
    bif IntKind.i64.wrap (k - 4) == 2 then some (.out (0, 0, 0, 0, a.Lo, a.Hi)) else none : Option (Step3 Unit (Int × Int × Int × Int × Int × Int) R)) = some (.out ((slideV k a).1.Lo, (slideV k a).1.Hi, (slideV k a).2.1.Lo, (slideV k a).2.1.Hi, (slideV k a).2.2.Lo, (slideV k a).2.2.Hi)) := by
  rw [w64 (by omega) (by omega)]
  rcases h with rfl | rfl | rfl <;> rfl
theorem ref10_Joint_e (j : S_Joint) (a : S_Interval) : (ref10_Joint_C j a).o = some (jointV j a) := by
  show (ref10_Joint_T j a).run NN = _
  simp only [ref10_Joint_T, T.run, T.ix, ref1_Rest_e, Option.bind_some, kindP, andC_out, jointV]
  by_cases h : j.Kind = 1 ∨ j.Kind = 2 ∨ j.Kind = 3
  · simp only [bif_dpos h, if_pos h, ref1_TurnPose_e, Option.bind_some, andC_out, ref1_Point_e, ref1_Shift_e, ref1_Compose_e]
    rw [w64 (by omega) (by omega)]
  · simp only [bif_dneg h, if_neg h]
    by_cases h' : j.Kind = 4 ∨ j.Kind = 5 ∨ j.Kind = 6
    · simp only [bif_dpos h', if_pos h', slideC _ _ h', andC_out, ref1_Point_e, ref1_Shift_e, ref1_Compose_e, Option.bind_some]
    · simp only [bif_dneg h', if_neg h', andC_out, ref1_Point_e, ref1_Shift_e, ref1_Compose_e, Option.bind_some]
end Go.Abs
