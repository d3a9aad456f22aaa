/-
  DL1 (a part of a claim: our own text).
-/
import Derived.Test.YtnehaejghnoigaaGreatXCPLib
import Derived.Test.YtnehaejghnoigaaGreatXCD3
import Derived.Lib.DecodeN
namespace Go.Abs
theorem dzm {α : Type} {a b : Int} {x y : α} (h : a = b) : (bif (a == b) then x else y) = x := Fzu (by simpa using h)
theorem dzn {α : Type} {a b : Int} {x y : α} (h : a ≠ b) : (bif (a == b) then x else y) = y := wz7 (by simpa using h)
theorem dzv {α : Type} {a b : Int} {x y : α} (h : a ≠ b) : (bif (a != b) then x else y) = x := Fzu (by simpa using h)
theorem cze {α : Type} {a b : Int} {x y : α} (h : a = b) : (bif (a != b) then x else y) = y := wz7 (by simpa using h)
theorem wr (n : Int) : IntKind.i64.wrap n = (n + 9223372036854775808) % 18446744073709551616 - 9223372036854775808 := by
  show (if (true && decide (n % 18446744073709551616 ≥ 9223372036854775808)) = true then n % 18446744073709551616 - 18446744073709551616 else n % 18446744073709551616) = _
  by_cases h : n % 18446744073709551616 ≥ 9223372036854775808
  · rw [if_pos (by rw [decide_eq_true h]; rfl)]; omega
  · rw [if_neg (by rw [decide_eq_false h]; decide)]; omega
theorem Wzb (n : Int) : -9223372036854775808 ≤ IntKind.i64.wrap n := by rw [wr]; omega
theorem Wza (n : Int) : IntKind.i64.wrap n ≤ 9223372036854775807 := by rw [wr]; omega
theorem Uzv (n : Int) : IntKind.i64.wrap (IntKind.i64.wrap n) = IntKind.i64.wrap n := w64 (Wzb n) (Wza n)
theorem Hzs (a b : Int) : IntKind.i64.wrap (IntKind.i64.wrap a + b) = IntKind.i64.wrap (a + b) := by simp only [wr]; omega
theorem Uzt (a b : Int) : IntKind.i64.wrap (a + IntKind.i64.wrap b) = IntKind.i64.wrap (a + b) := by simp only [wr]; omega
theorem Hzt (a b : Int) : IntKind.i64.wrap (IntKind.i64.wrap a - b) = IntKind.i64.wrap (a - b) := by simp only [wr]; omega
theorem Qzg (a b : Int) : IntKind.i64.wrap (a - IntKind.i64.wrap b) = IntKind.i64.wrap (a - b) := by simp only [wr]; omega
def InR (x : Int) : Prop := -9223372036854775808 ≤ x ∧ x ≤ 9223372036854775807
theorem InR.wr (n : Int) : InR (IntKind.i64.wrap n) := ⟨Wzb n, Wza n⟩
theorem InR.w {x : Int} (h : InR x) : IntKind.i64.wrap x = x := w64 h.1 h.2
def cdiv (a b : Int) : Int := -((-a) / b)
theorem fzn {a b : Int} (ha : 0 ≤ a) : a.tdiv b = a / b := Int.tdiv_eq_ediv_of_nonneg ha
theorem Hzr {a b : Int} (ha : 0 ≤ a) : a.tmod b = a % b := Int.tmod_eq_emod_of_nonneg ha
theorem Dzw (a b : Int) : (-a).tdiv b = -(a.tdiv b) := Int.neg_tdiv a b
theorem Qzf (a b : Int) : (-a).tmod b = -(a.tmod b) := Int.neg_tmod a b
theorem pz4 {a b q r : Int} (h0 : 0 ≤ r) (h1 : r < b) (h : a = b * q + r) : a / b = q := by
  subst h
  rw [Int.mul_add_ediv_left _ _ (by omega : b ≠ 0), Int.ediv_eq_zero_of_lt h0 h1]; omega
theorem Kzw {a b : Int} (hb : 0 < b) : (if a.tmod b < 0 then a.tdiv b - 1 else a.tdiv b) = a / b := by
  have h1 := Int.mul_tdiv_add_tmod a b
  have h2 := Int.tmod_lt_of_pos a hb
  have h3 := Int.lt_tmod_of_pos a hb
  split
  · symm; exact pz4 (r := a.tmod b + b) (by omega) (by omega) (by rw [Int.mul_sub]; omega)
  · symm; exact pz4 (r := a.tmod b) (by omega) (by omega) (by omega)
theorem Szf {a b : Int} (hb : 0 < b) : (if a.tmod b > 0 then a.tdiv b + 1 else a.tdiv b) = cdiv a b := by
  have := Kzw (a := -a) hb
  rw [Qzf, Dzw] at this
  unfold cdiv
  rw [← this]
  split
  · rw [if_pos (by omega)]; omega
  · rw [if_neg (by omega)]; omega
theorem Czc {a b : Int} (hb : 0 < b) : b * (a / b) ≤ a := Int.mul_ediv_self_le (by omega)
theorem Izc {a b : Int} (hb : 0 < b) : a < b * (a / b) + b := Int.lt_mul_ediv_self_add hb
theorem Azg {a b : Int} (hb : 0 < b) : (0 ≤ a → 0 ≤ a / b ∧ a / b ≤ a) ∧ (a < 0 → a ≤ a / b ∧ a / b < 0) := by
  refine ⟨fun h => ⟨Int.ediv_nonneg h (by omega), Int.ediv_le_self _ h⟩, fun h => ⟨?_, Int.ediv_neg_of_neg_of_pos h hb⟩⟩
  have h1 := Izc (a := a) hb
  have h2 : a / b < 0 := Int.ediv_neg_of_neg_of_pos h hb
  by_cases hc : a ≤ a / b
  · exact hc
  · exfalso
    have h3 : a / b + 1 ≤ a := by omega
    have h4 : b * (a / b) + b = b * (a / b + 1) := by rw [Int.mul_add]; omega
    have h5 : b * (a / b + 1) ≤ 1 * (a / b + 1) := Int.mul_le_mul_of_nonpos_right (by omega) (by omega)
    omega
theorem InR.div {a b : Int} (h : InR a) (hb : 0 < b) : InR (a / b) := by
  have := Azg (a := a) hb
  obtain ⟨h1, h2⟩ := h
  by_cases h0 : 0 ≤ a
  · have := this.1 h0; exact ⟨by omega, by omega⟩
  · have := this.2 (by omega); exact ⟨by omega, by omega⟩
theorem Gz0 {a b : Int} (hb : 0 < b) : (0 < a → 0 < cdiv a b ∧ cdiv a b ≤ a) ∧ (a ≤ 0 → a ≤ cdiv a b ∧ cdiv a b ≤ 0) := by
  have := Azg (a := -a) hb
  unfold cdiv
  exact ⟨fun h => by have := this.2 (by omega); omega, fun h => by have := this.1 (by omega); omega⟩
theorem InR.cdiv {a b : Int} (h : InR a) (hb : 0 < b) : InR (Go.Abs.cdiv a b) := by
  have := Gz0 (a := a) hb
  obtain ⟨h1, h2⟩ := h
  by_cases h0 : 0 < a
  · have := this.1 h0; exact ⟨by omega, by omega⟩
  · have := this.2 (by omega); exact ⟨by omega, by omega⟩
theorem Uzr {a b : Int} (hb : 0 < b) : (0 ≤ a → 0 ≤ a.tdiv b ∧ a.tdiv b ≤ a) ∧ (a ≤ 0 → a ≤ a.tdiv b ∧ a.tdiv b ≤ 0) := by
  refine ⟨fun h => ?_, fun h => ?_⟩
  · rw [fzn h]; exact (Azg hb).1 h
  · have h1 := (Azg (a := -a) hb).1 (by omega)
    rw [← fzn (by omega), Dzw] at h1
    omega
theorem InR.tdiv {a b : Int} (h : InR a) (hb : 0 < b) : InR (a.tdiv b) := by
  have := Uzr (a := a) hb
  obtain ⟨h1, h2⟩ := h
  by_cases h0 : 0 ≤ a
  · have := this.1 h0; exact ⟨by omega, by omega⟩
  · have := this.2 (by omega); exact ⟨by omega, by omega⟩
theorem Vza {a b : Int} (ha : InR a) (hb : 0 < b) : (bif decide (a.tmod b < 0) then IntKind.i64.wrap (IntKind.i64.wrap (a.tdiv b) - 1) else IntKind.i64.wrap (a.tdiv b)) = a / b := by
  rw [(ha.tdiv hb).w, ← Kzw hb, cond_eq_ite]
  simp only [decide_eq_true_eq]
  split
  · rename_i h
    have := ha.div hb
    rw [← Kzw hb, if_pos h] at this
    exact this.w
  · rfl
theorem Wze {a b : Int} (ha : InR a) (hb : 0 < b) : (bif decide (a.tmod b > 0) then IntKind.i64.wrap (IntKind.i64.wrap (a.tdiv b) + 1) else IntKind.i64.wrap (a.tdiv b)) = cdiv a b := by
  rw [(ha.tdiv hb).w, ← Szf hb, cond_eq_ite]
  simp only [decide_eq_true_eq]
  split
  · rename_i h
    have := ha.cdiv hb
    rw [← Szf hb, if_pos h] at this
    exact this.w
  · rfl
theorem xz2 {a b q : Int} (hb : 0 < b) : cdiv a b = q ↔ a ≤ b * q ∧ b * q < a + b := by
  unfold cdiv
  have h1 := Czc (a := -a) hb
  have h2 := Izc (a := -a) hb
  constructor
  · intro h
    have : b * q = -(b * (-a / b)) := by rw [← h, Int.mul_neg]
    omega
  · intro h
    have : -a / b = -q := pz4 (r := b * q - a) (by omega) (by omega) (by rw [Int.mul_neg]; omega)
    omega
def scan {R : Type} (g : Nat → Option R) : Nat → Nat → Option R
  | 0, _ => none
  | n + 1, i => match g i with
    | some r => some r
    | none => scan g n (i + 1)
theorem mz8 {R : Type} {g : Nat → Option R} : ∀ (n i : Nat), scan g n i = none ↔ ∀ j, i ≤ j → j < i + n → g j = none
  | 0, i => by simp only [scan, true_iff]; intro j h1 h2; omega
  | n + 1, i => by
    simp only [scan]
    constructor
    · intro h
      split at h
      · cases h
      · rename_i h0
        intro j h1 h2
        by_cases e : j = i
        · subst e; exact h0
        · exact (mz8 n (i + 1)).1 h j (by omega) (by omega)
    · intro h
      rw [h i (by omega) (by omega)]
      exact (mz8 n (i + 1)).2 fun j h1 h2 => h j (by omega) (by omega)
theorem gz6 {R : Type} {g : Nat → Option R} {r : R} : ∀ (n i : Nat), scan g n i = some r → ∃ j, i ≤ j ∧ j < i + n ∧ g j = some r ∧ ∀ k, i ≤ k → k < j → g k = none
  | 0, i, h => by cases h
  | n + 1, i, h => by
    simp only [scan] at h
    split at h
    · rename_i h0; cases h; exact ⟨i, by omega, by omega, h0, fun k h1 h2 => by omega⟩
    · rename_i h0
      obtain ⟨j, h1, h2, h3, h4⟩ := gz6 n (i + 1) h
      refine ⟨j, by omega, by omega, h3, fun k h5 h6 => ?_⟩
      by_cases e : k = i
      · subst e; exact h0
      · exact h4 k (by omega) h6
theorem Izv {σ τ R : Type} {f : σ → Option (Step3 σ τ R)} (st : Nat → σ) (g : Nat → Option R) (y : τ) :
    ∀ (n i N : Nat), n < N → (∀ j, i ≤ j → j < i + n → f (st j) = match g j with | some r => some (.fin r) | none => some (.next (st (j + 1)))) → f (st (i + n)) = some (.out y) →
      iter f N (st i) = some (match scan g n i with | some r => .inr r | none => .inl y)
  | 0, i, 0, h, _, _ => by omega
  | 0, i, N + 1, _, _, h => by simp only [Nat.add_zero] at h; simp [iter, h, scan]
  | n + 1, i, 0, h, _, _ => by omega
  | n + 1, i, N + 1, h0, hs, he => by
    have h1 := hs i (by omega) (by omega)
    simp only [scan]
    cases hg : g i with
    | some r => rw [hg] at h1; simp [iter, h1]
    | none =>
      rw [hg] at h1
      simp only [iter, h1]
      exact Izv st g y n (i + 1) N (by omega) (fun j a b => hs j (by omega) (by omega)) (by rw [← he]; congr 2; omega)
theorem lzs {σ τ R : Type} {f : σ → Option (Step3 σ τ R)} {k : τ → Option R} {x : σ} (st : Nat → σ) (g : Nat → Option R) (y : τ) (n : Nat) (hx : x = st 0) (hn : n < NN)
    (hs : ∀ j, j < n → f (st j) = match g j with | some r => some (.fin r) | none => some (.next (st (j + 1)))) (he : f (st n) = some (.out y)) :
    andK (iter f NN x) k = match scan g n 0 with | some r => some r | none => k y := by
  rw [hx, Izv st g y n 0 NN hn (fun j _ h => hs j (by omega)) (by rw [Nat.zero_add]; exact he)]
  cases scan g n 0 <;> rfl
theorem bzn {σ τ R : Type} {f : σ → Option (Step3 σ τ R)} {k : τ → Option R} {x : σ} (st : Nat → σ) (y : τ) (n : Nat) (hx : x = st 0) (hn : n < NN)
    (hs : ∀ j, j < n → f (st j) = some (.next (st (j + 1)))) (he : f (st n) = some (.out y)) : andK (iter f NN x) k = k y := by
  rw [hx, Fzs (Rz8 st rfl n hn hs he)]
theorem az8 {R : Type} {p : Prop} [Decidable p] {k : Option R} (h : p) : grd p k = k := by unfold grd; simp [h]
theorem czf {α : Type} {b : Bool} {x y : α} : (bif b then some x else some y) = some (bif b then x else y) := by cases b <;> rfl
theorem azw {σ τ R : Type} {b : Bool} {x y : τ} : (bif b then some (Step3.out x) else some (Step3.out y) : Option (Step3 σ τ R)) = some (.out (bif b then x else y)) := by cases b <;> rfl
theorem czr {b c : Bool} : (bif b then true else c) = (b || c) := by cases b <;> rfl
theorem kzp {b c : Bool} : (bif b then c else false) = (b && c) := by cases b <;> rfl
theorem cz6 {a b : Int} (ha : InR a) (hb : 0 < b) : (azu a b).o = some (a / b) := by
  show (tzs a b).run NN = _
  have h0 : b ≠ 0 := by omega
  simp only [tzs, T.run, az8 h0, azw, az7]
  exact congrArg some (Vza ha hb)
theorem bz8 {a b : Int} (ha : InR a) (hb : 0 < b) : (azo a b).o = some (cdiv a b) := by
  show (wzj a b).run NN = _
  have h0 : b ≠ 0 := by omega
  simp only [wzj, T.run, az8 h0, azw, az7]
  exact congrArg some (Wze ha hb)
theorem bzw (k : Nat) : (0 : Int) < 2 ^ k := Int.pow_pos (by omega)
theorem xz6 (a : Int) (k : Nat) : a.fdiv (2 ^ k) = a / 2 ^ k := Int.fdiv_eq_ediv_of_nonneg _ (Int.le_of_lt (bzw k))
theorem fze (a : Int) (k : Nat) (hk : k ≤ 64) : (azs a (k : Int)).o = some (a / 2 ^ k) := by
  show (izc a (k : Int)).run NN = _
  simp only [izc, T.run]
  rw [az5 (by omega), az8 (by omega), Int.toNat_natCast, Nat.min_eq_left hk, xz6]
theorem up_w {a b : Int} (ha : InR a) (hb : 0 < b) (hlo : InR (b * (a / b))) : (bif (IntKind.i64.wrap (a / b * b) != a) then IntKind.i64.wrap (a / b + 1) else a / b) = cdiv a b := by
  rw [Int.mul_comm, hlo.w]
  have h1 := Czc (a := a) hb
  have h2 := Izc (a := a) hb
  symm
  rw [xz2 hb]
  by_cases e : b * (a / b) = a
  · rw [cze e]; omega
  · rw [dzv e]
    have : IntKind.i64.wrap (a / b + 1) = a / b + 1 := by
      have h3 := ha.cdiv hb
      have : cdiv a b = a / b + 1 := by rw [xz2 hb, Int.mul_add]; omega
      rw [this] at h3; exact h3.w
    rw [this, Int.mul_add]; omega
theorem Vzx {a : Int} {k : Nat} (hk : k ≤ 63) (ha : InR a) : InR (2 ^ k * (a / 2 ^ k)) := by
  have hp := bzw k
  have h1 := Czc (a := a) hp
  obtain ⟨h3, h4⟩ := ha
  have h5 : -(2 ^ (63 - k)) ≤ a / 2 ^ k := by
    rw [Int.le_ediv_iff_mul_le hp, Int.neg_mul, ← Int.pow_add, Nat.sub_add_cancel hk]
    have : (2 : Int) ^ 63 = 9223372036854775808 := by decide
    omega
  have h6 : 2 ^ k * -(2 : Int) ^ (63 - k) ≤ 2 ^ k * (a / 2 ^ k) := Int.mul_le_mul_of_nonneg_left h5 (by omega)
  rw [Int.mul_neg, ← Int.pow_add, Nat.add_sub_cancel' hk] at h6
  have : (2 : Int) ^ 63 = 9223372036854775808 := by decide
  exact ⟨by omega, by omega⟩
theorem gzr {a : Int} (k : Nat) (hk : k ≤ 63) (ha : InR a) : (azv a (k : Int)).o = some (cdiv a (2 ^ k)) := by
  show (lzn a (k : Int)).run NN = _
  simp only [lzn, T.run]
  rw [az5 (by omega), az8 (by omega), az8 (by omega), Int.toNat_natCast, Nat.min_eq_left (by omega), xz6, azw, az7, up_w ha (bzw k) (Vzx hk ha)]
theorem sd16 (a : Int) : (azs a 16).o = some (a / 65536) := fze a 16 (by decide)
theorem sd30 (a : Int) : (azs a 30).o = some (a / 1073741824) := fze a 30 (by decide)
theorem sd14 (a : Int) : (azs a 14).o = some (a / 16384) := fze a 14 (by decide)
theorem su16 {a : Int} (h : InR a) : (azv a 16).o = some (cdiv a 65536) := gzr 16 (by decide) h
theorem su30 {a : Int} (h : InR a) : (azv a 30).o = some (cdiv a 1073741824) := gzr 30 (by decide) h
theorem su14 {a : Int} (h : InR a) : (azv a 14).o = some (cdiv a 16384) := gzr 14 (by decide) h
def clV (x : Int) : Int := max (-2147483648) (min x 2147483648)
def vV (a : az0) : Bool := decide (-2147483648 ≤ a.Lo) && (decide (a.Lo ≤ a.Hi) && decide (a.Hi ≤ 2147483648))
theorem vV_iff {a : az0} : vV a = true ↔ -2147483648 ≤ a.Lo ∧ a.Lo ≤ a.Hi ∧ a.Hi ≤ 2147483648 := by simp [vV]
def iz : az0 := ⟨0, 0⟩
def limV (lo hi : Int) : az0 := ⟨clV lo, clV hi⟩
def addV (a b : az0) : az0 := if vV a && vV b then limV (a.Lo + b.Lo) (a.Hi + b.Hi) else iz
def negV (a : az0) : az0 := if vV a then ⟨-a.Hi, -a.Lo⟩ else iz
def Jz8 (a b : az0) : Int := min (min (min (a.Lo * b.Lo) (a.Lo * b.Hi)) (a.Hi * b.Lo)) (a.Hi * b.Hi)
def Jz7 (a b : az0) : Int := max (max (max (a.Lo * b.Lo) (a.Lo * b.Hi)) (a.Hi * b.Lo)) (a.Hi * b.Hi)
def mulV (a b : az0) : az0 := if vV a && vV b then limV (Jz8 a b / 65536) (cdiv (Jz7 a b) 65536) else iz
def Nzb (a b : az0) : az0 := if vV a && vV b then ⟨min a.Lo b.Lo, max a.Hi b.Hi⟩ else iz
def ofV (x : Int) : az0 := ⟨clV x, clV x⟩
def midV (a : az0) : Int := if vV a then (a.Lo + a.Hi) / 2 else 0
theorem Gzk (a : Int) : (qz5 a).o = some (clV a) := by
  show (qz6 a).run NN = _
  simp only [qz6, T.run, clV, Option.some.injEq]; omega
theorem Azv (a : Int) : (jzq a).o = some (clV a) := by
  show (tzr a).run NN = _
  simp only [tzr, T.run, clV]
theorem bzs (a : az0) : (bzg a).o = some (vV a) := by
  show (kz2 a).run NN = _
  simp only [kz2, T.run, vV, czf, kzp]
theorem eze (a : az0) : (czj a).o = some (vV a) := by
  show (tzz a).run NN = _
  simp only [tzz, T.run, vV, czf, kzp]
theorem kz6 (a b : az0) : (gz8 a b).o = some (vV a && vV b) := by
  show (kz5 a b).run NN = _
  simp only [kz5, T.run, bzs, Option.bind_some, czf, kzp]
theorem gzv (a b : Int) : (ezy a b).o = some (limV a b) := by
  show (gzu a b).run NN = _
  simp only [gzu, T.run, Gzk, Option.bind_some, limV]
theorem vzu (a b : Int) : (ozi a b).o = some (limV a b) := by
  show (ozj a b).run NN = _
  simp only [ozj, T.run, Azv, Option.bind_some, limV]
theorem gzt (a : Int) : (bzt a).o = some (ofV a) := by
  show (qz9 a).run NN = _
  simp only [qz9, T.run, gzv, Option.bind_some, limV, ofV]
theorem yz6 (a : Int) : (jzr a).o = some (ofV a) := by
  show (Dzb a).run NN = _
  simp only [Dzb, T.run, Azv, Option.bind_some, ofV]
theorem wsum {a b : Int} (ha : -2147483648 ≤ a ∧ a ≤ 2147483648) (hb : -2147483648 ≤ b ∧ b ≤ 2147483648) : IntKind.i64.wrap (a + b) = a + b := w64 (by omega) (by omega)
theorem wmul {a b : Int} (ha : -2147483648 ≤ a ∧ a ≤ 2147483648) (hb : -2147483648 ≤ b ∧ b ≤ 2147483648) : IntKind.i64.wrap (a * b) = a * b ∧ -4611686018427387904 ≤ a * b ∧ a * b ≤ 4611686018427387904 := by
  have h : -4611686018427387904 ≤ a * b ∧ a * b ≤ 4611686018427387904 := by
    have h1 : (a * b).natAbs ≤ 2147483648 * 2147483648 := by rw [Int.natAbs_mul]; exact Nat.mul_le_mul (by omega) (by omega)
    omega
  exact ⟨w64 (by omega) (by omega), h⟩
theorem nzs (a b : az0) : (azc a b).o = some (addV a b) := by
  show (nzr a b).run NN = _
  simp only [nzr, T.run, kz6, gzv, Option.bind_some, czf, addV]
  cases h : vV a && vV b
  · rfl
  · simp only [Bool.and_eq_true, vV_iff] at h
    rw [wsum ⟨by omega, by omega⟩ ⟨by omega, by omega⟩, wsum ⟨by omega, by omega⟩ ⟨by omega, by omega⟩]; rfl
theorem zzu (a b : az0) : (azy a b).o = some (addV a b) := by
  show (zzt a b).run NN = _
  simp only [zzt, T.run, eze, vzu, Option.bind_some, czf, azw, az7, addV]
  cases h1 : vV a
  · rfl
  · cases h2 : vV b
    · rfl
    · simp only [vV_iff] at h1 h2
      rw [wsum ⟨by omega, by omega⟩ ⟨by omega, by omega⟩, wsum ⟨by omega, by omega⟩ ⟨by omega, by omega⟩]; rfl
theorem vzd (a : az0) : (jz6 a).o = some (negV a) := by
  show (nzw a).run NN = _
  simp only [nzw, T.run, bzs, Option.bind_some, czf, negV]
  cases h : vV a
  · rfl
  · simp only [vV_iff] at h
    rw [w64 (x := 0 - a.Hi) (by omega) (by omega), w64 (x := 0 - a.Lo) (by omega) (by omega)]
    simp
theorem Fzg (a : az0) : (uzr a).o = some (negV a) := by
  show (Az2 a).run NN = _
  simp only [Az2, T.run, eze, Option.bind_some, czf, negV]
  cases h : vV a
  · rfl
  · simp only [vV_iff] at h
    rw [w64 (x := 0 - a.Hi) (by omega) (by omega), w64 (x := 0 - a.Lo) (by omega) (by omega)]
    simp
theorem tz0 (a b : az0) : (dzi a b).o = some (Nzb a b) := by
  show (lzq a b).run NN = _
  simp only [lzq, T.run, kz6, Option.bind_some, czf, Nzb]
  cases h : vV a && vV b <;> rfl
theorem Lzc (a b : az0) : (rz1 a b).o = some (Nzb a b) := by
  show (wzk a b).run NN = _
  simp only [wzk, T.run, eze, Option.bind_some, czf, azw, az7, Nzb]
  cases h1 : vV a <;> cases h2 : vV b <;> rfl
theorem rzs (a : az0) (h : vV a = true) : (kz3 a).o = some (a.Hi - a.Lo) := by
  show (kz4 a).run NN = _
  simp only [kz4, T.run, bzs, Option.bind_some, czf, h]
  simp only [vV_iff] at h
  rw [w64 (by omega) (by omega)]; rfl
theorem Eza (a : az0) (x : Int) : (vza a x).o = some (vV a && (decide (a.Lo ≤ x) && decide (x ≤ a.Hi))) := by
  show (nzt a x).run NN = _
  simp only [nzt, T.run, bzs, Option.bind_some, czf, kzp]
theorem zzh {a b : Int} (hb : InR b) : (pz8 a b).o = some (limV (a / 65536) (cdiv b 65536)) := by
  show (izd a b).run NN = _
  simp only [izd, T.run, sd16, su16 hb, gzv, Option.bind_some]
theorem Pzf {a b : az0} (ha : vV a = true) (hb : vV b = true) : InR (Jz8 a b) ∧ InR (Jz7 a b) ∧ Jz8 a b ≤ Jz7 a b := by
  simp only [vV_iff] at ha hb
  obtain ⟨-, p1, p2⟩ := wmul (a := a.Lo) (b := b.Lo) ⟨by omega, by omega⟩ ⟨by omega, by omega⟩
  obtain ⟨-, q1, q2⟩ := wmul (a := a.Lo) (b := b.Hi) ⟨by omega, by omega⟩ ⟨by omega, by omega⟩
  obtain ⟨-, r1, r2⟩ := wmul (a := a.Hi) (b := b.Lo) ⟨by omega, by omega⟩ ⟨by omega, by omega⟩
  obtain ⟨-, s1, s2⟩ := wmul (a := a.Hi) (b := b.Hi) ⟨by omega, by omega⟩ ⟨by omega, by omega⟩
  unfold Jz8 Jz7 InR
  generalize a.Lo * b.Lo = p at *
  generalize a.Lo * b.Hi = q at *
  generalize a.Hi * b.Lo = r at *
  generalize a.Hi * b.Hi = s at *
  omega
theorem Fzf (a b : az0) : (azp a b).o = some (mulV a b) := by
  show (Az1 a b).run NN = _
  simp only [Az1, T.run, eze, vzu, Option.bind_some, czf, azw, az7, mulV]
  cases h1 : vV a
  · rfl
  · cases h2 : vV b
    · rfl
    · have hm := Pzf h1 h2
      simp only [vV_iff] at h1 h2
      rw [(wmul (a := a.Lo) (b := b.Lo) ⟨by omega, by omega⟩ ⟨by omega, by omega⟩).1, (wmul (a := a.Lo) (b := b.Hi) ⟨by omega, by omega⟩ ⟨by omega, by omega⟩).1,
        (wmul (a := a.Hi) (b := b.Lo) ⟨by omega, by omega⟩ ⟨by omega, by omega⟩).1, (wmul (a := a.Hi) (b := b.Hi) ⟨by omega, by omega⟩ ⟨by omega, by omega⟩).1]
      show (azu (Jz8 a b) 65536).o.bind _ = _
      rw [cz6 hm.1 (by decide), Option.bind_some]
      show (azo (Jz7 a b) 65536).o.bind _ = _
      rw [bz8 hm.2.1 (by decide)]; rfl
theorem vzc (a b : az0) : (aze a b).o = some (mulV a b) := by
  show (nzv a b).run NN = _
  simp only [nzv, T.run, kz6, Option.bind_some, mulV]
  cases h : vV a && vV b
  · rfl
  · simp only [Bool.and_eq_true] at h
    have hm := Pzf h.1 h.2
    simp only [vV_iff] at h
    rw [(wmul (a := a.Lo) (b := b.Lo) ⟨by omega, by omega⟩ ⟨by omega, by omega⟩).1, (wmul (a := a.Lo) (b := b.Hi) ⟨by omega, by omega⟩ ⟨by omega, by omega⟩).1,
        (wmul (a := a.Hi) (b := b.Lo) ⟨by omega, by omega⟩ ⟨by omega, by omega⟩).1, (wmul (a := a.Hi) (b := b.Hi) ⟨by omega, by omega⟩ ⟨by omega, by omega⟩).1]
    simp only [Bool.not_true, cond_false]
    refine Eq.trans (bzn (fun i => match i with
      | 0 => (a.Lo * b.Lo, a.Lo * b.Lo, 0)
      | 1 => (a.Lo * b.Lo, a.Lo * b.Lo, 1)
      | 2 => (min (a.Lo * b.Lo) (a.Lo * b.Hi), max (a.Lo * b.Lo) (a.Lo * b.Hi), 2)
      | 3 => (min (min (a.Lo * b.Lo) (a.Lo * b.Hi)) (a.Hi * b.Lo), max (max (a.Lo * b.Lo) (a.Lo * b.Hi)) (a.Hi * b.Lo), 3)
      | _ => (Jz8 a b, Jz7 a b, 4)) (Jz8 a b, Jz7 a b) 4 rfl (by decide) ?_ ?_) ?_
    · intro j hj
      match j, hj with
      | 0, _ => simp [az8, IntKind.wrap, IntKind.bits, IntKind.signed]
      | 1, _ => simp [az8, IntKind.wrap, IntKind.bits, IntKind.signed]
      | 2, _ => simp [az8, IntKind.wrap, IntKind.bits, IntKind.signed]
      | 3, _ => simp [az8, IntKind.wrap, IntKind.bits, IntKind.signed, Jz8, Jz7]
    · rfl
    · rw [zzh hm.2.1]; rfl
def pd1 (x : Int) : Int := IntKind.i64.wrap (x * 6746518852) / 65536
def pu1 (x : Int) : Int := cdiv (IntKind.i64.wrap (x * 6746518853)) 65536
def pd (x : Int) : Nat → Int
  | 0 => pd1 x
  | k + 1 => IntKind.i64.wrap (pd x k * pd1 x) / 1073741824
def pu (x : Int) : Nat → Int
  | 0 => pu1 x
  | k + 1 => cdiv (IntKind.i64.wrap (pu x k * pu1 x)) 1073741824
theorem rzm (x : Int) : (jzw x).o = some ((1073741824, pd x 0, pd x 1, pd x 2, pd x 3, pd x 4, pd x 5, pd x 6, pd x 7, pd x 8, pd x 9), (1073741824, pu x 0, pu x 1, pu x 2, pu x 3, pu x 4, pu x 5, pu x 6, pu x 7, pu x 8, pu x 9)) := by
  show (jzx x).run NN = _
  simp only [jzx, T.run, sd16, su16 (InR.wr _), sd30, su30 (InR.wr _), Option.bind_some, pd, pu, pd1, pu1]
theorem yz9 (x : Int) : (rz4 x).o = some ((0, pd x 0, pd x 1, pd x 2, pd x 3, pd x 4, pd x 5, pd x 6, pd x 7, pd x 8, pd x 9), (0, pu x 0, pu x 1, pu x 2, pu x 3, pu x 4, pu x 5, pu x 6, pu x 7, pu x 8, pu x 9)) := by
  have h1 : ∀ y : Int, (azu (IntKind.i64.wrap y) 65536).o = some (IntKind.i64.wrap y / 65536) := fun y => cz6 (InR.wr _) (by decide)
  have h2 : ∀ y : Int, (azo (IntKind.i64.wrap y) 65536).o = some (cdiv (IntKind.i64.wrap y) 65536) := fun y => bz8 (InR.wr _) (by decide)
  have h3 : ∀ y : Int, (azu (IntKind.i64.wrap y) 1073741824).o = some (IntKind.i64.wrap y / 1073741824) := fun y => cz6 (InR.wr _) (by decide)
  have h4 : ∀ y : Int, (azo (IntKind.i64.wrap y) 1073741824).o = some (cdiv (IntKind.i64.wrap y) 1073741824) := fun y => bz8 (InR.wr _) (by decide)
  show (rz5 x).run NN = _
  simp only [rz5, T.run, h1, h2, h3, h4, Option.bind_some, pd, pu, pd1, pu1]
theorem Szv {x : Int} (h0 : 0 ≤ x) (h1 : x ≤ 8192) : 0 ≤ pd1 x ∧ pd1 x ≤ 1073741824 := by
  unfold pd1; rw [w64 (by omega) (by omega)]; omega
theorem Szw {x : Int} (h0 : 0 ≤ x) (h1 : x ≤ 8192) : 0 ≤ pu1 x ∧ pu1 x ≤ 1073741824 := by
  unfold pu1 cdiv; rw [w64 (by omega) (by omega)]; omega
theorem Pzo {a b : Int} (ha : 0 ≤ a ∧ a ≤ 1073741824) (hb : 0 ≤ b ∧ b ≤ 1073741824) : 0 ≤ a * b ∧ a * b ≤ 1152921504606846976 := by
  refine ⟨Int.mul_nonneg ha.1 hb.1, ?_⟩
  have := Int.mul_le_mul ha.2 hb.2 hb.1 (by omega : (0 : Int) ≤ 1073741824)
  omega
theorem Pzm {x : Int} (h0 : 0 ≤ x) (h1 : x ≤ 8192) : ∀ k, 0 ≤ pd x k ∧ pd x k ≤ 1073741824
  | 0 => Szv h0 h1
  | k + 1 => by
    have := Pzo (Pzm h0 h1 k) (Szv h0 h1)
    simp only [pd]
    generalize pd x k * pd1 x = y at this ⊢
    rw [w64 (by omega) (by omega)]; omega
theorem Pzq {x : Int} (h0 : 0 ≤ x) (h1 : x ≤ 8192) : ∀ k, 0 ≤ pu x k ∧ pu x k ≤ 1073741824
  | 0 => Szw h0 h1
  | k + 1 => by
    have := Pzo (Pzq h0 h1 k) (Szw h0 h1)
    simp only [pu]
    generalize pu x k * pu1 x = y at this ⊢
    rw [w64 (by omega) (by omega)]; unfold cdiv; omega
theorem czc {n d : Int} (h0 : 0 ≤ n) (h1 : n ≤ 1073741824) (h2 : 0 < d) (h3 : d ≤ 1073741824) : (bzz n d).o = some (cdiv n d) := by
  show (lze n d).run NN = _
  simp only [lze, T.run]
  rw [az8 (by omega), w64 (x := n + d) (by omega) (by omega), w64 (x := n + d - 1) (by omega) (by omega), fzn (by omega)]
  have h4 := Czc (a := n + d - 1) h2
  have h5 := Izc (a := n + d - 1) h2
  have h6 := (Azg (a := n + d - 1) h2).1 (by omega)
  rw [w64 (by omega) (by omega)]
  congr 1; symm
  rw [xz2 h2]; omega
def alt (l : List Int) : Nat → Int × Int
  | 0 => (0, 1)
  | k + 1 => (IntKind.i64.wrap ((alt l k).1 + IntKind.i64.wrap ((alt l k).2 * l.getD k default)), IntKind.i64.wrap (0 - (alt l k).2))
theorem gzd (l : List Int) (h : l.length < 4294967296) : (bzq l).o = some (alt l l.length).1 := by
  show (gzc l).run NN = _
  simp only [gzc, T.run]
  refine Eq.trans (bzn (fun i => ((alt l i).1, (alt l i).2, (i : Int))) (alt l l.length).1 l.length rfl h ?_ ?_) rfl
  · intro j hj
    rw [az6 (by simpa using hj), az8 ⟨by simp, by simpa using hj⟩]
    simp only [alt, w64n (show j < 9223372036854775807 by omega), Int.toNat_natCast]
  · rw [az5 (by simp)]
theorem alt4 {a b c d : Int} (ha : 0 ≤ a ∧ a ≤ 1073741824) (hb : 0 ≤ b ∧ b ≤ 1073741824) (hc : 0 ≤ c ∧ c ≤ 1073741824) (hd : 0 ≤ d ∧ d ≤ 1073741824) : (bzq [a, b, c, d]).o = some (a - b + c - d) := by
  rw [gzd _ (by simp)]
  simp [alt, wr]; omega
theorem alt5 {a b c d e : Int} (ha : 0 ≤ a ∧ a ≤ 1073741824) (hb : 0 ≤ b ∧ b ≤ 1073741824) (hc : 0 ≤ c ∧ c ≤ 1073741824) (hd : 0 ≤ d ∧ d ≤ 1073741824) (he : 0 ≤ e ∧ e ≤ 1073741824) : (bzq [a, b, c, d, e]).o = some (a - b + c - d + e) := by
  rw [gzd _ (by simp)]
  simp [alt, wr]; omega
theorem alt6 {a b c d e f : Int} (ha : 0 ≤ a ∧ a ≤ 1073741824) (hb : 0 ≤ b ∧ b ≤ 1073741824) (hc : 0 ≤ c ∧ c ≤ 1073741824) (hd : 0 ≤ d ∧ d ≤ 1073741824) (he : 0 ≤ e ∧ e ≤ 1073741824) (hf : 0 ≤ f ∧ f ≤ 1073741824) : (bzq [a, b, c, d, e, f]).o = some (a - b + c - d + e - f) := by
  rw [gzd _ (by simp)]
  simp [alt, wr]; omega
def encV (lo hi : Int) : az0 := ⟨max 0 (lo / 16384), min 65536 (cdiv hi 16384)⟩
theorem pz0 {a b : Int} (hb : InR b) : (iz6 a b).o = some (encV a b) := by
  show (iz7 a b).run NN = _
  simp only [iz7, T.run, sd14, su14 hb, Option.bind_some, encV]
theorem sz7 {a b : Int} (ha : InR a) (hb : InR b) : (kzg a b).o = some (encV a b) := by
  show (kzh a b).run NN = _
  simp only [kzh, T.run, cz6 ha (show (0 : Int) < 16384 by decide), bz8 hb (show (0 : Int) < 16384 by decide), Option.bind_some, encV]
def sLo (x : Int) : Int := pd x 0 - cdiv (pu x 2) 6 + pd x 4 / 120 - cdiv (pu x 6) 5040
def sHi (x : Int) : Int := pu x 0 - pd x 2 / 6 + cdiv (pu x 4) 120 - pd x 6 / 5040 + cdiv (pu x 8) 362880
def cLo (x : Int) : Int := 1073741824 - cdiv (pu x 1) 2 + pd x 3 / 24 - cdiv (pu x 5) 720 + pd x 7 / 40320 - cdiv (pu x 9) 3628800
def cHi (x : Int) : Int := 1073741824 - pd x 1 / 2 + cdiv (pu x 3) 24 - pd x 5 / 720 + cdiv (pu x 7) 40320
theorem q_bd {a b : Int} (ha : 0 ≤ a ∧ a ≤ 1073741824) (hb : 0 < b) : 0 ≤ a / b ∧ a / b ≤ 1073741824 := by
  have := (Azg (a := a) hb).1 ha.1; omega
theorem c_bd {a b : Int} (ha : 0 ≤ a ∧ a ≤ 1073741824) (hb : 0 < b) : 0 ≤ cdiv a b ∧ cdiv a b ≤ 1073741824 := by
  have h := Gz0 (a := a) hb
  by_cases h0 : a = 0
  · have := h.2 (by omega); omega
  · have := h.1 (by omega); omega
theorem wq {a b : Int} (ha : 0 ≤ a ∧ a ≤ 1073741824) (hb : 0 < b) : IntKind.i64.wrap (a.tdiv b) = a / b := by
  rw [fzn ha.1]; have := q_bd ha hb; exact w64 (by omega) (by omega)
theorem in30 {a : Int} (ha : 0 ≤ a ∧ a ≤ 1073741824) : InR a := ⟨by omega, by omega⟩
section
variable {x : Int} (h0 : 0 ≤ x) (h1 : x ≤ 8192)
include h0 h1
theorem Hzz : (Azd x).o = some (encV (sLo x) (sHi x)) := by
  have P := Pzm h0 h1
  have U := Pzq h0 h1
  show (szj x).run NN = _
  simp only [szj, T.run, T.ix, rzm, Option.bind_some, czc (U 2).1 (U 2).2 (show (0 : Int) < 6 by decide) (by decide), czc (U 6).1 (U 6).2 (show (0 : Int) < 5040 by decide) (by decide),
    czc (U 4).1 (U 4).2 (show (0 : Int) < 120 by decide) (by decide), czc (U 8).1 (U 8).2 (show (0 : Int) < 362880 by decide) (by decide), wq (P 4) (show (0 : Int) < 120 by decide), wq (P 2) (show (0 : Int) < 6 by decide), wq (P 6) (show (0 : Int) < 5040 by decide),
    alt4 (P 0) (c_bd (U 2) (show (0 : Int) < 6 by decide)) (q_bd (P 4) (show (0 : Int) < 120 by decide)) (c_bd (U 6) (show (0 : Int) < 5040 by decide)),
    alt5 (U 0) (q_bd (P 2) (show (0 : Int) < 6 by decide)) (c_bd (U 4) (show (0 : Int) < 120 by decide)) (q_bd (P 6) (show (0 : Int) < 5040 by decide)) (c_bd (U 8) (show (0 : Int) < 362880 by decide))]
  have a0 := U 0; have a1 := q_bd (P 2) (show (0 : Int) < 6 by decide); have a2 := c_bd (U 4) (show (0 : Int) < 120 by decide); have a3 := q_bd (P 6) (show (0 : Int) < 5040 by decide); have a4 := c_bd (U 8) (show (0 : Int) < 362880 by decide)
  rw [pz0 ⟨by omega, by omega⟩]; rfl
theorem Ez3 : (vz3 x).o = some (encV (cLo x) (cHi x)) := by
  have P := Pzm h0 h1
  have U := Pzq h0 h1
  have one : (0 : Int) ≤ 1073741824 ∧ (1073741824 : Int) ≤ 1073741824 := by decide
  show (nzg x).run NN = _
  simp only [nzg, T.run, T.ix, rzm, Option.bind_some, czc (U 1).1 (U 1).2 (show (0 : Int) < 2 by decide) (by decide), czc (U 5).1 (U 5).2 (show (0 : Int) < 720 by decide) (by decide), czc (U 9).1 (U 9).2 (show (0 : Int) < 3628800 by decide) (by decide),
    czc (U 3).1 (U 3).2 (show (0 : Int) < 24 by decide) (by decide), czc (U 7).1 (U 7).2 (show (0 : Int) < 40320 by decide) (by decide), wq (P 3) (show (0 : Int) < 24 by decide), wq (P 7) (show (0 : Int) < 40320 by decide), wq (P 1) (show (0 : Int) < 2 by decide), wq (P 5) (show (0 : Int) < 720 by decide),
    alt6 one (c_bd (U 1) (show (0 : Int) < 2 by decide)) (q_bd (P 3) (show (0 : Int) < 24 by decide)) (c_bd (U 5) (show (0 : Int) < 720 by decide)) (q_bd (P 7) (show (0 : Int) < 40320 by decide)) (c_bd (U 9) (show (0 : Int) < 3628800 by decide)),
    alt5 one (q_bd (P 1) (show (0 : Int) < 2 by decide)) (c_bd (U 3) (show (0 : Int) < 24 by decide)) (q_bd (P 5) (show (0 : Int) < 720 by decide)) (c_bd (U 7) (show (0 : Int) < 40320 by decide))]
  have a1 := q_bd (P 1) (show (0 : Int) < 2 by decide); have a2 := c_bd (U 3) (show (0 : Int) < 24 by decide); have a3 := q_bd (P 5) (show (0 : Int) < 720 by decide); have a4 := c_bd (U 7) (show (0 : Int) < 40320 by decide)
  rw [pz0 ⟨by omega, by omega⟩]; rfl
theorem Lzf : (Dzh x).o = some (encV (sLo x) (sHi x)) := by
  have P := Pzm h0 h1
  have U := Pzq h0 h1
  show (wzp x).run NN = _
  simp only [wzp, T.run, T.ix, yz9, Option.bind_some, bz8 (in30 (U 2)) (show (0 : Int) < 6 by decide), bz8 (in30 (U 6)) (show (0 : Int) < 5040 by decide), bz8 (in30 (U 4)) (show (0 : Int) < 120 by decide), bz8 (in30 (U 8)) (show (0 : Int) < 362880 by decide),
    cz6 (in30 (P 4)) (show (0 : Int) < 120 by decide), cz6 (in30 (P 2)) (show (0 : Int) < 6 by decide), cz6 (in30 (P 6)) (show (0 : Int) < 5040 by decide), Hzs, Hzt]
  have b0 := P 0; have b1 := c_bd (U 2) (show (0 : Int) < 6 by decide); have b2 := q_bd (P 4) (show (0 : Int) < 120 by decide); have b3 := c_bd (U 6) (show (0 : Int) < 5040 by decide)
  have a0 := U 0; have a1 := q_bd (P 2) (show (0 : Int) < 6 by decide); have a2 := c_bd (U 4) (show (0 : Int) < 120 by decide); have a3 := q_bd (P 6) (show (0 : Int) < 5040 by decide); have a4 := c_bd (U 8) (show (0 : Int) < 362880 by decide)
  rw [w64 (x := pd x 0 - cdiv (pu x 2) 6 + pd x 4 / 120 - cdiv (pu x 6) 5040) (by omega) (by omega), w64 (x := pu x 0 - pd x 2 / 6 + cdiv (pu x 4) 120 - pd x 6 / 5040 + cdiv (pu x 8) 362880) (by omega) (by omega), sz7 ⟨by omega, by omega⟩ ⟨by omega, by omega⟩]; rfl
theorem Hzh : (yz8 x).o = some (encV (cLo x) (cHi x)) := by
  have P := Pzm h0 h1
  have U := Pzq h0 h1
  show (rz3 x).run NN = _
  simp only [rz3, T.run, T.ix, yz9, Option.bind_some, bz8 (in30 (U 1)) (show (0 : Int) < 2 by decide), bz8 (in30 (U 5)) (show (0 : Int) < 720 by decide), bz8 (in30 (U 9)) (show (0 : Int) < 3628800 by decide), bz8 (in30 (U 3)) (show (0 : Int) < 24 by decide), bz8 (in30 (U 7)) (show (0 : Int) < 40320 by decide),
    cz6 (in30 (P 3)) (show (0 : Int) < 24 by decide), cz6 (in30 (P 7)) (show (0 : Int) < 40320 by decide), cz6 (in30 (P 1)) (show (0 : Int) < 2 by decide), cz6 (in30 (P 5)) (show (0 : Int) < 720 by decide), Hzs, Hzt]
  have b1 := c_bd (U 1) (show (0 : Int) < 2 by decide); have b2 := q_bd (P 3) (show (0 : Int) < 24 by decide); have b3 := c_bd (U 5) (show (0 : Int) < 720 by decide); have b4 := q_bd (P 7) (show (0 : Int) < 40320 by decide); have b5 := c_bd (U 9) (show (0 : Int) < 3628800 by decide)
  have a1 := q_bd (P 1) (show (0 : Int) < 2 by decide); have a2 := c_bd (U 3) (show (0 : Int) < 24 by decide); have a3 := q_bd (P 5) (show (0 : Int) < 720 by decide); have a4 := c_bd (U 7) (show (0 : Int) < 40320 by decide)
  rw [w64 (x := 1073741824 - cdiv (pu x 1) 2 + pd x 3 / 24 - cdiv (pu x 5) 720 + pd x 7 / 40320 - cdiv (pu x 9) 3628800) (by omega) (by omega), w64 (x := 1073741824 - pd x 1 / 2 + cdiv (pu x 3) 24 - pd x 5 / 720 + cdiv (pu x 7) 40320) (by omega) (by omega), sz7 ⟨by omega, by omega⟩ ⟨by omega, by omega⟩]; rfl
end
def qV (r : Int) : az0 := if r ≤ 8192 then encV (sLo r) (sHi r) else encV (cLo (16384 - r)) (cHi (16384 - r))
theorem wzz {r : Int} (h0 : 0 ≤ r) (h1 : r ≤ 16384) : (gzn r).o = some (qV r) := by
  show (pzr r).run NN = _
  simp only [pzr, T.run, qV]
  by_cases h : r ≤ 8192
  · rw [az6 h, if_pos h, Hzz h0 h]; rfl
  · rw [az5 h, if_neg h, w64 (by omega) (by omega), Ez3 (by omega) (by omega)]; rfl
theorem vzs {r : Int} (h0 : 0 ≤ r) (h1 : r ≤ 16384) : (gz4 r).o = some (qV r) := by
  show (ozg r).run NN = _
  simp only [ozg, T.run, qV]
  by_cases h : r ≤ 8192
  · rw [az6 h, if_pos h, Lzf h0 h]; rfl
  · rw [az5 h, if_neg h, w64 (by omega) (by omega), Hzh (by omega) (by omega)]; rfl
theorem Qzm (a : Int) : (((BitVec.ofInt 64 a &&& BitVec.ofInt 64 65535).toNat : Nat) : Int) = a % 65536 := by
  have h1 : (BitVec.ofInt 64 65535).toNat = 2 ^ 16 - 1 := by decide
  rw [BitVec.toNat_and, h1, Nat.and_two_pow_sub_one_eq_mod, BitVec.toNat_ofInt]
  omega
theorem lzg (a : Int) : (gzp a).o = some (a % 65536) := by
  show (lzf a).run NN = _
  simp only [lzf, T.run]
  rw [Qzm, w64 (by omega) (by omega)]
theorem Az0 (a : Int) : (uzq a).o = some (a % 65536) := by
  show (zzz a).run NN = _
  simp only [zzz, T.run]
  have h2 := Int.tmod_lt_of_pos a (show (0 : Int) < 65536 by decide)
  have h3 := Int.lt_tmod_of_pos a (show (0 : Int) < 65536 by decide)
  have h1 := Int.mul_tdiv_add_tmod a 65536
  rw [w64 (by omega) (by omega), Hzr (by omega)]
  congr 1; omega
def sinV (a : Int) : az0 :=
  if a % 65536 / 16384 = 0 then qV (a % 65536 % 16384) else if a % 65536 / 16384 = 1 then qV (16384 - a % 65536 % 16384) else
  if a % 65536 / 16384 = 2 then negV (qV (a % 65536 % 16384)) else negV (qV (16384 - a % 65536 % 16384))
theorem Cz3 (a : Int) : (pzq a).o = some (sinV a) := by
  show (wz4 a).run NN = _
  simp only [wz4, T.run, lzg, Option.bind_some, sinV]
  rw [fzn (by omega), Hzr (by omega), w64 (x := a % 65536 / 16384) (by omega) (by omega), w64 (x := 16384 - a % 65536 % 16384) (by omega) (by omega), wzz (by omega) (by omega), wzz (by omega) (by omega)]
  simp only [Option.bind_some, vzd]
  by_cases h0 : a % 65536 / 16384 = 0
  · rw [dzm h0, if_pos h0]
  · rw [dzn h0, if_neg h0]
    by_cases h1 : a % 65536 / 16384 = 1
    · rw [dzm h1, if_pos h1]
    · rw [dzn h1, if_neg h1]
      by_cases h2 : a % 65536 / 16384 = 2
      · rw [dzm h2, if_pos h2]
      · rw [dzn h2, if_neg h2]
theorem Fzh (a : Int) : (uzs a).o = some (sinV a) := by
  show (Az3 a).run NN = _
  simp only [Az3, T.run, Az0, Option.bind_some, sinV]
  rw [fzn (by omega), Hzr (by omega), w64 (x := a % 65536 / 16384) (by omega) (by omega), w64 (x := 16384 - a % 65536 % 16384) (by omega) (by omega), vzs (by omega) (by omega), vzs (by omega) (by omega)]
  simp only [Option.bind_some, Fzg]
  by_cases h0 : a % 65536 / 16384 = 0
  · rw [dzm h0, if_pos h0]
  · rw [dzn h0, if_neg h0]
    by_cases h1 : a % 65536 / 16384 = 1
    · rw [dzm h1, if_pos h1]
    · rw [dzn h1, if_neg h1]
      by_cases h2 : a % 65536 / 16384 = 2
      · rw [dzm h2, if_pos h2]
      · rw [dzn h2, if_neg h2]
def cosV (a : Int) : az0 := sinV (a % 65536 + 16384)
theorem Kzd (a : Int) : (wz2 a).o = some (cosV a) := by
  show (wz3 a).run NN = _
  simp only [wz3, T.run, lzg, Option.bind_some, cosV]
  rw [w64 (by omega) (by omega), Cz3]; rfl
theorem Nzh (a : Int) : (zzw a).o = some (cosV a) := by
  show (zzx a).run NN = _
  simp only [zzx, T.run, Az0, Option.bind_some, cosV]
  rw [w64 (by omega) (by omega), Fzh]; rfl
def Bzg (a : az0) (c : Int) : Bool := decide (a.Lo + (c - a.Lo) % 65536 ≤ a.Hi)
def Vzb (b : Bool) (x y : az0) : az0 := if b then Nzb x y else x
def Jzd (a lo hi : az0) (top bot : Int) : az0 :=
  if vV a then (if a.Hi - a.Lo ≥ 65536 then ⟨-65536, 65536⟩ else Vzb (Bzg a bot) (Vzb (Bzg a top) (Nzb lo hi) (ofV 65536)) (ofV (-65536))) else iz
section
variable {a : az0} (h : vV a = true) {c : Int} (h0 : 0 ≤ c) (h1 : c ≤ 65536)
include h h0 h1
theorem kzw : (gzo a c).o = some (Bzg a c) := by
  show (pzs a c).run NN = _
  have hv := h
  simp only [vV_iff] at hv
  simp only [pzs, T.run, lzg, Option.bind_some, Eza, h, Bool.true_and, Bzg]
  rw [w64 (x := c - a.Lo) (by omega) (by omega), w64 (by omega) (by omega), decide_eq_true (p := a.Lo ≤ _) (by omega), Bool.true_and]
theorem Azw : (uz0 a c).o = some (Bzg a c) := by
  show (uz1 a c).run NN = _
  have hv := h
  simp only [vV_iff] at hv
  simp only [uz1, T.run, Az0, Option.bind_some, Bzg]
  rw [w64 (x := c - a.Lo) (by omega) (by omega), w64 (by omega) (by omega)]
end
theorem Hzy (a : az0) {t b : Int} (ht : 0 ≤ t ∧ t ≤ 65536) (hb : 0 ≤ b ∧ b ≤ 65536) : (Azc a t b).o = some (Jzd a (cosV a.Lo) (cosV a.Hi) t b) := by
  show (szi a t b).run NN = _
  simp only [szi, T.run, bzs, Option.bind_some, Jzd]
  cases h : vV a
  · rfl
  · simp only [Bool.not_true, cond_false, rzs a h, Option.bind_some, Kzd, tz0, kzw h ht.1 ht.2, kzw h hb.1 hb.2, gzt, if_true]
    by_cases hw : a.Hi - a.Lo ≥ 65536
    · rw [az6 hw, if_pos hw]
    · rw [az5 hw, if_neg hw]
      cases Bzg a t <;> cases Bzg a b <;> rfl
theorem Ez4 (a : az0) {t b : Int} (ht : 0 ≤ t ∧ t ≤ 65536) (hb : 0 ≤ b ∧ b ≤ 65536) : (vz4 a t b).o = some (Jzd a (sinV a.Lo) (sinV a.Hi) t b) := by
  show (nzh a t b).run NN = _
  simp only [nzh, T.run, bzs, Option.bind_some, Jzd]
  cases h : vV a
  · rfl
  · simp only [Bool.not_true, cond_false, rzs a h, Option.bind_some, Cz3, tz0, kzw h ht.1 ht.2, kzw h hb.1 hb.2, gzt, if_true]
    by_cases hw : a.Hi - a.Lo ≥ 65536
    · rw [az6 hw, if_pos hw]
    · rw [az5 hw, if_neg hw]
      cases Bzg a t <;> cases Bzg a b <;> rfl
theorem Dzg (a lo hi : az0) {t b : Int} (ht : 0 ≤ t ∧ t ≤ 65536) (hb : 0 ≤ b ∧ b ≤ 65536) : (wzn a lo hi t b).o = some (Jzd a lo hi t b) := by
  show (wzo a lo hi t b).run NN = _
  simp only [wzo, T.run, eze, Option.bind_some, Jzd]
  cases h : vV a
  · rfl
  · have hv := h
    simp only [vV_iff] at hv
    rw [w64 (by omega) (by omega)]
    simp only [Bool.not_true, cond_false, Option.bind_some, Lzc, Azw h ht.1 ht.2, Azw h hb.1 hb.2, yz6, if_true]
    by_cases hw : a.Hi - a.Lo ≥ 65536
    · rw [az6 hw, if_pos hw]
    · rw [az5 hw, if_neg hw]
      cases Bzg a t <;> cases Bzg a b <;> rfl
def sinO (a : az0) : az0 := Jzd a (sinV a.Lo) (sinV a.Hi) 16384 49152
def cosO (a : az0) : az0 := Jzd a (cosV a.Lo) (cosV a.Hi) 0 32768
theorem Cz2 (a : az0) : (szh a).o = some (sinO a) := by
  show (lzd a).run NN = _
  simp only [lzd, T.run, Ez4 a (show (0 : Int) ≤ 16384 ∧ (16384 : Int) ≤ 65536 by decide) (show (0 : Int) ≤ 49152 ∧ (49152 : Int) ≤ 65536 by decide), Option.bind_some, sinO]
theorem Cz1 (a : az0) : (szg a).o = some (cosO a) := by
  show (lzc a).run NN = _
  simp only [lzc, T.run, Hzy a (show (0 : Int) ≤ 0 ∧ (0 : Int) ≤ 65536 by decide) (show (0 : Int) ≤ 32768 ∧ (32768 : Int) ≤ 65536 by decide), Option.bind_some, cosO]
theorem Ezp (a : az0) : (vzt a).o = some (sinO a) := by
  show (ozh a).run NN = _
  simp only [ozh, T.run, Fzh, Dzg a _ _ (show (0 : Int) ≤ 16384 ∧ (16384 : Int) ≤ 65536 by decide) (show (0 : Int) ≤ 49152 ∧ (49152 : Int) ≤ 65536 by decide), Option.bind_some, sinO]
theorem Ezo (a : az0) : (vzr a).o = some (cosO a) := by
  show (ozf a).run NN = _
  simp only [ozf, T.run, Nzh, Dzg a _ _ (show (0 : Int) ≤ 0 ∧ (0 : Int) ≤ 65536 by decide) (show (0 : Int) ≤ 32768 ∧ (32768 : Int) ≤ 65536 by decide), Option.bind_some, cosO]
abbrev IV3 := az0 × az0 × az0
abbrev IM3 := IV3 × IV3 × IV3
def izv : IV3 := (iz, iz, iz)
def tze (v : Int × Int × Int) : IV3 := (ofV v.1, ofV v.2.1, ofV v.2.2)
def Nzt : IM3 := ((ofV 65536, iz, iz), (iz, ofV 65536, iz), (iz, iz, ofV 65536))
def Nz3 (a b : IV3) : IV3 := (addV a.1 b.1, addV a.2.1 b.2.1, addV a.2.2 b.2.2)
def dotV (r v : IV3) : az0 := addV (addV (mulV r.1 v.1) (mulV r.2.1 v.2.1)) (mulV r.2.2 v.2.2)
def Ezw (m : IM3) (v : IV3) : IV3 := (dotV m.1 v, dotV m.2.1 v, dotV m.2.2 v)
def lim1 (a : az0) : az0 := ⟨max (-65536) (min a.Lo 65536), max (-65536) (min a.Hi 65536)⟩
def rowV (r : IV3) (b : IM3) : IV3 := (lim1 (dotV r (b.1.1, b.2.1.1, b.2.2.1)), lim1 (dotV r (b.1.2.1, b.2.1.2.1, b.2.2.2.1)), lim1 (dotV r (b.1.2.2, b.2.1.2.2, b.2.2.2.2)))
def Ozf (a b : IM3) : IM3 := (rowV a.1 b, rowV a.2.1 b, rowV a.2.2 b)
def Kz6 (axis : Int) (a : az0) : IM3 :=
  if vV a then (if axis = 0 then ((ofV 65536, iz, iz), (iz, cosO a, negV (sinO a)), (iz, sinO a, cosO a)) else
    if axis = 1 then ((cosO a, iz, sinO a), (iz, ofV 65536, iz), (negV (sinO a), iz, cosO a)) else
    if axis = 2 then ((cosO a, negV (sinO a), iz), (sinO a, cosO a, iz), (iz, iz, ofV 65536)) else (izv, izv, izv)) else (izv, izv, izv)
def Bz5 (v : IV3) : azj := ⟨Nzt, v⟩
def Jzr : azj := ⟨Nzt, izv⟩
def Kzk (a b : azj) : azj := ⟨Ozf a.R b.R, Nz3 a.T (Ezw a.R b.T)⟩
def Jz6 (p : azj) (v : IV3) : IV3 := Nz3 p.T (Ezw p.R v)
def Bz6 (k : Int) (a : az0) : IV3 := if k = 4 then (a, iz, iz) else if k = 5 then (iz, a, iz) else (iz, iz, a)
def vzf (j : azi) (a : az0) : azj :=
  Kzk (Bz5 (tze j.Offset)) (if j.Kind = 1 ∨ j.Kind = 2 ∨ j.Kind = 3 then ⟨Kz6 (j.Kind - 1) a, izv⟩ else if j.Kind = 4 ∨ j.Kind = 5 ∨ j.Kind = 6 then Bz5 (Bz6 j.Kind a) else Jzr)
theorem Qzs {a b : Int} (h : a ≤ b) : clV a ≤ clV b := by unfold clV; omega
theorem Szg (a : Int) : -2147483648 ≤ clV a ∧ clV a ≤ 2147483648 := by unfold clV; omega
theorem Vzo {a b : Int} (h : a ≤ b) : vV (limV a b) = true := by
  rw [vV_iff]; exact ⟨(Szg a).1, Qzs h, (Szg b).2⟩
theorem iz_v : vV iz = true := rfl
theorem of0 : ofV 0 = iz := rfl
theorem Gzl {a b c : Int} (h : a ≤ b) (hc : 0 < c) : a / c ≤ cdiv b c := by
  have h1 := Czc (a := a) hc
  have h2 := Czc (a := -b) hc
  unfold cdiv
  by_cases e : a / c ≤ -(-b / c)
  · exact e
  · exfalso
    have h3 : c * (-(-b / c)) < c * (a / c) := Int.mul_lt_mul_of_pos_left (by omega) hc
    rw [Int.mul_neg] at h3
    omega
theorem Vzq (a b : az0) : vV (mulV a b) = true := by
  unfold mulV
  split
  · rename_i h
    simp only [Bool.and_eq_true] at h
    exact Vzo (Gzl (Pzf h.1 h.2).2.2 (by decide))
  · exact iz_v
theorem Tz4 {x : az0} (h : vV x = true) : addV iz x = x := by
  have hv := h
  rw [vV_iff] at hv
  obtain ⟨lo, hi⟩ := x
  simp only at hv
  have e1 : clV (0 + lo) = lo := by unfold clV; omega
  have e2 : clV (0 + hi) = hi := by unfold clV; omega
  simp only [addV, h, iz_v, Bool.and_self, if_true, limV]
  exact congr (congrArg az0.mk e1) e2
theorem add0 (a b : az0) : addV ⟨0, 0⟩ (mulV a b) = mulV a b := Tz4 (Vzq a b)
theorem oz1 (v : Int × Int × Int) : (jz8 v).o = some (tze v) := by
  show (oz0 v).run NN = _
  simp only [oz0, T.run, T.ix, gzt, Option.bind_some, tze]
theorem nz5 (v : Int × Int × Int) : (tzt v).o = some (tze v) := by
  show (tzu v).run NN = _
  simp only [tzu, T.run, T.ix, yz6, Option.bind_some, tze]
theorem zzl : matrix_Identity_C.o = some Nzt := by
  show matrix_Identity_T.run NN = _
  simp only [matrix_Identity_T, T.run, T.ix, gzt, Option.bind_some, Nzt, iz]
theorem Dzf : ref1_Unit_C.o = some Nzt := by
  show ref1_Unit_T.run NN = _
  simp only [ref1_Unit_T, T.run, yz6, Option.bind_some, Nzt, iz]
theorem Azm (a b : IV3) : (Azl a b).o = some (Nz3 a b) := by
  show (tzb a b).run NN = _
  simp only [tzb, T.run, T.ix, nzs, Option.bind_some, Nz3]
theorem yz5 (a b : IV3) : (qzz a b).o = some (Nz3 a b) := by
  show (rz0 a b).run NN = _
  simp only [rz0, T.run, T.ix, zzu, Option.bind_some, Nz3]
theorem vzi (m : IM3) (v : IV3) : (vzh m v).o = some (Ezw m v) := by
  show (nzz m v).run NN = _
  simp only [nzz, T.run, T.ix, nzs, vzc, Option.bind_some, add0, Ezw, dotV]
theorem tzp (m : IM3) (v : IV3) : (mz2 m v).o = some (Ezw m v) := by
  show (mz3 m v).run NN = _
  simp only [mz3, T.run, T.ix, zzu, Fzf, Option.bind_some, Ezw, dotV]
theorem Bzf (x : Int) : (azr x).o = some (max (-65536) (min x 65536)) := by
  show (kza x).run NN = _
  simp only [kza, T.run, Option.some.injEq]; omega
set_option maxRecDepth 20000 in
theorem Bze (a b : IM3) : (rzv a b).o = some (Ozf a b) := by
  show (kz9 a b).run NN = _
  simp only [kz9, T.run, T.ix, nzs, vzc, Bzf, Option.bind_some, add0, Ozf, rowV, dotV, lim1]
set_option maxRecDepth 20000 in
theorem zzv (a b : IM3) : (pzf a b).o = some (Ozf a b) := by
  show (izn a b).run NN = _
  simp only [izn, T.run, T.ix, zzu, Fzf, Option.bind_some, Ozf, rowV, dotV, lim1]
theorem Gzw (k : Int) (a : az0) : (xzj k a).o = some (Kz6 k a) := by
  show (qzi k a).run NN = _
  simp only [qzi, T.run, bzs, Cz1, Cz2, vzd, gzt, Option.bind_some, Kz6, of0]
  cases h : vV a
  · rfl
  · simp only [Bool.not_true, cond_false, if_true]
    by_cases h0 : k = 0
    · rw [dzm h0, if_pos h0]
    · rw [dzn h0, if_neg h0]
      by_cases h1 : k = 1
      · rw [dzm h1, if_pos h1]
      · rw [dzn h1, if_neg h1]
        by_cases h2 : k = 2
        · rw [dzm h2, if_pos h2]
        · rw [dzn h2, if_neg h2]; rfl
theorem Lze (k : Int) (a : az0) : (Dze k a).o = some (Kz6 k a) := by
  show (wzm k a).run NN = _
  simp only [wzm, T.run, eze, Ezo, Ezp, Fzg, yz6, Option.bind_some, Kz6]
  cases h : vV a
  · rfl
  · simp only [Bool.not_true, cond_false, if_true]
    by_cases h0 : k = 0
    · rw [dzm h0, if_pos h0]; rfl
    · rw [dzn h0, if_neg h0]
      by_cases h1 : k = 1
      · rw [dzm h1, if_pos h1]; rfl
      · rw [dzn h1, if_neg h1]
        by_cases h2 : k = 2
        · rw [dzm h2, if_pos h2]; rfl
        · rw [dzn h2, if_neg h2]; rfl
theorem Azq : pose_still_C.o = some izv := by
  show pose_still_T.run NN = _
  simp only [pose_still_T, T.run, oz1, Option.bind_some, tze, of0, izv]
theorem jzm (v : IV3) : (mzy v).o = some (Bz5 v) := by
  show (tzh v).run NN = _
  simp only [tzh, T.run, zzl, Option.bind_some, Bz5]
theorem tzg : pose_Identity_C.o = some Jzr := by
  show pose_Identity_T.run NN = _
  simp only [pose_Identity_T, T.run, Azq, jzm, Option.bind_some, Bz5, Jzr]
theorem Lz9 (k : Int) (a : az0) : (Dz8 k a).o = some ⟨Kz6 k a, izv⟩ := by
  show (wze k a).run NN = _
  simp only [wze, T.run, Gzw, Azq, Option.bind_some]
theorem jzb (a b : azj) : (fzx a b).o = some (Kzk a b) := by
  show (oz5 a b).run NN = _
  have h1 : (mzz a).o = (jzn a).run NN := rfl
  simp only [oz5, T.run, h1, jzn, Option.bind_some, Bze]
  refine Eq.trans (congrArg (fun o => Option.bind o _) (show (jzc _ _ _ _ _ _ _ _ _ _ _ _ _ _ _ _ _ _ _ _ _ _ _ _ _).o = (fzy _ _ _ _ _ _ _ _ _ _ _ _ _ _ _ _ _ _ _ _ _ _ _ _ _).run NN from rfl)) ?_
  simp only [fzy, T.run, vzi, Azm, Option.bind_some]; rfl
theorem Jzf (a : azj) (v : IV3) : (Azp a v).o = some (Jz6 a v) := by
  show (tzf a v).run NN = _
  have h1 : (mzz a).o = (jzn a).run NN := rfl
  simp only [tzf, T.run, h1, jzn, Option.bind_some]
  refine Eq.trans (congrArg (fun o => Option.bind o _) (show (jzc _ _ _ _ _ _ _ _ _ _ _ _ _ _ _ _ _ _ _ _ _ _ _ _ _).o = (fzy _ _ _ _ _ _ _ _ _ _ _ _ _ _ _ _ _ _ _ _ _ _ _ _ _).run NN from rfl)) ?_
  simp only [fzy, T.run, vzi, Azm, Option.bind_some]; rfl
theorem Dzc : ref1_Rest_C.o = some Jzr := by
  show ref1_Rest_T.run NN = _
  simp only [ref1_Rest_T, T.run, Dzf, Option.bind_some]; rfl
theorem tzx (v : IV3) : (tzv v).o = some (Bz5 v) := by
  show (tzw v).run NN = _
  simp only [tzw, T.run, Dzf, Option.bind_some, Bz5]
theorem Dzd (k : Int) (a : az0) : (tzy k a).o = some ⟨Kz6 k a, izv⟩ := by
  show (mz5 k a).run NN = _
  simp only [mz5, T.run, Lze, Option.bind_some]; rfl
theorem jze (a b : azj) : (ozd a b).o = some (Kzk a b) := by
  show (oze a b).run NN = _
  simp only [oze, T.run, zzv, tzp, yz5, Option.bind_some, Kzk]
theorem Jzn (a : azj) (v : IV3) : (Azu a v).o = some (Jz6 a v) := by
  show (tzq a v).run NN = _
  simp only [tzq, T.run, tzp, yz5, Option.bind_some, Jz6]
theorem Kzg (k : Int) (a : az0) : (Cz5 k a).o = some ⟨Kz6 k a, izv⟩ := by
  show (wz6 k a).run NN = _
  simp only [wz6, T.run, Lz9, Option.bind_some]
theorem Kzf (k : Int) (a : az0) : (Cz4 k a).o = some Jzr := by
  show (wz5 k a).run NN = _
  simp only [wz5, T.run, tzg, Option.bind_some]
theorem Iz1 {k : Int} (a : az0) (h : k = 4 ∨ k = 5 ∨ k = 6) : (Aze (k - 4) a).o = some (Bz5 (Bz6 k a)) := by
  show (szk (k - 4) a).run NN = _
  simp only [szk, T.run, T.ix]
  rcases h with rfl | rfl | rfl
  · simp only [show ((4 - 4 : Int) == 0) = true from rfl, cond_true, az7, jzm]; rfl
  · simp only [show ((5 - 4 : Int) == 0) = false from rfl, show ((5 - 4 : Int) == 1) = true from rfl, cond_true, cond_false, az7, jzm]; rfl
  · simp only [show ((6 - 4 : Int) == 0) = false from rfl, show ((6 - 4 : Int) == 1) = false from rfl, show ((6 - 4 : Int) == 2) = true from rfl, cond_true, cond_false, az7, jzm]; rfl
theorem Nze (k a b c : Int) {R : Type} : (bif k == a then some (.out (k == a)) else bif k == b then some (.out (k == b)) else some (.out (k == c)) : Option (Step3 Unit Bool R)) = some (.out (decide (k = a ∨ k = b ∨ k = c))) := by
  by_cases h1 : k = a
  · rw [dzm h1]; simp [h1]
  · rw [dzn h1]
    by_cases h2 : k = b
    · rw [dzm h2]; simp [h2]
    · rw [dzn h2]; simp [h1, h2, Bool.beq_eq_decide_eq]
theorem mo0 (k : Int) : (ez3 k).o = if k = 1 ∨ k = 2 ∨ k = 3 then some (k - 1) else none := by
  show (ez4 k).run NN = _
  simp only [ez4, T.run, Nze, az7]
  by_cases h : k = 1 ∨ k = 2 ∨ k = 3
  · rw [az6 h, if_pos h, w64 (by omega) (by omega)]
  · rw [az5 h, if_neg h]; cases decide (k = 4 ∨ k = 5 ∨ k = 6) <;> rfl
theorem mo1 (k : Int) (h : ¬ (k = 1 ∨ k = 2 ∨ k = 3)) : (ez5 k).o = if k = 4 ∨ k = 5 ∨ k = 6 then some (k - 4) else none := by
  show (ez6 k).run NN = _
  simp only [ez6, T.run, Nze, az7]
  rw [az5 h]
  by_cases h : k = 4 ∨ k = 5 ∨ k = 6
  · rw [az6 h, if_pos h, w64 (by omega) (by omega)]
  · rw [az5 h, if_neg h]
theorem mo2 (k : Int) (h : ¬ (k = 1 ∨ k = 2 ∨ k = 3)) (h' : ¬ (k = 4 ∨ k = 5 ∨ k = 6)) : (gzk k).o = some 0 := by
  show (ez7 k).run NN = _
  simp only [ez7, T.run, Nze, az7]
  rw [az5 h, az5 h']
theorem xza (j : azi) (a : az0) : (mzq j a).o = some (vzf j a) := by
  show (gzw j a).run NN = _
  simp only [gzw, T.run, oz1, jzm, Option.bind_some, mo0, vzf]
  by_cases h : j.Kind = 1 ∨ j.Kind = 2 ∨ j.Kind = 3
  · simp only [if_pos h, Option.isSome_some, cond_true, Option.bind_some, Kzg, jzb]
  · simp only [if_neg h, Option.isSome_none, cond_false, mo1 _ h]
    by_cases h' : j.Kind = 4 ∨ j.Kind = 5 ∨ j.Kind = 6
    · simp only [if_pos h', Option.isSome_some, cond_true, Option.bind_some, Iz1 a h', jzb]
    · simp only [if_neg h', Option.isSome_none, cond_false, mo2 _ h h', Option.bind_some, Kzf, jzb]
theorem Wz5 (k : Int) (a : az0) {R : Type} (h : k = 4 ∨ k = 5 ∨ k = 6) : (bif IntKind.i64.wrap (k - 4) == 0 then some (.out (a.Lo, a.Hi, 0, 0, 0, 0)) else bif IntKind.i64.wrap (k - 4) == 1 then some (.out (0, 0, a.Lo, a.Hi, 0, 0)) else
    bif IntKind.i64.wrap (k - 4) == 2 then some (.out (0, 0, 0, 0, a.Lo, a.Hi)) else none : Option (Step3 Unit (Int × Int × Int × Int × Int × Int) R)) = some (.out ((Bz6 k a).1.Lo, (Bz6 k a).1.Hi, (Bz6 k a).2.1.Lo, (Bz6 k a).2.1.Hi, (Bz6 k a).2.2.Lo, (Bz6 k a).2.2.Hi)) := by
  rw [w64 (by omega) (by omega)]
  rcases h with rfl | rfl | rfl <;> rfl
theorem Hz9 (j : azi) (a : az0) : (xzv j a).o = some (vzf j a) := by
  show (qzn j a).run NN = _
  simp only [qzn, T.run, T.ix, Dzc, Option.bind_some, Nze, az7, vzf]
  by_cases h : j.Kind = 1 ∨ j.Kind = 2 ∨ j.Kind = 3
  · simp only [az6 h, if_pos h, Dzd, Option.bind_some, az7, nz5, tzx, jze]
    rw [w64 (by omega) (by omega)]
  · simp only [az5 h, if_neg h]
    by_cases h' : j.Kind = 4 ∨ j.Kind = 5 ∨ j.Kind = 6
    · simp only [az6 h', if_pos h', Wz5 _ _ h', az7, nz5, tzx, jze, Option.bind_some]
    · simp only [az5 h', if_neg h', az7, nz5, tzx, jze, Option.bind_some]
theorem fza {R : Type} {f : Int → Option (Step3 Int U0 R)} {k : U0 → Option R} (g : Nat → Option R) (n : Nat) (hn : n < 4294967296)
    (hs : ∀ j, j < n → f (j : Int) = match g j with | some r => some (.fin r) | none => some (.next ((j + 1 : Nat) : Int))) (he : f (n : Int) = some (.out .u)) :
    andK (iter f NN 0) k = match scan g n 0 with | some r => some r | none => k .u := lzs (fun j => (j : Int)) g .u n rfl hn hs he
theorem wn {n : Nat} (h : n < 4294967296) : IntKind.i64.wrap ((n : Int) + 1) = ((n + 1 : Nat) : Int) := w64n (by omega)
def sw {R : Type} (b : Bool) (r : R) : Option R := bif b then some r else none
theorem dzl {σ τ R : Type} {b : Bool} {r : R} {x : σ} : (bif b then some (.fin r) else some (.next x) : Option (Step3 σ τ R)) = match sw b r with | some r => some (.fin r) | none => some (.next x) := by cases b <;> rfl
def bzk (g : Nat → Bool) (n : Nat) : Bool := decide (∀ i, i < n → g i = false)
theorem cz8 {R : Type} {g : Nat → Bool} {n : Nat} {r : R} : scan (fun i => sw (g i) r) n 0 = sw (!bzk g n) r := by
  cases h : scan (fun i => sw (g i) r) n 0 with
  | none =>
    rw [mz8] at h
    have : bzk g n = true := decide_eq_true fun i hi => by
      have := h i (Nat.zero_le _) (by omega)
      unfold sw at this
      cases hg : g i with
      | true => rw [hg] at this; cases this
      | false => rfl
    rw [this]; rfl
  | some x =>
    obtain ⟨j, h1, h2, h3, -⟩ := gz6 _ _ h
    have : bzk g n = false := decide_eq_false fun hn => by
      have := hn j (by omega)
      simp only [this, sw, cond_false] at h3; cases h3
    rw [this]
    unfold sw at h3 ⊢
    cases hg : g j with
    | true => rw [hg] at h3; simpa using h3.symm
    | false => rw [hg] at h3; cases h3
theorem noneB_iff {g : Nat → Bool} {n : Nat} : bzk g n = true ↔ ∀ i, i < n → g i = false := by simp [bzk]
theorem Szl (s : ByteArray) (i : Nat) : s.get! i = s.data.getD i 0 := by
  cases s with | mk d => simp only [ByteArray.get!]; rw [getElem!_def, Array.getD_eq_getD_getElem?]; cases d[i]? <;> rfl
def Bza (s : ByteArray) (i : Nat) : Nat := (s.data.getD i 0).toNat
theorem Szh {s : ByteArray} {i : Nat} (h : Bza s i < 128) : Utf8.decode s i = (Bza s i, 1) := by
  rw [Lib.decode_at, Szl]; exact if_pos h
theorem Vz9 {s : ByteArray} {i : Nat} (h : 128 ≤ Bza s i) : 128 ≤ (Utf8.decode s i).1 := by
  rw [Lib.decode_at, Szl]
  unfold Lib.decodeN
  rw [if_neg (by unfold Bza at h; omega)]
  repeat' split
  all_goals (simp only; omega)
def badN (s : ByteArray) (i : Nat) : Bool := decide (¬ (97 ≤ Bza s i ∧ Bza s i ≤ 122) ∧ (i = 0 ∨ (Bza s i ≠ 95 ∧ ¬ (48 ≤ Bza s i ∧ Bza s i ≤ 57))))
def Lz1 (s : ByteArray) : Bool := !(decide (s.size = 0) || (decide (16 < s.size) || (s == ⟨#[119, 111, 114, 108, 100]⟩))) && bzk (badN s) s.size
theorem Lzg (s : ByteArray) : (Dzi s).o = some (Lz1 s) := by
  show (wzq s).run NN = _
  simp only [wzq, T.run, azw, az7, Lz1, czr]
  have e1 : decide ((s.size : Int) < 1) = decide (s.size = 0) := by congr 1; apply propext; omega
  have e2 : decide ((s.size : Int) > 16) = decide (16 < s.size) := by congr 1; apply propext; omega
  rw [e1, e2]
  cases h : (decide (s.size = 0) || (decide (16 < s.size) || (s == ⟨#[119, 111, 114, 108, 100]⟩)))
  · simp only [Bool.or_eq_false_iff, decide_eq_false_iff_not] at h
    rw [cond_false]
    refine (fza (fun i => sw (badN s i) false) s.size (by omega) (fun j hj => ?_) ?_).trans ?_
    · rw [az6 (by omega), ← dzl, wn (by omega)]
      simp only [Int.toNat_natCast, az8 (show 0 ≤ (j : Int) ∧ (j : Int) < (s.size : Int) by omega), azw, az7]
      refine congrArg (fun b => bif b then some (Step3.fin false) else some (Step3.next ((j + 1 : Nat) : Int))) ?_
      rw [Bool.eq_iff_iff]
      simp only [czr, kzp, badN, Bool.and_eq_true, Bool.or_eq_true, Bool.not_eq_true', Bool.and_eq_false_iff, Bool.or_eq_false_iff, decide_eq_true_eq, decide_eq_false_iff_not, beq_iff_eq, bne_iff_ne, ne_eq]
      unfold Bza
      omega
    · rw [az5 (by omega)]
    · rw [cz8]
      cases bzk (badN s) s.size <;> rfl
  · rfl
theorem Bzo (a : Int) : (szb a).o = some (decide (97 ≤ a) && decide (a ≤ 122)) := by
  show (kzo a).run NN = _
  simp only [kzo, T.run, czf, kzp]
theorem Dzx (a : Int) : (uzk a).o = some (decide (48 ≤ a) && decide (a ≤ 57)) := by
  show (mzh a).run NN = _
  simp only [mzh, T.run, czf, kzp]
theorem Kz5 (s : ByteArray) : (Bz8 s).o = some (Lz1 s) := by
  show (uzj s).run NN = _
  simp only [uzj, T.run, azw, az7, Lz1, czr]
  have e1 : ((s.size : Int) == 0) = decide (s.size = 0) := by rw [Bool.eq_iff_iff]; simp
  have e2 : decide ((s.size : Int) > 16) = decide (16 < s.size) := by congr 1; apply propext; omega
  rw [e1, e2]
  cases h : (decide (s.size = 0) || (decide (16 < s.size) || (s == ⟨#[119, 111, 114, 108, 100]⟩)))
  · simp only [Bool.or_eq_false_iff, decide_eq_false_iff_not] at h
    rw [cond_false]
    refine (lzs (fun j => j) (fun i => sw (badN s i) false) .u s.size rfl (show s.size < 4294967296 by omega) (fun j hj => ?_) ?_).trans ?_
    · rw [az6 hj]
      simp only [Bzo, Dzx, Option.bind_some, azw, az7]
      have key : (bif !(decide (97 ≤ ((Utf8.decode s j).1 : Int)) && decide (((Utf8.decode s j).1 : Int) ≤ 122)) then bif ((j : Int) == 0) then true else
          bif !(decide (48 ≤ ((Utf8.decode s j).1 : Int)) && decide (((Utf8.decode s j).1 : Int) ≤ 57)) then ((Utf8.decode s j).1 : Int) != 95 else false else false) = badN s j := by
        by_cases hb : Bza s j < 128
        · rw [Szh hb, Bool.eq_iff_iff]
          simp only [czr, kzp, badN, Bool.and_eq_true, Bool.or_eq_true, Bool.not_eq_true', Bool.and_eq_false_iff, Bool.or_eq_false_iff, decide_eq_true_eq, decide_eq_false_iff_not, beq_iff_eq, bne_iff_ne, ne_eq]
          omega
        · have := Vz9 (s := s) (i := j) (by omega)
          rw [Bool.eq_iff_iff]
          simp only [czr, kzp, badN, Bool.and_eq_true, Bool.or_eq_true, Bool.not_eq_true', Bool.and_eq_false_iff, Bool.or_eq_false_iff, decide_eq_true_eq, decide_eq_false_iff_not, beq_iff_eq, bne_iff_ne, ne_eq]
          omega
      rw [key]
      cases hbad : badN s j
      · have : Bza s j < 128 := by
          simp only [badN, decide_eq_false_iff_not] at hbad
          omega
        rw [Szh this]; rfl
      · rfl
    · rw [az5 (by omega)]
    · rw [cz8]
      cases bzk (badN s) s.size <;> rfl
  · rfl
def xz7 (l : List azi) (nm : ByteArray) (i : Nat) : Bool := (l.getD i default).Name == nm
theorem Jzs (r : azm) (nm : ByteArray) (h : r.Joints.length < 4294967296) : (Bz3 r nm).o = some (match scan (fun i => sw (xz7 r.Joints nm i) (i : Int)) r.Joints.length 0 with | some x => x | none => -1) := by
  show (uz9 r nm).run NN = _
  simp only [uz9, T.run]
  refine (fza (fun i => sw (xz7 r.Joints nm i) (i : Int)) r.Joints.length h (fun j hj => ?_) ?_).trans ?_
  · rw [az6 (by omega), az8 (by omega), wn (by omega), Int.toNat_natCast, ← dzl]; rfl
  · rw [az5 (by omega)]
  · cases scan (fun i => sw (xz7 r.Joints nm i) (i : Int)) r.Joints.length 0 <;> rfl
theorem Tz7 (b : ByteArray) : (b == b) = true := by
  obtain ⟨d⟩ := b
  show (d == d) = true
  exact beq_self_eq_true d
theorem Tzj {l : List azi} {i : Nat} (hi : i < l.length) : ((match scan (fun k => sw (xz7 l (l.getD i default).Name k) (k : Int)) l.length 0 with | some x => x | none => -1) != (i : Int)) = !bzk (xz7 l (l.getD i default).Name) i := by
  have hself : xz7 l (l.getD i default).Name i = true := Tz7 _
  cases h : scan (fun k => sw (xz7 l (l.getD i default).Name k) (k : Int)) l.length 0 with
  | none =>
    rw [mz8] at h
    have := h i (Nat.zero_le _) (by omega)
    simp only [hself, sw, cond_true] at this; cases this
  | some x =>
    obtain ⟨j, h1, h2, h3, h4⟩ := gz6 _ _ h
    have hj : xz7 l (l.getD i default).Name j = true ∧ x = (j : Int) := by
      cases hb : xz7 l (l.getD i default).Name j with
      | false => simp only [hb, sw, cond_false] at h3; cases h3
      | true => simp only [hb, sw, cond_true, Option.some.injEq] at h3; exact ⟨rfl, h3.symm⟩
    have hji : j ≤ i := by
      by_cases e : j ≤ i
      · exact e
      · have := h4 i (Nat.zero_le _) (by omega)
        simp only [hself, sw, cond_true] at this; cases this
    simp only [hj.2]
    rw [Bool.eq_iff_iff]
    rw [bne_iff_ne, Bool.not_eq_true', ← Bool.not_eq_true]
    constructor
    · intro hne hall
      have := noneB_iff.1 hall j (by omega)
      rw [hj.1] at this; cases this
    · intro hn e
      apply hn
      rw [noneB_iff]
      intro k hk
      have := h4 k (Nat.zero_le _) (by omega)
      cases hb : xz7 l (l.getD i default).Name k with
      | false => rfl
      | true => simp only [hb, sw, cond_true] at this; cases this
def fz6 (v : Int × Int × Int) (m : Int) : Bool := decide (-m ≤ v.1) && (decide (v.1 ≤ m) && (decide (-m ≤ v.2.1) && (decide (v.2.1 ≤ m) && (decide (-m ≤ v.2.2) && decide (v.2.2 ≤ m)))))
theorem nearV_iff {v : Int × Int × Int} {m : Int} : fz6 v m = true ↔ (-m ≤ v.1 ∧ v.1 ≤ m) ∧ (-m ≤ v.2.1 ∧ v.2.1 ≤ m) ∧ (-m ≤ v.2.2 ∧ v.2.2 ≤ m) := by
  simp only [fz6, Bool.and_eq_true, decide_eq_true_eq, and_assoc]
theorem ezi (v : Int × Int × Int) {m : Int} (h0 : 0 ≤ m) (h1 : m ≤ 9223372036854775807) : (dzy v m).o = some (fz6 v m) := by
  show (wzr v m).run NN = _
  simp only [wzr, T.run, T.ix, azw, az7]
  simp only [czf]
  rw [w64 (x := 0 - m) (by omega) (by omega)]
  congr 1
  rw [Bool.eq_iff_iff, nearV_iff]
  simp only [czr]
  cases h1 : decide (v.1 < 0 - m) || decide (v.1 > m) <;> cases h2 : decide (v.2.1 < 0 - m) || decide (v.2.1 > m) <;> cases h3 : decide (v.2.2 < 0 - m) || decide (v.2.2 > m) <;>
    simp only [Bool.or_eq_true, Bool.or_eq_false_iff, decide_eq_true_eq, decide_eq_false_iff_not] at h1 h2 h3 <;> simp only [cond_true, cond_false, true_iff, false_iff, reduceCtorEq] <;> omega
def bey (x : Int) : Bool := decide (x < -4194304) || decide (x > 4194304)
theorem vzy (v : Int × Int × Int) : (ozo v).o = some (!fz6 v 4194304) := by
  show (ozp v).run NN = _
  simp only [ozp, T.run, azw, az7, czr]
  refine (fza (fun i => sw (bey (([v.1, v.2.1, v.2.2] : List Int).getD i 0)) true) 3 (by decide) (fun j hj => ?_) ?_).trans ?_
  · rw [az6 (by omega), az8 (by omega), wn (by omega), Int.toNat_natCast, ← dzl]; rfl
  · rw [az5 (by omega)]
  · rw [cz8]
    have : bzk (fun i => bey (([v.1, v.2.1, v.2.2] : List Int).getD i 0)) 3 = fz6 v 4194304 := by
      rw [Bool.eq_iff_iff, noneB_iff, nearV_iff]
      constructor
      · intro h
        have a := h 0 (by decide); have b := h 1 (by decide); have c := h 2 (by decide)
        simp only [bey, List.getD_cons_zero, List.getD_cons_succ, Bool.or_eq_false_iff, decide_eq_false_iff_not] at a b c
        omega
      · intro h i hi
        match i, hi with
        | 0, _ => simp only [bey, List.getD_cons_zero, Bool.or_eq_false_iff, decide_eq_false_iff_not]; omega
        | 1, _ => simp only [bey, List.getD_cons_zero, List.getD_cons_succ, Bool.or_eq_false_iff, decide_eq_false_iff_not]; omega
        | 2, _ => simp only [bey, List.getD_cons_zero, List.getD_cons_succ, Bool.or_eq_false_iff, decide_eq_false_iff_not]; omega
    rw [this]; cases fz6 v 4194304 <;> rfl
def jzo (k : Int) : Int := if k = 0 then 0 else if k = 1 ∨ k = 2 ∨ k = 3 then 524288 else 4194304
theorem Hzk {k : Int} (h0 : 0 ≤ k) (h1 : k ≤ 6) : (yzf k).o = some (jzo k) := by
  show (rzc k).run NN = _
  simp only [rzc, T.run, Nze, az7, jzo]
  by_cases h : k = 1 ∨ k = 2 ∨ k = 3
  · rw [az6 h, if_neg (by omega), if_pos h]
  · rw [az5 h]
    by_cases h' : k = 4 ∨ k = 5 ∨ k = 6
    · rw [az6 h', if_neg (by omega), if_neg h]
    · rw [az5 h', if_pos (by omega)]
theorem Jzq (k : Int) : (Bz0 k).o = some (jzo k) := by
  show (uz5 k).run NN = _
  simp only [uz5, T.run, Nze, az7, jzo]
  by_cases h0 : k = 0
  · rw [dzm h0, if_pos h0]
  · rw [dzn h0, if_neg h0]
    by_cases h : k = 1 ∨ k = 2 ∨ k = 3
    · rw [az6 h, if_pos h]
    · rw [az5 h, if_neg h]
def betV (x a b : Int) : Bool := decide (a ≤ x) && decide (x ≤ b)
theorem yze (x m : Int) : (fzl x m).o = some (betV x 1 m) := by
  show (rzb x m).run NN = _
  simp only [rzb, T.run, czf, kzp, betV]
theorem ozn (x a b : Int) : (dzz x a b).o = some (betV x a b) := by
  show (ozm x a b).run NN = _
  simp only [ozm, T.run, czf, kzp, betV]
def Qzu (j : azi) : Bool := betV j.Weight 1 1024 && (betV j.Speed 1 1048576 && (betV j.Accel 1 1048576 && betV j.Torque 1 1099511627776))
def tz1 (l : List azi) (i : Nat) : Int :=
  let j := l.getD i default
  if !Lz1 j.Name || !bzk (xz7 l j.Name) i then 802 else if decide (j.Kind < 0) || decide (j.Kind > 6) then 803 else if decide (j.Parent < -1) || decide (j.Parent ≥ (i : Int)) then 804 else if !fz6 j.Offset 4194304 then 805 else
  if decide (j.Lo > j.Hi) || (decide (j.Lo < -jzo j.Kind) || decide (j.Hi > jzo j.Kind)) then 806 else if !Qzu j then 807 else 0
theorem Vz5 : ∀ a b c d : Bool, (bif !a || (!b || (!c || !d)) then some (807 : Int) else some 0) = some (if (!(a && (b && (c && d)))) = true then 807 else 0) := by decide
theorem Rzm (k : Int) : 0 ≤ jzo k ∧ jzo k ≤ 4194304 := by unfold jzo; split <;> (try split) <;> omega
theorem Jz9 (k : Int) : IntKind.i64.wrap (0 - jzo k) = -jzo k := by
  have := Rzm k; rw [w64 (by omega) (by omega)]; omega
theorem yzd (r : azm) {i : Nat} (hi : i < r.Joints.length) (h : r.Joints.length < 4294967296) : (nz7 r (i : Int)).o = some (tz1 r.Joints i) := by
  show (hzx r (i : Int)).run NN = _
  simp only [hzx, T.run]
  rw [az8 (by omega), Int.toNat_natCast]
  simp only [Kz5, Jzs r _ h, vzy, yze, Option.bind_some, azw, az7, tz1]
  rw [Tzj hi]
  generalize r.Joints.getD i default = j
  cases h1 : Lz1 j.Name
  · rfl
  · cases h2 : bzk (xz7 r.Joints j.Name) i
    · rfl
    · simp only [Bool.not_true, cond_false, Bool.or_self, if_neg Bool.false_ne_true]
      by_cases h3 : j.Kind < 0
      · rw [decide_eq_true h3]; rfl
      · by_cases h4 : j.Kind > 6
        · rw [decide_eq_true h4, decide_eq_false h3]; rfl
        · simp only [decide_eq_false h3, decide_eq_false h4, cond_false, Bool.or_self, if_neg Bool.false_ne_true, Hzk (show 0 ≤ j.Kind by omega) (by omega), Option.bind_some, Jz9, azw, az7, czr]
          cases decide (j.Parent < -1) || decide (j.Parent ≥ (i : Int))
          · cases fz6 j.Offset 4194304
            · rfl
            · simp only [Bool.not_true, cond_false, if_neg Bool.false_ne_true]
              cases decide (j.Lo > j.Hi) || (decide (j.Lo < -jzo j.Kind) || decide (j.Hi > jzo j.Kind))
              · simp only [cond_false, if_neg Bool.false_ne_true, Qzu]
                exact Vz5 _ _ _ _
              · rfl
          · rfl
theorem Az4 (l : List azi) {i : Nat} (hi : i < l.length) (h : l.length < 4294967296) : (pzg l (i : Int)).o = some (tz1 l i) := by
  show (izq l (i : Int)).run NN = _
  simp only [izq, T.run]
  rw [az8 (by omega), Int.toNat_natCast]
  simp only [Lzg, Option.bind_some, tz1]
  cases h1 : Lz1 (l.getD i default).Name
  · rfl
  · simp only [Bool.not_true, cond_false, Bool.false_or]
    refine (fza (fun k => sw (xz7 l (l.getD i default).Name k) 802) i (by omega) (fun j hj => ?_) ?_).trans ?_
    · rw [az6 (by omega), az8 (by omega), wn (by omega), Int.toNat_natCast, ← dzl]; rfl
    · rw [az5 (by omega)]
    · rw [cz8]
      generalize l.getD i default = j
      cases h2 : bzk (xz7 l j.Name) i
      · rfl
      · simp only [Bool.not_true, sw, cond_false, if_neg Bool.false_ne_true, ezi _ (show (0 : Int) ≤ 4194304 by decide) (by decide), Jzq, ozn, Option.bind_some, Jz9, azw, az7, czr]
        cases decide (j.Kind < 0) || decide (j.Kind > 6)
        · cases decide (j.Parent < -1) || decide (j.Parent ≥ (i : Int))
          · cases fz6 j.Offset 4194304
            · rfl
            · simp only [Bool.not_true, cond_false, if_neg Bool.false_ne_true]
              cases decide (j.Lo > j.Hi) || (decide (j.Lo < -jzo j.Kind) || decide (j.Hi > jzo j.Kind))
              · simp only [cond_false, if_neg Bool.false_ne_true, Qzu]
                exact Vz5 _ _ _ _
              · rfl
          · rfl
        · rfl
def tab {α : Type} (f : Nat → α) (n : Nat) : List α := (List.range n).map f
theorem iz4 {α : Type} (f : Nat → α) (n : Nat) : tab f (n + 1) = tab f n ++ [f n] := by simp [tab, List.range_succ]
theorem bzv {α : Type} (f : Nat → α) (n : Nat) : (tab f n).length = n := by simp [tab]
theorem kzn {α : Type} {f : Nat → α} {n i : Nat} {d : α} (h : i < n) : (tab f n).getD i d = f i := by simp [tab, List.getD_eq_getElem?_getD, h]
def half {α : Type} (f : Nat → α) (z : α) (n j : Nat) : List α := tab f j ++ List.replicate (n - j) z
theorem mzo {α : Type} {f : Nat → α} {z : α} {n j : Nat} (h : j ≤ n) : (half f z n j).length = n := by simp [half, bzv]; omega
theorem jz5 {α : Type} {f : Nat → α} {z : α} {n j : Nat} (h : j < n) : (half f z n j).set j (f j) = half f z n (j + 1) := by
  unfold half
  rw [List.set_append_right _ _ (by rw [bzv]; omega), bzv, Nat.sub_self]
  obtain ⟨m, hm⟩ : ∃ m, n - j = m + 1 := ⟨n - j - 1, by omega⟩
  rw [hm, List.replicate_succ, List.set_cons_zero, iz4, show n - (j + 1) = m by omega]; simp
theorem lzp {α : Type} (f : Nat → α) (z : α) (n : Nat) : half f z n 0 = List.replicate n z := by simp [half, tab]
theorem qz8 {α : Type} (f : Nat → α) (z : α) (n : Nat) : half f z n n = tab f n := by simp [half]
def Nzf (n : Nat) (m : bza) : Bool := (decide (0 ≤ m.Link) && decide (m.Link < (n : Int))) && (betV m.Mass 1 65536 && fz6 m.Point 4194304)
theorem Az5 (r : azm) (m : bza) : (pzh r m).o = some (Nzf r.Joints.length m) := by
  show (izu r m).run NN = _
  simp only [izu, T.run, yze, vzy, Option.bind_some, Nzf]
  cases decide (0 ≤ m.Link) <;> cases decide (m.Link < (r.Joints.length : Int)) <;> cases betV m.Mass 1 65536 <;> cases fz6 m.Point 4194304 <;> rfl
def badM (n : Nat) (l : List bza) (i : Nat) : Bool := !Nzf n (l.getD i default)
theorem Tzq (l : List bza) (js : List azi) (ms : List bza) (h : l.length < 4294967296) : (dze l js ms).o = some (match scan (fun i => sw (badM js.length l i) (i : Int)) l.length 0 with | some x => x | none => -1, js, ms) := by
  show (cz3 l js ms).run NN = _
  simp only [cz3, T.run]
  have e1 : ∀ m, (uz8 m js ms).o = some (!Nzf js.length m, js, ms) := fun m => by
    show (mz7 m js ms).run NN = _
    simp only [mz7, T.run, Az5, Option.bind_some]
  refine (lzs (fun j => (js, ms, (j : Int))) (fun i => sw (badM js.length l i) ((i : Int), js, ms)) (js, ms) l.length rfl h (fun j hj => ?_) ?_).trans ?_
  · rw [az6 (by simpa using hj), az8 ⟨by simp, by simpa using hj⟩]
    simp only [e1, Option.bind_some, Int.toNat_natCast]
    rw [wn (by omega)]; unfold badM; cases Nzf js.length (l.getD j default) <;> rfl
  · rw [az5 (by simp)]
  · have : ∀ n i, scan (fun i => sw (badM js.length l i) ((i : Int), js, ms)) n i = (scan (fun i => sw (badM js.length l i) (i : Int)) n i).map fun x => (x, js, ms) := by
      intro n
      induction n with
      | zero => intro i; rfl
      | succ n ih =>
        intro i; simp only [scan]
        cases badM js.length l i with
        | true => rfl
        | false => exact ih (i + 1)
    rw [this]
    cases scan (fun i => sw (badM js.length l i) (i : Int)) l.length 0 <;> rfl
theorem Lzt {g : Nat → Bool} {n : Nat} : decide ((match scan (fun i => sw (g i) (i : Int)) n 0 with | some x => x | none => -1) ≥ 0) = !bzk g n := by
  cases h : scan (fun i => sw (g i) (i : Int)) n 0 with
  | none =>
    rw [mz8] at h
    have : bzk g n = true := noneB_iff.2 fun i hi => by
      have := h i (Nat.zero_le _) (by omega)
      cases hg : g i with
      | true => rw [hg] at this; cases this
      | false => rfl
    rw [this]; rfl
  | some x =>
    obtain ⟨j, h1, h2, h3, -⟩ := gz6 _ _ h
    cases hg : g j with
    | false => rw [hg] at h3; cases h3
    | true =>
      rw [hg] at h3; simp only [sw, cond_true, Option.some.injEq] at h3
      have : bzk g n = false := by
        cases hn : bzk g n with
        | false => rfl
        | true => have := noneB_iff.1 hn j (by omega); rw [hg] at this; cases this
      rw [this, ← h3]; simp
theorem Tz9 (l : List bza) (js : List azi) (ms : List bza) (h : l.length < 4294967296) : (czy l js ms).o = some (!bzk (badM js.length l) l.length, js, ms) := by
  show (bzr l js ms).run NN = _
  simp only [bzr, T.run, Tzq l js ms h, Option.bind_some]
  rw [Lzt]
def errJ (l : List azi) (i : Nat) : Option Int := sw (tz1 l i != 0) (tz1 l i)
def iz5 (r : azm) : Int :=
  if r.Joints.length = 0 ∨ 10 < r.Joints.length then 801 else match scan (errJ r.Joints) r.Joints.length 0 with
    | some e => e
    | none => if 32 < r.Masses.length ∨ bzk (badM r.Joints.length r.Masses) r.Masses.length = false then 808 else 0
theorem yzc (r : azm) : (rz9 r).o = some (iz5 r) := by
  show (rza r).run NN = _
  simp only [rza, T.run, azw, az7, iz5]
  by_cases h : r.Joints.length = 0 ∨ 10 < r.Joints.length
  · rw [if_pos h]
    rcases h with h | h
    · rw [dzm (by omega)]; rfl
    · rw [dzn (by omega), az6 (by omega)]
  · rw [if_neg h, dzn (by omega), az5 (by omega)]
    refine (fza (errJ r.Joints) r.Joints.length (by omega) (fun j hj => ?_) ?_).trans ?_
    · rw [az6 (by omega)]
      simp only [yzd ⟨r.Joints, r.Masses⟩ hj (show r.Joints.length < 4294967296 by omega), Option.bind_some]
      rw [wn (by omega), dzl]; rfl
    · rw [az5 (by omega)]
    · cases scan (errJ r.Joints) r.Joints.length 0 with
      | some e => rfl
      | none =>
        simp only
        by_cases hm : 32 < r.Masses.length
        · rw [az6 (by omega), if_pos (Or.inl hm)]; rfl
        · rw [az5 (by omega), Tz9 _ _ _ (by omega)]
          cases hn : bzk (badM r.Joints.length r.Masses) r.Masses.length
          · rw [if_pos (Or.inr rfl)]; rfl
          · rw [if_neg (by simp; omega)]; rfl
theorem dzf (r : azm) : (czq r).o = some (iz5 r) := by
  show (izo r).run NN = _
  simp only [izo, T.run, azw, az7, iz5]
  by_cases h : r.Joints.length = 0 ∨ 10 < r.Joints.length
  · rw [if_pos h]
    rcases h with h | h
    · rw [az6 (by omega)]; rfl
    · rw [az5 (by omega), az6 (by omega)]
  · rw [if_neg h, az5 (by omega), az5 (by omega)]
    refine (fza (errJ r.Joints) r.Joints.length (by omega) (fun j hj => ?_) ?_).trans ?_
    · rw [az6 (by omega)]
      simp only [Az4 r.Joints hj (show r.Joints.length < 4294967296 by omega), Option.bind_some]
      rw [wn (by omega), dzl]; rfl
    · rw [az5 (by omega)]
    · cases scan (errJ r.Joints) r.Joints.length 0 with
      | some e => rfl
      | none =>
        simp only
        by_cases hm : 32 < r.Masses.length
        · rw [az6 (by omega), if_pos (Or.inl hm)]
        · rw [az5 (by omega)]
          refine (fza (fun i => sw (badM r.Joints.length r.Masses i) 808) r.Masses.length (by omega) (fun j hj => ?_) ?_).trans ?_
          · rw [az6 (by omega), az8 (by omega), wn (by omega), Int.toNat_natCast, ← dzl]
            simp only [ozn, ezi _ (show (0 : Int) ≤ 4194304 by decide) (by decide), Option.bind_some, azw, az7]
            refine congrArg (fun b => bif b then some (Step3.fin 808) else some (Step3.next ((j + 1 : Nat) : Int))) ?_
            unfold badM Nzf
            generalize r.Masses.getD j default = m
            have e1 : decide (m.Link < 0) = !decide (0 ≤ m.Link) := by rw [Bool.eq_iff_iff]; simp
            have e2 : decide (m.Link ≥ (r.Joints.length : Int)) = !decide (m.Link < (r.Joints.length : Int)) := by rw [Bool.eq_iff_iff]; simp
            rw [e1, e2]
            cases decide (0 ≤ m.Link) <;> cases decide (m.Link < (r.Joints.length : Int)) <;> cases betV m.Mass 1 65536 <;> cases fz6 m.Point 4194304 <;> rfl
          · rw [az5 (by omega)]
          · rw [cz8]
            cases hn : bzk (badM r.Joints.length r.Masses) r.Masses.length
            · rw [if_pos (Or.inr rfl)]; rfl
            · rw [if_neg (by simp; omega)]; rfl
theorem gz5 {r : azm} (h : iz5 r = 0) : 1 ≤ r.Joints.length ∧ r.Joints.length ≤ 10 ∧ ∀ i, i < r.Joints.length → tz1 r.Joints i = 0 := by
  unfold iz5 at h
  split at h
  · cases h
  · refine ⟨by omega, by omega, fun i hi => ?_⟩
    split at h
    · rename_i e he
      obtain ⟨j, -, -, h3, -⟩ := gz6 _ _ he
      unfold errJ sw at h3
      cases hb : tz1 r.Joints j != 0 with
      | false => rw [hb] at h3; cases h3
      | true =>
        rw [hb] at h3; simp only [cond_true, Option.some.injEq] at h3
        simp only [bne_iff_ne] at hb
        rw [h3] at hb; exact absurd h hb
    · rename_i he
      have := (mz8 _ _).1 he i (Nat.zero_le _) (by omega)
      unfold errJ sw at this
      cases hb : tz1 r.Joints i != 0 with
      | false => simpa using hb
      | true => rw [hb] at this; cases this
def jzk (n : Nat) (k : Int) : Bool := decide (-1 ≤ k) && decide (k < (n : Int))
theorem vzz (s : aza) (k : Int) : (jzf s k).o = some (jzk s.Robot.Joints.length k) := by
  show (ozq s k).run NN = _
  simp only [ozq, T.run, czf, kzp, jzk]
theorem hzu (r : azm) (k : Int) : (dz7 r k).o = some (jzk r.Joints.length k) := by
  show (rz6 r k).run NN = _
  simp only [rz6, T.run, czf, kzp, jzk, ge_iff_le]
def farP (l : List (Int × Int × Int)) (i : Nat) : Bool := !fz6 (l.getD i default) 4194304
def wz0 (n : Nat) (x : azn) : Int :=
  if (jzk n x.Link && betV x.Radius 1 1048576) = false ∨ x.Points.length = 0 ∨ 8 < x.Points.length then 902 else if bzk (farP x.Points) x.Points.length then 0 else 805
theorem far3 (v : Int × Int × Int) : bzk (fun i => bey (([v.1, v.2.1, v.2.2] : List Int).getD i 0)) 3 = fz6 v 4194304 := by
  rw [Bool.eq_iff_iff, noneB_iff, nearV_iff]
  constructor
  · intro h
    have a := h 0 (by decide); have b := h 1 (by decide); have c := h 2 (by decide)
    simp only [bey, List.getD_cons_zero, List.getD_cons_succ, Bool.or_eq_false_iff, decide_eq_false_iff_not] at a b c
    omega
  · intro h i hi
    match i, hi with
    | 0, _ => simp only [bey, List.getD_cons_zero, Bool.or_eq_false_iff, decide_eq_false_iff_not]; omega
    | 1, _ => simp only [bey, List.getD_cons_zero, List.getD_cons_succ, Bool.or_eq_false_iff, decide_eq_false_iff_not]; omega
    | 2, _ => simp only [bey, List.getD_cons_zero, List.getD_cons_succ, Bool.or_eq_false_iff, decide_eq_false_iff_not]; omega
theorem yzj (s : aza) (x : azn) : (nz9 s x).o = some (wz0 s.Robot.Joints.length x) := by
  show (iz1 s x).run NN = _
  simp only [iz1, T.run, vzz, Option.bind_some, azw, az7, wz0]
  cases hl : jzk s.Robot.Joints.length x.Link
  · rfl
  · simp only [Bool.not_true, cond_false, Bool.true_and]
    by_cases h1 : x.Radius < 1
    · rw [az6 h1, if_pos]; · rfl
      simp [betV]; omega
    · rw [az5 h1]
      by_cases h2 : x.Radius > 1048576
      · rw [az6 h2, if_pos]; · rfl
        simp [betV]; omega
      · rw [az5 h2]
        by_cases h3 : x.Points.length = 0
        · rw [az6 (by omega), if_pos (Or.inr (Or.inl h3))]; rfl
        · rw [az5 (by omega)]
          by_cases h4 : 8 < x.Points.length
          · rw [az6 (by omega), if_pos (Or.inr (Or.inr h4))]
          · have hb : betV x.Radius 1 1048576 = true := by simp [betV]; omega
            rw [az5 (by omega), hb, if_neg (fun h5 => by rcases h5 with h5 | h5 | h5; · cases h5
                                                         · omega
                                                         · omega)]
            refine (fza (fun i => sw (farP x.Points i) 805) x.Points.length (by omega) (fun j hj => ?_) ?_).trans ?_
            · rw [az6 (by omega), az8 (by omega), Int.toNat_natCast, wn (by omega)]
              refine (fza (fun i => sw (bey (([(x.Points.getD j default).1, (x.Points.getD j default).2.1, (x.Points.getD j default).2.2] : List Int).getD i 0)) (Step3.fin 805)) 3 (by decide) (fun k hk => ?_) ?_).trans ?_
              · rw [az6 (by omega), az8 (by omega), wn (by omega), Int.toNat_natCast, ← dzl]
                simp only [czr]; rfl
              · rw [az5 (by omega)]
              · rw [cz8, far3]; unfold farP
                cases fz6 (x.Points.getD j default) 4194304 <;> rfl
            · rw [az5 (by omega)]
            · rw [cz8]; cases bzk (farP x.Points) x.Points.length <;> rfl
def errS (n : Nat) (l : List azn) (i : Nat) : Option Int := sw (wz0 n (l.getD i default) != 0) (wz0 n (l.getD i default))
def badK (n : Nat) (l : List ezc) (i : Nat) : Bool := !(jzk n (l.getD i default).A && jzk n (l.getD i default).B)
def czp (s : aza) : Int :=
  if iz5 s.Robot ≠ 0 then iz5 s.Robot else if 24 < s.Shapes.length then 901 else match scan (errS s.Robot.Joints.length s.Shapes) s.Shapes.length 0 with
    | some e => e
    | none => if 64 < s.Skips.length then 903 else if bzk (badK s.Robot.Joints.length s.Skips) s.Skips.length then 0 else 903
theorem iz0 (s : aza) : (ezj s).o = some (czp s) := by
  show (rzd s).run NN = _
  simp only [rzd, T.run, yzc, Option.bind_some, czp]
  by_cases h : iz5 s.Robot = 0
  · rw [cze h, if_neg (by simpa using h)]
    by_cases h1 : 24 < s.Shapes.length
    · rw [az6 (by omega), if_pos h1]
    · rw [az5 (by omega), if_neg h1]
      refine (fza (errS s.Robot.Joints.length s.Shapes) s.Shapes.length (by omega) (fun j hj => ?_) ?_).trans ?_
      · rw [az6 (by omega), az8 (by omega), wn (by omega), Int.toNat_natCast]
        simp only [yzj, Option.bind_some]
        rw [dzl]; rfl
      · rw [az5 (by omega)]
      · cases scan (errS s.Robot.Joints.length s.Shapes) s.Shapes.length 0 with
        | some e => rfl
        | none =>
          simp only
          by_cases h2 : 64 < s.Skips.length
          · rw [az6 (by omega), if_pos h2]
          · rw [az5 (by omega), if_neg h2]
            refine (fza (fun i => sw (badK s.Robot.Joints.length s.Skips i) 903) s.Skips.length (by omega) (fun j hj => ?_) ?_).trans ?_
            · rw [az6 (by omega), az8 (by omega), wn (by omega), Int.toNat_natCast, ← dzl]
              simp only [vzz, Option.bind_some, azw, az7, badK]
              cases jzk s.Robot.Joints.length (s.Skips.getD j default).A <;> cases jzk s.Robot.Joints.length (s.Skips.getD j default).B <;> rfl
            · rw [az5 (by omega)]
            · rw [cz8]; cases bzk (badK s.Robot.Joints.length s.Skips) s.Skips.length <;> rfl
  · rw [dzv h, if_pos h]
theorem fzk (s : aza) : (ezb s).o = some (czp s) := by
  show (izp s).run NN = _
  simp only [izp, T.run, dzf, Option.bind_some, czp]
  by_cases h : iz5 s.Robot = 0
  · rw [cze h, if_neg (by simpa using h)]
    by_cases h1 : 24 < s.Shapes.length
    · rw [az6 (by omega), if_pos h1]
    · rw [az5 (by omega), if_neg h1]
      refine (fza (errS s.Robot.Joints.length s.Shapes) s.Shapes.length (by omega) (fun j hj => ?_) ?_).trans ?_
      · rw [az6 (by omega), az8 (by omega), wn (by omega), Int.toNat_natCast]
        unfold errS
        generalize s.Shapes.getD j default = x
        simp only [hzu, ozn, Option.bind_some, azw, az7, wz0]
        cases hl : jzk s.Robot.Joints.length x.Link
        · rfl
        · cases hr : betV x.Radius 1 1048576
          · rfl
          · simp only [Bool.not_true, cond_false, Bool.and_self]
            by_cases h3 : x.Points.length = 0
            · rw [az6 (by omega), if_pos (Or.inr (Or.inl h3))]; rfl
            · rw [az5 (by omega)]
              by_cases h4 : 8 < x.Points.length
              · rw [az6 (by omega), if_pos (Or.inr (Or.inr h4))]; rfl
              · rw [az5 (by omega), if_neg (fun h5 => by rcases h5 with h5 | h5 | h5; · cases h5
                                                         · omega
                                                         · omega)]
                refine (fza (fun i => sw (farP x.Points i) (Step3.fin 805)) x.Points.length (by omega) (fun k hk => ?_) ?_).trans ?_
                · rw [az6 (by omega), az8 (by omega), wn (by omega), Int.toNat_natCast, ← dzl]
                  simp only [ezi _ (show (0 : Int) ≤ 4194304 by decide) (by decide), Option.bind_some]; rfl
                · rw [az5 (by omega)]
                · rw [cz8]; cases bzk (farP x.Points) x.Points.length <;> rfl
      · rw [az5 (by omega)]
      · cases scan (errS s.Robot.Joints.length s.Shapes) s.Shapes.length 0 with
        | some e => rfl
        | none =>
          simp only
          by_cases h2 : 64 < s.Skips.length
          · rw [az6 (by omega), if_pos h2]
          · rw [az5 (by omega), if_neg h2]
            refine (fza (fun i => sw (badK s.Robot.Joints.length s.Skips i) 903) s.Skips.length (by omega) (fun j hj => ?_) ?_).trans ?_
            · rw [az6 (by omega), wn (by omega), ← dzl]
              simp only [Int.toNat_natCast, az8 (show 0 ≤ (j : Int) ∧ (j : Int) < (s.Skips.length : Int) by omega), hzu, Option.bind_some, azw, az7, badK]
              cases jzk s.Robot.Joints.length (s.Skips.getD j default).A <;> cases jzk s.Robot.Joints.length (s.Skips.getD j default).B <;> rfl
            · rw [az5 (by omega)]
            · rw [cz8]; cases bzk (badK s.Robot.Joints.length s.Skips) s.Skips.length <;> rfl
  · rw [dzv h, if_pos h]
def outJ (l : List azi) (c : List Int) (i : Nat) : Bool := decide (c.getD i default < (l.getD i default).Lo) || decide (c.getD i default > (l.getD i default).Hi)
def fzo (r : azm) (c : List Int) : Bool := decide (iz5 r = 0) && (decide (c.length = r.Joints.length) && bzk (outJ r.Joints c) c.length)
theorem Ez7 (l : List azi) (c : List Int) (h : l.length < 4294967296) : (ezd l c).o = some (decide (c.length = l.length) && bzk (outJ l c) c.length) := by
  show (czw l c).run NN = _
  simp only [czw, T.run]
  have e1 : ∀ j x, (pz1 j x).o = some (decide (j.Lo ≤ x) && decide (x ≤ j.Hi)) := fun j x => by
    show (iz9 j x).run NN = _
    simp only [iz9, T.run, czf, kzp]
  by_cases h1 : c.length = l.length
  · rw [cze (by omega), decide_eq_true h1, Bool.true_and]
    refine (fza (fun i => sw (outJ l c i) false) l.length h (fun j hj => ?_) ?_).trans ?_
    · rw [az6 (by omega), az8 (by omega), az8 (by omega), wn (by omega), Int.toNat_natCast, ← dzl]
      simp only [e1, Option.bind_some]
      refine congrArg (fun b => bif b then some (Step3.fin false) else some (Step3.next ((j + 1 : Nat) : Int))) ?_
      rw [Bool.eq_iff_iff]
      simp only [outJ, Bool.not_eq_true', Bool.and_eq_false_iff, Bool.or_eq_true, decide_eq_true_eq, decide_eq_false_iff_not]
      omega
    · rw [az5 (by omega)]
    · rw [cz8, h1]; cases bzk (outJ l c) l.length <;> rfl
  · rw [dzv (by omega), decide_eq_false h1]; rfl
theorem szl (r : azm) (c : List Int) : (lzi r c).o = some (fzo r c) := by
  show (lzj r c).run NN = _
  simp only [lzj, T.run, yzc, Option.bind_some, fzo]
  by_cases h : iz5 r = 0
  · have := gz5 h
    rw [dzm h, Ez7 _ _ (by omega), decide_eq_true h]; rfl
  · rw [dzn h, decide_eq_false h]; rfl
theorem Ezi (r : azm) (c : List Int) : (oz6 r c).o = some (fzo r c) := by
  show (oz7 r c).run NN = _
  simp only [oz7, T.run, dzf, Option.bind_some, azw, az7, fzo]
  by_cases h : iz5 r = 0
  · have := gz5 h
    rw [cze h, decide_eq_true h, Bool.true_and]
    by_cases h1 : c.length = r.Joints.length
    · rw [cze (by omega), decide_eq_true h1, Bool.true_and]
      refine (fza (fun i => sw (outJ r.Joints c i) false) c.length (by omega) (fun j hj => ?_) ?_).trans ?_
      · rw [az6 (by omega), wn (by omega), ← dzl]
        simp only [Int.toNat_natCast, az8 (show 0 ≤ (j : Int) ∧ (j : Int) < (c.length : Int) by omega), az8 (show 0 ≤ (j : Int) ∧ (j : Int) < (r.Joints.length : Int) by omega), azw, az7, czr, outJ]
      · rw [az5 (by omega)]
      · rw [cz8]; cases bzk (outJ r.Joints c) c.length <;> rfl
    · rw [dzv (by omega), decide_eq_false h1]; rfl
  · rw [dzv h, decide_eq_false h]; rfl
def big1 (l : List Int) (i : Nat) : Bool := decide (l.getD i default < -2147483648) || decide (l.getD i default > 2147483648)
def mze (l : List Int) : Bool := bzk (big1 l) l.length
theorem vz6 (l : List Int) (h : l.length < 4294967296) : (nzm l).o = some (mze l) := by
  show (nzn l).run NN = _
  have e1 : ∀ x, (rzq x).o = some (decide (x < -2147483648) || decide (x > 2147483648)) := fun x => by
    show (kz0 x).run NN = _
    simp only [kz0, T.run, czf, czr]
  have e2 : (ezf l).o = some (match scan (fun i => sw (big1 l i) (i : Int)) l.length 0 with | some x => x | none => -1) := by
    show (czz l).run NN = _
    simp only [czz, T.run]
    refine (fza (fun i => sw (big1 l i) (i : Int)) l.length h (fun j hj => ?_) ?_).trans ?_
    · rw [az6 (by omega), az8 (by omega), wn (by omega), Int.toNat_natCast, ← dzl]
      simp only [e1, Option.bind_some, big1]
    · rw [az5 (by omega)]
    · cases scan (fun i => sw (big1 l i) (i : Int)) l.length 0 <;> rfl
  have e3 : (dzt l).o = some (!mze l) := by
    show (czi l).run NN = _
    simp only [czi, T.run, e2, Option.bind_some]
    rw [Lzt]; rfl
  simp only [nzn, T.run, e3, Option.bind_some, Bool.not_not]
theorem yz1 (l : List Int) (h : l.length < 4294967296) : (qzs l).o = some (mze l) := by
  show (qzt l).run NN = _
  simp only [qzt, T.run]
  refine (fza (fun i => sw (big1 l i) false) l.length h (fun j hj => ?_) ?_).trans ?_
  · rw [az6 (by omega), wn (by omega), ← dzl]
    simp only [Int.toNat_natCast, az8 (show 0 ≤ (j : Int) ∧ (j : Int) < (l.length : Int) by omega), azw, az7, czr, big1]
  · rw [az5 (by omega)]
  · rw [cz8]; unfold mze; cases bzk (big1 l) l.length <;> rfl
def qzj (p q : List Int) (d : Int) : Bool := mze p && (mze q && (decide (p.length = q.length) && (decide (0 ≤ d) && decide (d ≤ 20))))
theorem Fzt {a b : Nat} : ((a : Int) == (b : Int)) = decide (a = b) := by rw [Bool.eq_iff_iff]; simp only [beq_iff_eq, decide_eq_true_eq]; omega
theorem zz6 (p q : List Int) (d : Int) (hp : p.length < 4294967296) (hq : q.length < 4294967296) : (pz2 p q d).o = some (qzj p q d) := by
  show (iza p q d).run NN = _
  simp only [iza, T.run, vz6 p hp, vz6 q hq, Option.bind_some, qzj, Fzt]
  cases decide (p.length = q.length) <;> cases mze p <;> cases mze q <;> cases decide (0 ≤ d) <;> rfl
theorem Ezk (p q : List Int) (d : Int) (hp : p.length < 4294967296) (hq : q.length < 4294967296) : (vzp p q d).o = some (qzj p q d) := by
  show (ozb p q d).run NN = _
  simp only [ozb, T.run, yz1 p hp, yz1 q hq, Option.bind_some, qzj, Fzt, ge_iff_le]
  cases decide (p.length = q.length) <;> cases mze p <;> cases mze q <;> cases decide (0 ≤ d) <;> rfl
def Fzc (p q : List Int) (d : Nat) (i : Int) (k : Nat) : az0 :=
  ⟨p.getD k default + min (i * (q.getD k default - p.getD k default)) ((i + 1) * (q.getD k default - p.getD k default)) / 2 ^ d,
   p.getD k default + cdiv (max (i * (q.getD k default - p.getD k default)) ((i + 1) * (q.getD k default - p.getD k default))) (2 ^ d)⟩
def dza (p q : List Int) (d i : Int) : List az0 × Bool :=
  if qzj p q d = true ∧ 0 ≤ i ∧ i < 2 ^ d.toNat then (tab (Fzc p q d.toNat i) p.length, true) else (nl, false)
theorem yzo {l : List Int} (h : mze l = true) {i : Nat} (hi : i < l.length) : -2147483648 ≤ l.getD i default ∧ l.getD i default ≤ 2147483648 := by
  have := noneB_iff.1 h i hi
  simp only [big1, Bool.or_eq_false_iff, decide_eq_false_iff_not] at this
  omega
theorem motionV_iff {p q : List Int} {d : Int} : qzj p q d = true ↔ mze p = true ∧ mze q = true ∧ p.length = q.length ∧ 0 ≤ d ∧ d ≤ 20 := by
  simp only [qzj, Bool.and_eq_true, decide_eq_true_eq]
theorem Uz3 {k : Nat} (h : k ≤ 20) : (2 : Int) ^ k ≤ 1048576 := by
  have : (2 : Int) ^ k ≤ 2 ^ 20 := by
    exact_mod_cast Nat.pow_le_pow_right (by decide : 0 < 2) h
  have e : (2 : Int) ^ 20 = 1048576 := by decide
  omega
theorem Vzp {i D : Int} (h0 : 0 ≤ i) (h1 : i ≤ 1048576) (h2 : -4294967296 ≤ D ∧ D ≤ 4294967296) : -4503599627370496 ≤ i * D ∧ i * D ≤ 4503599627370496 := by
  have h : (i * D).natAbs ≤ 1048576 * 4294967296 := by rw [Int.natAbs_mul]; exact Nat.mul_le_mul (by omega) (by omega)
  omega
theorem Wz6 {d : Int} (h0 : 0 ≤ d) (h1 : d ≤ 20) : IntKind.u64.wrap d = d := by
  show (if (false && decide (d % 18446744073709551616 ≥ 9223372036854775808)) = true then d % 18446744073709551616 - 18446744073709551616 else d % 18446744073709551616) = d
  rw [if_neg (by simp)]; omega
theorem Gz2 (a : Int) (k : Nat) (hk : k ≤ 64) : (pzv a (k : Int)).o = some (a / 2 ^ k) := by
  show (pzw a (k : Int)).run NN = _
  simp only [pzw, T.run]
  rw [az8 (by omega), Int.toNat_natCast, Nat.min_eq_left hk, xz6]
section
variable {a b i : Int} {k : Nat} (ha : -2147483648 ≤ a ∧ a ≤ 2147483648) (hb : -2147483648 ≤ b ∧ b ≤ 2147483648) (h0 : 0 ≤ i) (hi : i < 2 ^ k) (hk : k ≤ 20)
include ha hb h0 hi hk
theorem Mzr : IntKind.i64.wrap (b - a) = b - a ∧ IntKind.i64.wrap (i + 1) = i + 1 ∧ IntKind.i64.wrap (i * (b - a)) = i * (b - a) ∧ IntKind.i64.wrap ((i + 1) * (b - a)) = (i + 1) * (b - a) ∧
    InR (min (i * (b - a)) ((i + 1) * (b - a))) ∧ InR (max (i * (b - a)) ((i + 1) * (b - a))) ∧ InR (-(max (i * (b - a)) ((i + 1) * (b - a)))) ∧
    InR (a + min (i * (b - a)) ((i + 1) * (b - a)) / 2 ^ k) ∧ InR (a + cdiv (max (i * (b - a)) ((i + 1) * (b - a))) (2 ^ k)) := by
  have p20 := Uz3 hk
  have hp := bzw k
  have m1 := Vzp h0 (by omega) (show -4294967296 ≤ b - a ∧ b - a ≤ 4294967296 by omega)
  have m2 := Vzp (i := i + 1) (by omega) (by omega) (show -4294967296 ≤ b - a ∧ b - a ≤ 4294967296 by omega)
  generalize i * (b - a) = u at *
  generalize (i + 1) * (b - a) = v at *
  have b1 : -4503599627370496 ≤ min u v ∧ min u v ≤ 4503599627370496 := by omega
  have b2 : -4503599627370496 ≤ max u v ∧ max u v ≤ 4503599627370496 := by omega
  have d1 := Azg (a := min u v) hp
  have d2 := Gz0 (a := max u v) hp
  refine ⟨w64 (by omega) (by omega), w64 (by omega) (by omega), w64 (by omega) (by omega), w64 (by omega) (by omega), ⟨by omega, by omega⟩, ⟨by omega, by omega⟩, ⟨by omega, by omega⟩, ?_, ?_⟩
  · generalize min u v = x at *
    generalize x / 2 ^ k = y at *
    by_cases hx : 0 ≤ x
    · have := d1.1 hx; exact ⟨by omega, by omega⟩
    · have := d1.2 (by omega); exact ⟨by omega, by omega⟩
  · generalize max u v = x at *
    generalize cdiv x (2 ^ k) = y at *
    by_cases hx : 0 < x
    · have := d2.1 hx; exact ⟨by omega, by omega⟩
    · have := d2.2 (by omega); exact ⟨by omega, by omega⟩
theorem Bzc : (rzp a b i (k : Int)).o = some (⟨a + min (i * (b - a)) ((i + 1) * (b - a)) / 2 ^ k, a + cdiv (max (i * (b - a)) ((i + 1) * (b - a))) (2 ^ k)⟩, i, (k : Int)) := by
  obtain ⟨e1, e2, e3, e4, e5, e6, e7, e8, e9⟩ := Mzr ha hb h0 hi hk
  show (jzz a b i (k : Int)).run NN = _
  have e0 : IntKind.i64.wrap (0 - max (i * (b - a)) ((i + 1) * (b - a))) = -(max (i * (b - a)) ((i + 1) * (b - a))) := by rw [Int.zero_sub]; exact e7.w
  have e10 : a - -(max (i * (b - a)) ((i + 1) * (b - a))) / 2 ^ k = a + cdiv (max (i * (b - a)) ((i + 1) * (b - a))) (2 ^ k) := by unfold cdiv; omega
  simp only [jzz, T.run, e1, e2, e3, e4, e0, Gz2 _ k (show k ≤ 64 by omega), Option.bind_some, e8.w, e10, e9.w]
end
theorem Cz9 {p q : List Int} {k : Nat} {i : Int} (hp : mze p = true) (hq : mze q = true) (hl : p.length = q.length) (hn : p.length < 4294967296) (h0 : 0 ≤ i) (hi : i < 2 ^ k) (hk : k ≤ 20) :
    (czs p q i (k : Int)).o = some (tab (Fzc p q k i) p.length, i, (k : Int)) := by
  show (bzm p q i (k : Int)).run NN = _
  simp only [bzm, T.run]
  rw [az8 ⟨by omega, by omega, by omega, by omega⟩, Int.toNat_natCast]
  refine (bzn (fun j => (i, (k : Int), half (Fzc p q k i) ⟨0, 0⟩ p.length j, (j : Int))) (i, (k : Int), tab (Fzc p q k i) p.length) p.length ?_ hn (fun j hj => ?_) ?_).trans rfl
  · rw [lzp]; rfl
  · rw [az6 (by simpa using hj), az8 ⟨by simp, by simpa using hj⟩, az8 ⟨by simp, by simp; omega⟩]
    simp only [Int.toNat_natCast, Bzc (yzo hp hj) (yzo hq (by omega : j < q.length)) h0 hi hk, Option.bind_some, mzo (show j ≤ p.length by omega)]
    rw [az8 ⟨by omega, by omega⟩, az8 ⟨hj, by omega⟩, wn (by omega)]
    exact congrArg (fun x => some (Step3.next (i, (k : Int), x, ((j + 1 : Nat) : Int)))) (jz5 hj)
  · rw [az5 (by simp)]; simp only [qz8]
theorem w2k {k : Nat} (h : k ≤ 20) : IntKind.i64.wrap (1 * 2 ^ k) = 2 ^ k := by
  have := Uz3 h; have := bzw k
  rw [Int.one_mul]; exact w64 (by omega) (by omega)
theorem Ez6 (p q : List Int) (d i : Int) (hp : p.length < 4294967296) (hq : q.length < 4294967296) : (vz5 p q d i).o = some (dza p q d i) := by
  show (nzl p q d i).run NN = _
  simp only [nzl, T.run, zz6 p q d hp hq, Option.bind_some, dza]
  by_cases hm : qzj p q d = true
  · have hm' := motionV_iff.1 hm
    obtain ⟨k, rfl⟩ : ∃ k : Nat, d = (k : Int) := ⟨d.toNat, by omega⟩
    have hk : k ≤ 20 := by omega
    rw [hm, Int.toNat_natCast]
    simp only [Bool.not_true, cond_false]
    by_cases h0 : i < 0
    · rw [az6 h0, if_neg (by omega)]; rfl
    · rw [az5 h0, az8 (by omega), Nat.min_eq_left (by omega), w2k hk]
      simp only [az7]
      by_cases h1 : i ≥ 2 ^ k
      · rw [az6 h1, if_neg (by omega)]
      · rw [az5 h1, if_pos ⟨trivial, by omega, by omega⟩, Cz9 hm'.1 hm'.2.1 hm'.2.2.1 hp (by omega) (by omega) hk]; rfl
  · rw [if_neg (fun h => hm h.1)]
    simp only [Bool.not_eq_true] at hm
    rw [hm]; rfl
theorem Hzc (p q : List Int) (d i : Int) (hp : p.length < 4294967296) (hq : q.length < 4294967296) : (xzy p q d i).o = some (dza p q d i) := by
  show (qzq p q d i).run NN = _
  simp only [qzq, T.run, Ezk p q d hp hq, Option.bind_some, dza]
  by_cases hm : qzj p q d = true
  · have hm' := motionV_iff.1 hm
    obtain ⟨k, rfl⟩ : ∃ k : Nat, d = (k : Int) := ⟨d.toNat, by omega⟩
    have hk : k ≤ 20 := by omega
    rw [hm, Int.toNat_natCast, Wz6 (by omega) (by omega), Int.toNat_natCast]
    simp only [Bool.not_true, cond_false]
    by_cases h0 : i < 0
    · rw [az6 h0, if_neg (by omega)]; rfl
    · rw [az5 h0, az8 (by omega), Nat.min_eq_left (by omega), w2k hk]
      simp only [az7]
      by_cases h1 : i ≥ 2 ^ k
      · rw [az6 h1, if_neg (by omega)]
      · rw [az5 h1, if_pos ⟨trivial, by omega, by omega⟩, az8 (by omega)]
        refine (bzn (fun j => (tab (Fzc p q k i) j, (j : Int))) (tab (Fzc p q k i) p.length) p.length rfl hp (fun j hj => ?_) ?_).trans rfl
        · obtain ⟨e1, e2, e3, e4, e5, e6, e7, e8, e9⟩ := Mzr (yzo hm'.1 hj) (yzo hm'.2.1 (by omega : j < q.length)) (by omega : 0 ≤ i) (by omega : i < 2 ^ k) hk
          rw [az6 (by simpa using hj), az8 ⟨by simp, by simp; omega⟩, az8 ⟨by simp, by simpa using hj⟩, az8 ⟨by simp, by simpa using hj⟩]
          simp only [Int.toNat_natCast, e1, e2, e3, e4, cz6 e5 (bzw k), bz8 e6 (bzw k), Option.bind_some, e8.w, e9.w]
          rw [az8 ⟨by omega, by omega⟩, az8 ⟨by simp [bzv]; omega, by simp [bzv, bz1]; omega⟩, wn (by omega), iz4]; rfl
        · rw [az5 (by simp)]
  · rw [if_neg (fun h => hm h.1)]
    simp only [Bool.not_eq_true] at hm
    rw [hm]; rfl
structure JointOk (l : List azi) (i : Nat) : Prop where
  kind : 0 ≤ (l.getD i default).Kind ∧ (l.getD i default).Kind ≤ 6
  parent : -1 ≤ (l.getD i default).Parent ∧ (l.getD i default).Parent < (i : Int)
  off : fz6 (l.getD i default).Offset 4194304 = true
  lim : (l.getD i default).Lo ≤ (l.getD i default).Hi ∧ -jzo (l.getD i default).Kind ≤ (l.getD i default).Lo ∧ (l.getD i default).Hi ≤ jzo (l.getD i default).Kind
  cost : Qzu (l.getD i default) = true
theorem Pz7 {l : List azi} {i : Nat} (h : tz1 l i = 0) : JointOk l i := by
  unfold tz1 at h
  simp only at h
  split at h
  · cases h
  · split at h
    · cases h
    · rename_i h2
      split at h
      · cases h
      · rename_i h3
        split at h
        · cases h
        · rename_i h4
          split at h
          · cases h
          · rename_i h5
            split at h
            · cases h
            · rename_i h6
              simp only [Bool.or_eq_true, decide_eq_true_eq, Bool.not_eq_true', Bool.not_eq_false] at h2 h3 h4 h5 h6
              exact ⟨by omega, by omega, h4, by omega, h6⟩
theorem izt {r : azm} (h : iz5 r = 0) {i : Nat} (hi : i < r.Joints.length) : JointOk r.Joints i := Pz7 ((gz5 h).2.2 i hi)
def notV (b : List az0) (i : Nat) : Bool := !vV (b.getD i default)
def boxV (r : azm) (b : List az0) : Bool := decide (b.length = r.Joints.length) && bzk (notV b) b.length
theorem Bzj (b : List az0) (h : b.length < 4294967296) : (sz4 b).o = some (bzk (notV b) b.length) := by
  show (kze b).run NN = _
  simp only [kze, T.run, eze, Option.bind_some]
  refine (fza (fun i => sw (notV b i) false) b.length h (fun j hj => ?_) ?_).trans ?_
  · rw [az6 (by omega), az8 (by omega), wn (by omega), Int.toNat_natCast, ← dzl]; rfl
  · rw [az5 (by omega)]
  · rw [cz8]; cases bzk (notV b) b.length <;> rfl
theorem qzm (r : azm) (b : List az0) (h : b.length < 4294967296) : (lz2 r b).o = some (boxV r b) := by
  show (qzl r b).run NN = _
  simp only [qzl, T.run, Bzj b h, Option.bind_some, boxV, Fzt]
  cases decide (b.length = r.Joints.length) <;> rfl
theorem xzb (r : azm) (b : List az0) (h : b.length < 4294967296) : (mzr r b).o = some (boxV r b) := by
  have e1 : ∀ x, (kzq x).o = some (!vV x) := fun x => by
    show (fzp x).run NN = _
    simp only [fzp, T.run, bzs, Option.bind_some]
  have e2 : (cz9 b).o = some (match scan (fun i => sw (notV b i) (i : Int)) b.length 0 with | some x => x | none => -1) := by
    show (bzi b).run NN = _
    simp only [bzi, T.run, e1, Option.bind_some]
    refine (fza (fun i => sw (notV b i) (i : Int)) b.length h (fun j hj => ?_) ?_).trans ?_
    · rw [az6 (by omega), az8 (by omega), wn (by omega), Int.toNat_natCast, ← dzl]; rfl
    · rw [az5 (by omega)]
    · cases scan (fun i => sw (notV b i) (i : Int)) b.length 0 <;> rfl
  have e3 : (cz2 b).o = some (!bzk (notV b) b.length) := by
    show (bzd b).run NN = _
    simp only [bzd, T.run, e2, Option.bind_some]
    exact congrArg some Lzt
  show (gzx r b).run NN = _
  simp only [gzx, T.run, e3, Option.bind_some, boxV, Fzt, Bool.not_not]
  cases decide (b.length = r.Joints.length) <;> rfl
section
variable (r : azm) (b : List az0)
def lk1 (L : List azj) (i : Nat) : azj :=
  if (r.Joints.getD i default).Parent = -1 then vzf (r.Joints.getD i default) (b.getD i default) else Kzk (L.getD (r.Joints.getD i default).Parent.toNat default) (vzf (r.Joints.getD i default) (b.getD i default))
def lkL : Nat → List azj
  | 0 => []
  | i + 1 => lkL i ++ [lk1 r b (lkL i) i]
def lkP (i : Nat) : azj := lk1 r b (lkL r b i) i
theorem Pz9 : ∀ j, lkL r b j = tab (lkP r b) j
  | 0 => rfl
  | j + 1 => by rw [iz4, ← Pz9 j]; rfl
end
variable {r : azm} {b : List az0}
theorem Mzh {α : Type} {f : Nat → α} {z d : α} {n j i : Nat} (h : i < j) : (half f z n j).getD i d = f i := by
  unfold half
  rw [List.getD_eq_getElem?_getD, List.getElem?_append_left (by rw [bzv]; exact h), ← List.getD_eq_getElem?_getD, kzn h]
theorem Fzl {α : Type} {l : List α} {i j : Nat} {x d : α} (h : i ≠ j) : (l.set i x).getD j d = l.getD j d := by
  rw [List.getD_eq_getElem?_getD, List.getElem?_set_ne h, List.getD_eq_getElem?_getD]
theorem Fzk {α : Type} {l : List α} {i : Nat} {x d : α} (h : i < l.length) : (l.set i x).getD i d = x := by
  rw [List.getD_eq_getElem?_getD, List.getElem?_set_self h]; rfl
theorem Hzb (hr : iz5 r = 0) (hb : boxV r b = true) : (xzx r b).o = some (tab (lkP r b) r.Joints.length) := by
  have hr' := gz5 hr
  have hb' := hb
  simp only [boxV, Bool.and_eq_true, decide_eq_true_eq] at hb'
  show (qzp r b).run NN = _
  simp only [qzp, T.run, dzf, qzm r b (by omega), hb, hr, Option.bind_some]
  rw [cze rfl, az7, Bool.not_true, cond_false]
  refine (bzn (fun j => (tab (lkP r b) j, (j : Int))) (tab (lkP r b) r.Joints.length) r.Joints.length rfl (show r.Joints.length < 4294967296 by omega) (fun j hj => ?_) ?_).trans rfl
  · have jo := izt hr hj
    rw [az6 (by simp; omega), az8 ⟨by simp, by simpa using hj⟩, az8 ⟨by simp, by simp; omega⟩]
    simp only [Int.toNat_natCast, Hz9, Option.bind_some]
    rw [az8 ⟨by omega, by omega⟩, iz4]
    by_cases hp : (r.Joints.getD j default).Parent = -1
    · have e : lkP r b j = vzf (r.Joints.getD j default) (b.getD j default) := by unfold lkP lk1; rw [if_pos hp]
      rw [cze hp]
      simp only [az7]
      rw [az8 ⟨by simp [bzv]; omega, by simp [bzv, bz1]; omega⟩, wn (by omega), e]
    · have jp := jo.parent
      have e : lkP r b j = Kzk ((tab (lkP r b) j).getD (r.Joints.getD j default).Parent.toNat default) (vzf (r.Joints.getD j default) (b.getD j default)) := by
        unfold lkP lk1; rw [if_neg hp, Pz9]; rfl
      rw [dzv hp, az8 ⟨by omega, by omega⟩, az8 ⟨by omega, by rw [bzv]; omega⟩, az8 (by rw [bzv]; omega)]
      simp only [jze, Option.bind_some, az7]
      rw [az8 ⟨by simp [bzv]; omega, by simp [bzv, bz1]; omega⟩, wn (by omega), e]
  · rw [az5 (by simp; omega)]
theorem xzc (hr : iz5 r = 0) (hb : boxV r b = true) : (mzs r b).o = some (tab (lkP r b) r.Joints.length) := by
  have hr' := gz5 hr
  have hb' := hb
  simp only [boxV, Bool.and_eq_true, decide_eq_true_eq] at hb'
  show (gzy r b).run NN = _
  simp only [gzy, T.run]
  rw [az8 ⟨by omega, by omega, by omega, by omega⟩, Int.toNat_natCast]
  refine (bzn (fun j => (half (lkP r b) (⟨(izv, izv, izv), izv⟩ : azj) r.Joints.length j, (j : Int))) (tab (lkP r b) r.Joints.length) r.Joints.length ?_ (show r.Joints.length < 4294967296 by omega) (fun j hj => ?_) ?_).trans rfl
  · rw [lzp]; rfl
  · have jo := izt hr hj
    have jp := jo.parent
    rw [az6 (by simp; omega), az8 ⟨by simp, by simpa using hj⟩, az8 ⟨by simp, by simp; omega⟩]
    simp only [Int.toNat_natCast, xza, Option.bind_some, List.length_set, mzo (show j ≤ r.Joints.length by omega)]
    rw [az8 ⟨by omega, by omega⟩, az8 ⟨hj, by omega⟩, wn (by omega)]
    by_cases hp : (r.Joints.getD j default).Parent = -1
    · have e : lkP r b j = vzf (r.Joints.getD j default) (b.getD j default) := by unfold lkP lk1; rw [if_pos hp]
      rw [cze hp]
      simp only [az7]
      rw [← jz5 hj, e]
    · have e : lkP r b j = Kzk (lkP r b (r.Joints.getD j default).Parent.toNat) (vzf (r.Joints.getD j default) (b.getD j default)) := by
        conv => lhs; unfold lkP lk1
        rw [if_neg hp, Pz9, kzn (by omega)]
      rw [dzv hp, az8 ⟨by omega, by omega⟩, az8 (by omega), az8 ⟨by omega, by omega⟩, az8 hj, Fzl (by omega), Mzh (by omega), Fzk (by rw [mzo (by omega)]; exact hj)]
      simp only [jzb, Option.bind_some]
      rw [az8 ⟨by omega, by omega⟩, az8 ⟨hj, by omega⟩, az7, List.set_set, ← e, jz5 hj]
  · rw [az5 (by simp)]; simp only [qz8]
def mza (x : azn) : Bool := (betV x.Radius 1 1048576 && decide (1 ≤ x.Points.length ∧ x.Points.length ≤ 8)) && bzk (farP x.Points) x.Points.length
def xzs (x : azn) (p : azj) : List IV3 := if mza x then tab (fun i => Jz6 p (tze (x.Points.getD i default))) x.Points.length else nl
theorem Dzr {x : azn} (h : mza x = true) : 1 ≤ x.Points.length ∧ x.Points.length ≤ 8 := by
  simp only [mza, Bool.and_eq_true, decide_eq_true_eq] at h; exact h.1.2
theorem Fzm (x : azn) {α : Type} (k : Bool → Option α) : (andC (bif decide (x.Radius < 1) then some (.out true) else bif decide (x.Radius > 1048576) then some (.out true) else bif decide ((x.Points.length : Int) < 1) then some (.out true) else
    some (.out (decide ((x.Points.length : Int) > 8)))) k) = k (!(betV x.Radius 1 1048576 && decide (1 ≤ x.Points.length ∧ x.Points.length ≤ 8))) := by
  simp only [azw, az7]
  congr 1
  rw [Bool.eq_iff_iff]
  simp only [czr, betV, Bool.or_eq_true, Bool.not_eq_true', Bool.and_eq_false_iff, decide_eq_true_eq, decide_eq_false_iff_not]
  omega
theorem xzu (x : azn) : (nz0 x).o = some (mza x) := by
  show (hzk x).run NN = _
  simp only [hzk, T.run, Fzm, mza]
  cases h : betV x.Radius 1 1048576 && decide (1 ≤ x.Points.length ∧ x.Points.length ≤ 8)
  · rfl
  · simp only [Bool.and_eq_true, decide_eq_true_eq] at h
    simp only [Bool.not_true, cond_false, Bool.true_and]
    refine (fza (fun i => sw (farP x.Points i) false) x.Points.length (by omega) (fun k hk => ?_) ?_).trans ?_
    · rw [az6 (by omega), az8 (by omega), wn (by omega), Int.toNat_natCast, ← dzl]
      simp only [ezi _ (show (0 : Int) ≤ 4194304 by decide) (by decide), Option.bind_some]; rfl
    · rw [az5 (by omega)]
    · rw [cz8]; cases bzk (farP x.Points) x.Points.length <;> rfl
theorem Hzn (x : azn) : (yzk x).o = some (mza x) := by
  show (rzf x).run NN = _
  simp only [rzf, T.run, Fzm, mza]
  cases h : betV x.Radius 1 1048576 && decide (1 ≤ x.Points.length ∧ x.Points.length ≤ 8)
  · rfl
  · simp only [Bool.and_eq_true, decide_eq_true_eq] at h
    simp only [Bool.not_true, cond_false, Bool.true_and]
    refine (fza (fun i => sw (farP x.Points i) false) x.Points.length (by omega) (fun j hj => ?_) ?_).trans ?_
    · rw [az6 (by omega), az8 (by omega), Int.toNat_natCast, wn (by omega)]
      refine (fza (fun i => sw (bey (([(x.Points.getD j default).1, (x.Points.getD j default).2.1, (x.Points.getD j default).2.2] : List Int).getD i 0)) (Step3.fin false)) 3 (by decide) (fun k hk => ?_) ?_).trans ?_
      · rw [az6 (by omega), az8 (by omega), wn (by omega), Int.toNat_natCast, ← dzl]
        simp only [azw, az7, czr]; rfl
      · rw [az5 (by omega)]
      · rw [cz8, far3]; unfold farP
        cases fz6 (x.Points.getD j default) 4194304 <;> rfl
    · rw [az5 (by omega)]
    · rw [cz8]; cases bzk (farP x.Points) x.Points.length <;> rfl
theorem yz0 (x : azn) (p : azj) : (xzz x p).o = some (xzs x p) := by
  show (qzr x p).run NN = _
  simp only [qzr, T.run, xzu, Option.bind_some, xzs]
  cases h : mza x
  · rfl
  · have hl := Dzr h
    simp only [Bool.not_true, cond_false, if_true]
    refine (bzn (fun j => (tab (fun i => Jz6 p (tze (x.Points.getD i default))) j, (j : Int))) (tab (fun i => Jz6 p (tze (x.Points.getD i default))) x.Points.length) x.Points.length rfl (show x.Points.length < 4294967296 by omega) (fun j hj => ?_) ?_).trans rfl
    · rw [az6 (by simpa using hj), az8 ⟨by simp, by simpa using hj⟩]
      simp only [Int.toNat_natCast, nz5, Jzn, Option.bind_some]
      rw [az8 ⟨by simp [bzv]; omega, by simp [bzv, bz1]; omega⟩, wn (by omega), iz4]
    · rw [az5 (by simp)]
theorem yzm (x : azn) (p : azj) : (yzl x p).o = some (xzs x p) := by
  show (rzg x p).run NN = _
  simp only [rzg, T.run, Hzn, Option.bind_some, xzs]
  cases h : mza x
  · rfl
  · have hl := Dzr h
    simp only [Bool.not_true, cond_false, if_true]
    rw [az8 ⟨by omega, by omega, by omega, by omega⟩, Int.toNat_natCast]
    refine (bzn (fun j => (half (fun i => Jz6 p (tze (x.Points.getD i default))) izv x.Points.length j, (j : Int))) (tab (fun i => Jz6 p (tze (x.Points.getD i default))) x.Points.length) x.Points.length ?_ (show x.Points.length < 4294967296 by omega) (fun j hj => ?_) ?_).trans rfl
    · rw [lzp]; rfl
    · rw [az6 (by simpa using hj), az8 ⟨by simp, by simpa using hj⟩]
      simp only [Int.toNat_natCast, oz1, Jzf, Option.bind_some, mzo (show j ≤ x.Points.length by omega)]
      rw [az8 ⟨by omega, by omega⟩, az8 ⟨hj, by omega⟩, wn (by omega), ← jz5 hj]
    · rw [az5 (by simp)]; simp only [qz8]
def Pz8 (r : azm) (b : List az0) (k : Int) : azj := if k = -1 then Jzr else lkP r b k.toNat
def bz3 (s : aza) (b : List az0) (i : Nat) : List IV3 := xzs (s.Shapes.getD i default) (Pz8 s.Robot b (s.Shapes.getD i default).Link)
def qzk (s : aza) (b : List az0) : List (List IV3) := if czp s = 0 ∧ boxV s.Robot b = true then tab (bz3 s b) s.Shapes.length else nl
structure SceneOk (s : aza) : Prop where
  robot : iz5 s.Robot = 0
  len : s.Shapes.length ≤ 24
  shape : ∀ i, i < s.Shapes.length → wz0 s.Robot.Joints.length (s.Shapes.getD i default) = 0
  skips : s.Skips.length ≤ 64
theorem uzb {s : aza} (h : czp s = 0) : SceneOk s := by
  unfold czp at h
  split at h
  · rename_i h1; exact absurd h h1
  · rename_i h1
    split at h
    · cases h
    · rename_i h2
      split at h
      · rename_i e he
        obtain ⟨j, -, -, h3, -⟩ := gz6 _ _ he
        unfold errS sw at h3
        cases hb : wz0 s.Robot.Joints.length (s.Shapes.getD j default) != 0 with
        | false => rw [hb] at h3; cases h3
        | true =>
          rw [hb] at h3; simp only [cond_true, Option.some.injEq] at h3
          simp only [bne_iff_ne] at hb
          rw [h3] at hb; exact absurd h hb
      · rename_i he
        split at h
        · cases h
        · rename_i h4
          refine ⟨by simpa using h1, by omega, fun i hi => ?_, by omega⟩
          have := (mz8 _ _).1 he i (Nat.zero_le _) (by omega)
          unfold errS sw at this
          cases hb : wz0 s.Robot.Joints.length (s.Shapes.getD i default) != 0 with
          | false => simpa using hb
          | true => rw [hb] at this; cases this
theorem pzj {n : Nat} {x : azn} (h : wz0 n x = 0) : mza x = true ∧ -1 ≤ x.Link ∧ x.Link < (n : Int) := by
  unfold wz0 at h
  split at h
  · cases h
  · rename_i h1
    split at h
    · rename_i h2
      have hb : (jzk n x.Link && betV x.Radius 1 1048576) = true := by
        cases hc : (jzk n x.Link && betV x.Radius 1 1048576) with
        | true => rfl
        | false => exact absurd (Or.inl hc) h1
      simp only [Bool.and_eq_true] at hb
      refine ⟨?_, ?_⟩
      · simp only [mza, Bool.and_eq_true, decide_eq_true_eq]; exact ⟨⟨hb.2, by omega⟩, h2⟩
      · have := hb.1; simp only [jzk, Bool.and_eq_true, decide_eq_true_eq] at this; exact this
    · cases h
theorem Ezj (s : aza) (b : List az0) (hbl : b.length < 4294967296) : (vzo s b).o = some (qzk s b) := by
  show (oz9 s b).run NN = _
  simp only [oz9, T.run, fzk, qzm _ b hbl, Option.bind_some, qzk]
  by_cases h : czp s = 0
  · rw [cze h, az7]
    cases hb : boxV s.Robot b
    · rw [if_neg (fun h => by cases h.2)]; rfl
    · have so := uzb h
      rw [if_pos ⟨h, rfl⟩, Bool.not_true, cond_false, Hzb so.robot hb, Option.bind_some]
      refine (bzn (fun j => (tab (bz3 s b) j, (j : Int))) (tab (bz3 s b) s.Shapes.length) s.Shapes.length rfl (show s.Shapes.length < 4294967296 by have := so.len; omega) (fun j hj => ?_) ?_).trans rfl
      · have so2 := so.len
        have sl := (pzj (so.shape j hj)).2
        rw [az6 (by simpa using hj)]
        simp only [Int.toNat_natCast, Dzc, Option.bind_some]
        rw [az8 ⟨by omega, by omega⟩, wn (by omega), iz4]
        by_cases hp : (s.Shapes.getD j default).Link = -1
        · have e : bz3 s b j = xzs (s.Shapes.getD j default) Jzr := by unfold bz3 Pz8; rw [if_pos hp]
          rw [cze hp]
          simp only [az7]
          rw [az8 ⟨by omega, by omega⟩]
          simp only [yz0, Option.bind_some]
          rw [az8 ⟨by simp [bzv]; omega, by simp [bzv, bz1]; omega⟩, e]
        · have e : bz3 s b j = xzs (s.Shapes.getD j default) ((tab (lkP s.Robot b) s.Robot.Joints.length).getD (s.Shapes.getD j default).Link.toNat default) := by
            unfold bz3 Pz8; rw [if_neg hp, kzn (by omega)]
          rw [dzv hp, az8 ⟨by omega, by omega⟩, az8 ⟨by omega, by rw [bzv]; omega⟩]
          simp only [az7]
          rw [az8 ⟨by omega, by omega⟩]
          simp only [yz0, Option.bind_some]
          rw [az8 ⟨by simp [bzv]; omega, by simp [bzv, bz1]; omega⟩, e]
      · rw [az5 (by simp)]
  · rw [dzv h, az7, cond_true, if_neg (fun h' => h h'.1)]
theorem wzc (s : aza) (b : List az0) (hbl : b.length < 4294967296) : (lzr s b).o = some (qzk s b) := by
  show (gzg s b).run NN = _
  simp only [gzg, T.run, iz0, xzb _ b hbl, Option.bind_some, qzk]
  cases hb : boxV s.Robot b
  · rw [if_neg (fun h => by cases h.2)]; rfl
  · simp only [Bool.not_true, cond_false, az7]
    by_cases h : czp s = 0
    · have so := uzb h
      have so2 := so.len
      rw [if_pos ⟨h, trivial⟩, cze h, xzc so.robot hb, Option.bind_some, az8 ⟨by omega, by omega, by omega, by omega⟩, Int.toNat_natCast]
      refine (bzn (fun j => (half (bz3 s b) nl s.Shapes.length j, (j : Int))) (tab (bz3 s b) s.Shapes.length) s.Shapes.length ?_ (show s.Shapes.length < 4294967296 by omega) (fun j hj => ?_) ?_).trans rfl
      · rw [lzp]; rfl
      · have sl := (pzj (so.shape j hj)).2
        rw [az6 (by simpa using hj), az8 ⟨by simp, by simpa using hj⟩]
        simp only [Int.toNat_natCast, tzg, Option.bind_some, mzo (show j ≤ s.Shapes.length by omega)]
        rw [wn (by omega), ← jz5 hj]
        by_cases hp : (s.Shapes.getD j default).Link = -1
        · have e : bz3 s b j = xzs (s.Shapes.getD j default) Jzr := by unfold bz3 Pz8; rw [if_pos hp]
          rw [cze hp]
          simp only [az7, yzm, Option.bind_some]
          rw [az8 ⟨by omega, by omega⟩, az8 ⟨hj, by omega⟩, e]
        · have e : bz3 s b j = xzs (s.Shapes.getD j default) ((tab (lkP s.Robot b) s.Robot.Joints.length).getD (s.Shapes.getD j default).Link.toNat default) := by
            unfold bz3 Pz8; rw [if_neg hp, kzn (by omega)]
          rw [dzv hp, az8 ⟨by omega, by rw [bzv]; omega⟩]
          simp only [az7, yzm, Option.bind_some]
          rw [az8 ⟨by omega, by omega⟩, az8 ⟨hj, by omega⟩, e]
      · rw [az5 (by simp)]; simp only [qz8]
    · rw [if_neg (fun h' => h h'.1), dzv h]
section
variable (par : Nat → Nat) (mv : Nat → Prop) [DecidablePred mv]
inductive AncN : Nat → Nat → Prop
  | self {m : Nat} : 0 < m → AncN m m
  | up {m x : Nat} : 0 < m → AncN (par m) x → AncN m x
def cF : Nat → Nat → Nat
  | 0, _ => 0
  | d + 1, m => if m = 0 then 0 else if mv m then m else cF d (par m)
end
section
variable {par : Nat → Nat} {mv : Nat → Prop} [DecidablePred mv]
theorem AncN.pos {m x : Nat} (h : AncN par m x) : 0 < m ∧ 0 < x := by
  induction h with
  | self h => exact ⟨h, h⟩
  | up h _ ih => exact ⟨h, ih.2⟩
theorem AncN.le {n m x : Nat} (hp : ∀ m, 0 < m → m ≤ n → par m < m) (h : AncN par m x) : m ≤ n → x ≤ m := by
  induction h with
  | self => intro _; exact Nat.le_refl _
  | up h0 _ ih => rename_i m x _; intro hm; have := hp m h0 hm; have := ih (by omega); omega
theorem Oz1 {n : Nat} (hp : ∀ m, 0 < m → m ≤ n → par m < m) : ∀ (d d' m : Nat), m ≤ n → m < d → m < d' → cF par mv d m = cF par mv d' m
  | 0, _, _, _, h, _ => by omega
  | _, 0, _, _, _, h => by omega
  | d + 1, d' + 1, m, hm, h1, h2 => by
    simp only [cF]
    by_cases h0 : m = 0
    · simp only [h0, if_true]
    · simp only [h0, if_false]
      have := hp m (by omega) hm
      by_cases hv : mv m
      · simp only [hv, if_true]
      · simp only [hv, if_false]; exact Oz1 hp d d' (par m) (by omega) (by omega) (by omega)
theorem Iz6 {n : Nat} (hp : ∀ m, 0 < m → m ≤ n → par m < m) : ∀ (d m : Nat), m ≤ n → m < d → (∀ x, mv x → (AncN par m x ↔ AncN par (cF par mv d m) x)) ∧ (cF par mv d m ≠ 0 → mv (cF par mv d m) ∧ AncN par m (cF par mv d m)) ∧ cF par mv d m ≤ m
  | 0, _, _, h => by omega
  | d + 1, m, hm, h => by
    simp only [cF]
    by_cases h0 : m = 0
    · rw [if_pos h0]; subst h0; exact ⟨fun _ _ => Iff.rfl, fun h => absurd rfl h, Nat.le_refl _⟩
    · simp only [h0, if_false]
      have hl := hp m (by omega) hm
      by_cases hv : mv m
      · rw [if_pos hv]; exact ⟨fun _ _ => Iff.rfl, fun _ => ⟨hv, .self (by omega)⟩, Nat.le_refl _⟩
      · simp only [hv, if_false]
        obtain ⟨h1, h2, h3⟩ := Iz6 hp d (par m) (by omega) (by omega)
        refine ⟨fun x hx => ?_, fun hn => ⟨(h2 hn).1, .up (by omega) (h2 hn).2⟩, by omega⟩
        rw [← h1 x hx]
        constructor
        · intro ha
          cases ha with
          | self => exact absurd hx hv
          | up _ ha => exact ha
        · intro ha; exact .up (by omega) ha
theorem Sz8 {n : Nat} (hp : ∀ m, 0 < m → m ≤ n → par m < m) {a b d : Nat} (ha : a ≤ n) (hb : b ≤ n) (hd : n < d) : cF par mv d a = cF par mv d b ↔ ∀ x, mv x → (AncN par a x ↔ AncN par b x) := by
  obtain ⟨a1, a2, a3⟩ := Iz6 (mv := mv) hp d a ha (by omega)
  obtain ⟨b1, b2, b3⟩ := Iz6 (mv := mv) hp d b hb (by omega)
  constructor
  · intro h x hx; rw [a1 x hx, b1 x hx, h]
  · intro h
    have key : ∀ {a b : Nat}, a ≤ n → b ≤ n → cF par mv d a ≠ 0 → (∀ x, mv x → (AncN par a x ↔ AncN par b x)) → cF par mv d a ≤ cF par mv d b := by
      intro a b ha hb hn h
      obtain ⟨a1, a2, a3⟩ := Iz6 (mv := mv) hp d a ha (by omega)
      obtain ⟨b1, b2, b3⟩ := Iz6 (mv := mv) hp d b hb (by omega)
      have := (b1 _ (a2 hn).1).1 ((h _ (a2 hn).1).1 (a2 hn).2)
      exact this.le hp (by omega)
    by_cases h0 : cF par mv d a = 0
    · by_cases h1 : cF par mv d b = 0
      · omega
      · have := key hb ha h1 (fun x hx => (h x hx).symm); omega
    · have h2 := key ha hb h0 h
      have h3 := key hb ha (by omega) (fun x hx => (h x hx).symm)
      omega
end
section
variable (r : azm)
def parN (m : Nat) : Nat := ((r.Joints.getD (m - 1) default).Parent + 1).toNat
def mvN (m : Nat) : Prop := (r.Joints.getD (m - 1) default).Lo ≠ (r.Joints.getD (m - 1) default).Hi
instance : DecidablePred (mvN r) := fun m => inferInstanceAs (Decidable (_ ≠ _))
def carN (m : Nat) : Nat := cF (parN r) (mvN r) (r.Joints.length + 1) m
end
variable {r : azm} (hr : iz5 r = 0)
include hr
theorem Dz4 : ∀ m, 0 < m → m ≤ r.Joints.length → parN r m < m := fun m h0 hm => by
  have := (izt hr (show m - 1 < r.Joints.length by omega)).parent
  unfold parN; omega
omit hr in
theorem Oz4 : carN r 0 = 0 := by
  unfold carN; simp only [cF, if_true]
theorem Oz3 {i : Nat} (hi : i < r.Joints.length) : carN r (i + 1) = if (r.Joints.getD i default).Lo = (r.Joints.getD i default).Hi then carN r ((r.Joints.getD i default).Parent + 1).toNat else i + 1 := by
  have hl := Dz4 hr (i + 1) (by omega) (by omega)
  unfold carN
  conv => lhs; simp only [cF]
  rw [if_neg (by omega)]
  by_cases h : (r.Joints.getD i default).Lo = (r.Joints.getD i default).Hi
  · rw [if_neg (fun hm => hm h), if_pos h]
    exact Oz1 (Dz4 hr) _ _ (parN r (i + 1)) (by omega) (by omega) (by omega)
  · rw [if_pos (show mvN r (i + 1) from h), if_neg h]
def caP (r : azm) (m : Nat) : Int := (carN r m : Int) - 1
theorem Bzm : (sz9 r).o = some (tab (caP r) (r.Joints.length + 1)) := by
  have hr' := gz5 hr
  show (kzj r).run NN = _
  simp only [kzj, T.run]
  rw [wn (by omega), Int.toNat_natCast, az8 ⟨by omega, by omega, by omega, by omega⟩]
  simp only [List.length_replicate]
  rw [az8 ⟨by omega, by omega⟩, az8 ⟨by simp, by omega⟩]
  refine (bzn (fun j => (half (caP r) 0 (r.Joints.length + 1) (j + 1), (j : Int))) (tab (caP r) (r.Joints.length + 1)) r.Joints.length ?_ (show r.Joints.length < 4294967296 by omega) (fun j hj => ?_) ?_).trans rfl
  · rw [← jz5 (by omega), lzp]
    have : caP r 0 = -1 := by unfold caP; rw [Oz4]; rfl
    rw [this]; rfl
  · have jp := (izt hr hj).parent
    rw [az6 (by simpa using hj), az8 ⟨by simp, by simpa using hj⟩]
    simp only [Int.toNat_natCast, mzo (show j + 1 ≤ r.Joints.length + 1 by omega), List.length_set]
    rw [wn (by omega), Int.toNat_natCast, az8 ⟨by omega, by omega⟩, az8 ⟨by omega, by omega⟩, w64 (x := (r.Joints.getD j default).Parent + 1) (by omega) (by omega)]
    have e := Oz3 hr hj
    by_cases h : (r.Joints.getD j default).Lo = (r.Joints.getD j default).Hi
    · have e2 : caP r (j + 1) = caP r ((r.Joints.getD j default).Parent + 1).toNat := by unfold caP; rw [e, if_pos h]
      rw [dzm h, az8 ⟨by omega, by omega⟩, az8 (by omega), az8 ⟨by omega, by omega⟩, az8 ⟨by omega, by omega⟩, Fzl (by omega), Mzh (by omega), az7, List.set_set, ← jz5 (j := j + 1) (by omega), e2]
    · have e2 : caP r (j + 1) = (j : Int) := by unfold caP; rw [e, if_neg h]; omega
      rw [dzn h, az7, ← jz5 (j := j + 1) (by omega), e2]
  · rw [az5 (by simp)]; simp only [qz8]
theorem Azx {k : Int} (h0 : -1 ≤ k) (h1 : k < (r.Joints.length : Int)) : ∃ L : List Int, (nz6 r k).o = some L ∧ L.length ≤ r.Joints.length ∧ ∀ x : Nat, (x : Int) ∈ L ↔ AncN (parN r) (k + 1).toNat (x + 1) := by
  have hr' := gz5 hr
  have e0 : (nz6 r k).o = (uz2 r k).run NN := rfl
  rw [e0]
  simp only [uz2, T.run, dzf, hr, hzu, Option.bind_some]
  rw [cze rfl, az7, show jzk r.Joints.length k = true by simp [jzk]; omega, Bool.not_true, cond_false]
  refine Kzs (β := List Int) (g := fun L => some L) (P := fun L => L.length ≤ r.Joints.length ∧ ∀ x : Nat, (x : Int) ∈ L ↔ AncN (parN r) (k + 1).toNat (x + 1))
    (fun (y : List Int × Int) => -1 ≤ y.2 ∧ y.2 < (r.Joints.length : Int) ∧ y.1.length + (y.2 + 1).toNat ≤ r.Joints.length ∧ ∀ x : Nat, ((x : Int) ∈ y.1 ∨ AncN (parN r) (y.2 + 1).toNat (x + 1)) ↔ AncN (parN r) (k + 1).toNat (x + 1))
    (fun (y : List Int × Int) => (y.2 + 1).toNat) (fun (L : List Int) => L.length ≤ r.Joints.length ∧ ∀ x : Nat, (x : Int) ∈ L ↔ AncN (parN r) (k + 1).toNat (x + 1)) ⟨h0, h1, ?_, fun x => ?_⟩ ?_ (fun y hy => ?_) (fun L hL => ⟨L, rfl, hL⟩)
  · simp [nl]; omega
  · simp [nl]
  · show (k + 1).toNat < 4294967296; omega
  · obtain ⟨a1, a2, a3, a4⟩ := hy
    by_cases hk : y.2 = -1
    · refine .inr ⟨y.1, by rw [cze hk], by omega, fun x => ?_⟩
      rw [← a4 x]
      constructor
      · exact Or.inl
      · rintro (h | h)
        · exact h
        · have := h.pos.1; rw [hk] at this; exact absurd this (by decide)
    · left
      have jp := (izt hr (show y.2.toNat < r.Joints.length by omega)).parent
      refine ⟨(y.2 :: y.1, (r.Joints.getD y.2.toNat default).Parent), ?_, ⟨jp.1, by omega, by simp only [List.length_cons]; omega, fun x => ?_⟩, by simp only; omega⟩
      · rw [dzv hk, az8 ⟨by simp; omega, by simp [bz1]; omega⟩, az8 ⟨by omega, by omega⟩]; rfl
      · rw [← a4 x]
        have hpar : parN r (y.2 + 1).toNat = ((r.Joints.getD y.2.toNat default).Parent + 1).toNat := by
          unfold parN; rw [show (y.2 + 1).toNat - 1 = y.2.toNat by omega]
        simp only [List.mem_cons]
        constructor
        · rintro ((h | h) | h)
          · right; rw [show (y.2 + 1).toNat = x + 1 by omega]; exact .self (by omega)
          · exact Or.inl h
          · right; exact .up (by omega) (hpar ▸ h)
        · rintro (h | h)
          · exact Or.inl (Or.inr h)
          · generalize hm : (y.2 + 1).toNat = m at h
            cases h with
            | self h => left; left; omega
            | up h ha => right; rw [← hm, hpar] at ha; exact ha
omit hr in
theorem yza (l : List Int) (x : Int) (h : l.length < 4294967296) : (rz7 l x).o = some (decide (x ∈ l)) := by
  show (rz8 l x).run NN = _
  simp only [rz8, T.run]
  refine (fza (fun i => sw (l.getD i default == x) true) l.length h (fun j hj => ?_) ?_).trans ?_
  · rw [az6 (by omega), az8 (by omega), wn (by omega), Int.toNat_natCast, ← dzl]
  · rw [az5 (by omega)]
  · rw [cz8]
    have : bzk (fun i => l.getD i default == x) l.length = !decide (x ∈ l) := by
      rw [Bool.eq_iff_iff, noneB_iff, Bool.not_eq_true', decide_eq_false_iff_not]
      constructor
      · intro hn hx
        obtain ⟨i, hi, e⟩ := List.getElem_of_mem hx
        have := hn i hi
        rw [List.getD_eq_getElem?_getD, List.getElem?_eq_getElem hi, Option.getD_some, e] at this
        simp at this
      · intro hn i hi
        rw [List.getD_eq_getElem?_getD, List.getElem?_eq_getElem hi, Option.getD_some]
        simp only [beq_eq_false_iff_ne, ne_eq]
        intro e; apply hn; rw [← e]; exact List.getElem_mem hi
    rw [this]; cases decide (x ∈ l) <;> rfl
def betL (p : Nat → Bool) (n : Nat) : List Int := ((List.range n).filter p).map fun (i : Nat) => (i : Int)
omit hr in
theorem Nzx (p : Nat → Bool) (n : Nat) : betL p (n + 1) = if p n then betL p n ++ [(n : Int)] else betL p n := by
  unfold betL; rw [List.range_succ, List.filter_append, List.map_append]
  cases h : p n <;> simp [h]
omit hr in
theorem Mz2 (p : Nat → Bool) (n : Nat) : (betL p n).length ≤ n := by
  unfold betL; rw [List.length_map]; exact Nat.le_trans (List.length_filter_le _ _) (by simp)
omit hr in
theorem Qzp {p : Nat → Bool} {n : Nat} {x : Int} : x ∈ betL p n ↔ ∃ i : Nat, x = (i : Int) ∧ i < n ∧ p i = true := by
  unfold betL; simp only [List.mem_map, List.mem_filter, List.mem_range]
  constructor
  · rintro ⟨i, ⟨h1, h2⟩, rfl⟩; exact ⟨i, rfl, h1, h2⟩
  · rintro ⟨i, rfl, h1, h2⟩; exact ⟨i, ⟨h1, h2⟩, rfl⟩
theorem Ezq {a b : Int} (a0 : -1 ≤ a) (a1 : a < (r.Joints.length : Int)) (b0 : -1 ≤ b) (b1 : b < (r.Joints.length : Int)) :
    ∃ L : List Int, (vzv r a b).o = some L ∧ L.length ≤ r.Joints.length ∧ ∀ x : Int, x ∈ L ↔ ∃ i : Nat, x = (i : Int) ∧ i < r.Joints.length ∧ ¬ (AncN (parN r) (a + 1).toNat (i + 1) ↔ AncN (parN r) (b + 1).toNat (i + 1)) := by
  have hr' := gz5 hr
  obtain ⟨X, x1, x2, x3⟩ := Azx hr a0 a1
  obtain ⟨Y, y1, y2, y3⟩ := Azx hr b0 b1
  let p : Nat → Bool := fun i => !(decide ((i : Int) ∈ X) == decide ((i : Int) ∈ Y))
  refine ⟨betL p r.Joints.length, ?_, Mz2 _ _, fun x => ?_⟩
  · show (ozk r a b).run NN = _
    simp only [ozk, T.run, dzf, hr, hzu, Option.bind_some]
    rw [cze rfl, show jzk r.Joints.length a = true by simp [jzk]; omega, show jzk r.Joints.length b = true by simp [jzk]; omega]
    simp only [Bool.not_true, cond_false, az7, x1, y1, Option.bind_some]
    refine (bzn (fun j => (betL p j, (j : Int))) (betL p r.Joints.length) r.Joints.length rfl (show r.Joints.length < 4294967296 by omega) (fun j hj => ?_) ?_).trans rfl
    · have := Mz2 p j
      rw [az6 (by simpa using hj)]
      simp only [yza X _ (show X.length < 4294967296 by omega), yza Y _ (show Y.length < 4294967296 by omega), Option.bind_some]
      rw [wn (by omega), Nzx, az8 ⟨by simp; omega, by simp [bz1]; omega⟩]
      show andC (bif p j then _ else _) _ = _
      cases p j <;> rfl
    · rw [az5 (by simp)]
  · rw [Qzp]
    constructor
    · rintro ⟨i, h1, h2, h3⟩
      refine ⟨i, h1, h2, ?_⟩
      rw [← x3, ← y3]
      intro hh
      simp only [p, Bool.not_eq_true', beq_eq_false_iff_ne, ne_eq, decide_eq_decide] at h3
      exact h3 hh
    · rintro ⟨i, h1, h2, h3⟩
      refine ⟨i, h1, h2, ?_⟩
      rw [← x3, ← y3] at h3
      simp only [p, Bool.not_eq_true', beq_eq_false_iff_ne, ne_eq, decide_eq_decide]
      exact h3
theorem Jzp {a b : Int} (a0 : -1 ≤ a) (a1 : a < (r.Joints.length : Int)) (b0 : -1 ≤ b) (b1 : b < (r.Joints.length : Int)) : (Azz r a b).o = some (decide (carN r (a + 1).toNat = carN r (b + 1).toNat)) := by
  have hr' := gz5 hr
  obtain ⟨L, l1, l2, l3⟩ := Ezq hr a0 a1 b0 b1
  show (uz4 r a b).run NN = _
  simp only [uz4, T.run, dzf, hr, hzu, Option.bind_some]
  rw [cze rfl, show jzk r.Joints.length a = true by simp [jzk]; omega, show jzk r.Joints.length b = true by simp [jzk]; omega]
  simp only [Bool.not_true, cond_false, az7, l1, Option.bind_some]
  have hin : ∀ j, j < L.length → 0 ≤ L.getD j default ∧ L.getD j default < (r.Joints.length : Int) := fun j hj => by
    have : L.getD j default ∈ L := by rw [List.getD_eq_getElem?_getD, List.getElem?_eq_getElem hj, Option.getD_some]; exact List.getElem_mem hj
    obtain ⟨i, h1, h2, -⟩ := (l3 _).1 this
    rw [h1]; omega
  refine (fza (fun j => sw (decide ((r.Joints.getD (L.getD j default).toNat default).Lo < (r.Joints.getD (L.getD j default).toNat default).Hi)) false) L.length (by omega) (fun j hj => ?_) ?_).trans ?_
  · rw [az6 (by omega), az8 (by omega), Int.toNat_natCast, az8 (hin j hj), az8 (by omega), az8 (hin j hj), wn (by omega), ← dzl]
  · rw [az5 (by omega)]
  · rw [cz8]
    have : bzk (fun j => decide ((r.Joints.getD (L.getD j default).toNat default).Lo < (r.Joints.getD (L.getD j default).toNat default).Hi)) L.length = decide (carN r (a + 1).toNat = carN r (b + 1).toNat) := by
      rw [Bool.eq_iff_iff, noneB_iff, decide_eq_true_eq]
      unfold carN
      rw [Sz8 (Dz4 hr) (by omega) (by omega) (by omega)]
      constructor
      · intro h x hx
        by_cases hA : AncN (parN r) (a + 1).toNat x ↔ AncN (parN r) (b + 1).toNat x
        · exact hA
        · exfalso
          have hx0 : 0 < x ∧ x ≤ r.Joints.length := by
            by_cases h1 : AncN (parN r) (a + 1).toNat x
            · have := h1.le (Dz4 hr) (by omega); exact ⟨h1.pos.2, by omega⟩
            · by_cases h2 : AncN (parN r) (b + 1).toNat x
              · have := h2.le (Dz4 hr) (by omega); exact ⟨h2.pos.2, by omega⟩
              · exact absurd ⟨fun h => absurd h h1, fun h => absurd h h2⟩ hA
          obtain ⟨i, rfl⟩ : ∃ i, x = i + 1 := ⟨x - 1, by omega⟩
          have hm : (i : Int) ∈ L := (l3 _).2 ⟨i, rfl, by omega, hA⟩
          obtain ⟨j, hj, e⟩ := List.getElem_of_mem hm
          have := h j hj
          have e2 : L.getD j default = (i : Int) := by rw [List.getD_eq_getElem?_getD, List.getElem?_eq_getElem hj, Option.getD_some, e]
          rw [e2, Int.toNat_natCast, decide_eq_false_iff_not] at this
          have jo := (izt hr (show i < r.Joints.length by omega)).lim.1
          apply hx
          simp only [Nat.add_sub_cancel]; omega
      · intro h j hj
        have : L.getD j default ∈ L := by rw [List.getD_eq_getElem?_getD, List.getElem?_eq_getElem hj, Option.getD_some]; exact List.getElem_mem hj
        obtain ⟨i, h1, h2, h3⟩ := (l3 _).1 this
        rw [h1, Int.toNat_natCast, decide_eq_false_iff_not]
        intro hlt
        exact h3 (h (i + 1) (by show (r.Joints.getD (i + 1 - 1) default).Lo ≠ (r.Joints.getD (i + 1 - 1) default).Hi; simp only [Nat.add_sub_cancel]; omega))
    rw [this]; cases decide (carN r (a + 1).toNat = carN r (b + 1).toNat) <;> rfl
omit hr
def skB (l : List ezc) (a b : Int) (i : Nat) : Bool := ((l.getD i default).A == a && (l.getD i default).B == b) || ((l.getD i default).A == b && (l.getD i default).B == a)
def skV (s : aza) (a b : Int) : Bool := !bzk (skB s.Skips a b) s.Skips.length
theorem Dzq (s : aza) (a b : Int) (h : s.Skips.length < 4294967296) : (uzc s a b).o = some (skV s a b) := by
  show (mz9 s a b).run NN = _
  simp only [mz9, T.run, azw, az7, Bool.and_true, czr]
  refine (fza (fun i => sw (skB s.Skips a b i) true) s.Skips.length h (fun j hj => ?_) ?_).trans ?_
  · rw [az6 (by omega), az8 (by omega), wn (by omega), Int.toNat_natCast, ← dzl]; rfl
  · rw [az5 (by omega)]
  · rw [cz8]; unfold skV; cases bzk (skB s.Skips a b) s.Skips.length <;> rfl
theorem Ezr (s : aza) (a b : Int) (h : s.Skips.length < 4294967296) : (vzw s a b).o = some (skV s a b) := by
  show (ozl s a b).run NN = _
  simp only [ozl, T.run]
  refine (fza (fun i => sw (skB s.Skips a b i) true) s.Skips.length h (fun j hj => ?_) ?_).trans ?_
  · rw [az6 (by omega), az8 (by omega), wn (by omega), Int.toNat_natCast, ← dzl]
    unfold skB
    cases (s.Skips.getD j default).A == a <;> cases (s.Skips.getD j default).B == b <;> cases (s.Skips.getD j default).A == b <;> cases (s.Skips.getD j default).B == a <;> rfl
  · rw [az5 (by omega)]
  · rw [cz8]; unfold skV; cases bzk (skB s.Skips a b) s.Skips.length <;> rfl
section
variable (c : Nat → Nat → Bool)
def pin (L : List bzf) (i : Nat) : Nat → List bzf
  | 0 => L
  | m + 1 => if c i (i + 1 + m) then pin L i m ++ [⟨(i : Int), ((i + 1 + m : Nat) : Int)⟩] else pin L i m
def pou (n : Nat) : Nat → List bzf
  | 0 => nl
  | i + 1 => pin c (pou n i) i (n - (i + 1))
theorem Hz6 (L : List bzf) (i : Nat) : ∀ m, (pin c L i m).length ≤ L.length + m
  | 0 => by simp [pin]
  | m + 1 => by
    have := Hz6 L i m
    simp only [pin]; split
    · simp; omega
    · omega
theorem Hz7 {n : Nat} : ∀ i, (pou c n i).length ≤ i * n
  | 0 => by simp [pou, nl]
  | i + 1 => by
    have h1 := Hz7 (n := n) i
    have h2 := Hz6 c (pou c n i) i (n - (i + 1))
    simp only [pou]; rw [Nat.add_mul]; omega
end
def Czr (s : aza) (i : Nat) : Int := (s.Shapes.getD i default).Link
def jzl (s : aza) (i k : Nat) : Bool := !decide (carN s.Robot (Czr s i + 1).toNat = carN s.Robot (Czr s k + 1).toNat) && !skV s (Czr s i) (Czr s k)
def bzj (s : aza) : List bzf := if czp s = 0 then pou (jzl s) s.Shapes.length s.Shapes.length else nl
theorem Jzo (s : aza) : (Azy s).o = some (bzj s) := by
  show (uz3 s).run NN = _
  simp only [uz3, T.run, fzk, Option.bind_some, bzj]
  by_cases h : czp s = 0
  · have so := uzb h
    have so2 := so.len
    have so3 := so.skips
    rw [cze h, if_pos h]
    refine (bzn (fun i => (pou (jzl s) s.Shapes.length i, (i : Int))) (pou (jzl s) s.Shapes.length s.Shapes.length) s.Shapes.length rfl (show s.Shapes.length < 4294967296 by omega) (fun i hi => ?_) ?_).trans rfl
    · rw [az6 (by simpa using hi)]
      simp only [Int.toNat_natCast]
      rw [wn (by omega)]
      refine (bzn (fun m => (pin (jzl s) (pou (jzl s) s.Shapes.length i) i m, ((i + 1 + m : Nat) : Int))) (pou (jzl s) s.Shapes.length (i + 1)) (s.Shapes.length - (i + 1)) rfl (show s.Shapes.length - (i + 1) < 4294967296 by omega) (fun m hm => ?_) ?_).trans rfl
      · have hk : i + 1 + m < s.Shapes.length := by omega
        have l1 := (pzj (so.shape i hi)).2
        have l2 := (pzj (so.shape (i + 1 + m) hk)).2
        have lp := Hz6 (jzl s) (pou (jzl s) s.Shapes.length i) i m
        have lo := Hz7 (jzl s) (n := s.Shapes.length) i
        have li : i * s.Shapes.length ≤ 24 * 24 := Nat.mul_le_mul (by omega) (by omega)
        simp only [Int.toNat_natCast]
        rw [az6 (by omega), az8 ⟨by omega, by omega⟩, az8 ⟨by omega, by omega⟩, wn (by omega)]
        simp only [Jzp so.robot l1.1 l1.2 l2.1 l2.2, Ezr s _ _ (show s.Skips.length < 4294967296 by omega), Option.bind_some, pin]
        have e : (andC (bif (s.Shapes.getD i default).Link != (s.Shapes.getD (i + 1 + m) default).Link then bif !decide (carN s.Robot ((s.Shapes.getD i default).Link + 1).toNat = carN s.Robot ((s.Shapes.getD (i + 1 + m) default).Link + 1).toNat) then
            some (.out (!skV s (s.Shapes.getD i default).Link (s.Shapes.getD (i + 1 + m) default).Link)) else some (.out false) else some (.out false)) : (Bool → Option (Step3 Unit (List bzf) (Step3 (List bzf × Int) (List bzf) (Step3 (List bzf × Int) (List bzf) (List bzf))))) → _) = fun k => k (jzl s i (i + 1 + m)) := by
          funext k
          by_cases hl : (s.Shapes.getD i default).Link = (s.Shapes.getD (i + 1 + m) default).Link
          · rw [cze hl, az7]
            have : jzl s i (i + 1 + m) = false := by simp only [jzl, Czr, hl, decide_true, Bool.not_true, Bool.false_and]
            rw [this]
          · rw [dzv hl]; unfold jzl Czr
            cases decide (carN s.Robot ((s.Shapes.getD i default).Link + 1).toNat = carN s.Robot ((s.Shapes.getD (i + 1 + m) default).Link + 1).toNat) <;> rfl
        rw [e]
        simp only
        rw [az8 ⟨by simp; omega, by simp [bz1]; omega⟩]
        cases jzl s i (i + 1 + m) <;> rfl
      · rw [az5 (by omega)]; rfl
    · rw [az5 (by simp)]
  · rw [dzv h, if_neg h]
theorem Hzm (s : aza) : (yzi s).o = some (bzj s) := by
  show (rze s).run NN = _
  simp only [rze, T.run, iz0, Option.bind_some, bzj]
  by_cases h : czp s = 0
  · have so := uzb h
    have so2 := so.len
    have so3 := so.skips
    have so4 := gz5 so.robot
    rw [cze h, if_pos h, Bzm so.robot, Option.bind_some]
    refine (bzn (fun i => (pou (jzl s) s.Shapes.length i, (i : Int))) (pou (jzl s) s.Shapes.length s.Shapes.length) s.Shapes.length rfl (show s.Shapes.length < 4294967296 by omega) (fun i hi => ?_) ?_).trans rfl
    · rw [az6 (by simpa using hi), az8 ⟨by simp, by simpa using hi⟩]
      simp only [Int.toNat_natCast]
      rw [wn (by omega)]
      refine (bzn (fun m => (pin (jzl s) (pou (jzl s) s.Shapes.length i) i m, ((i + 1 + m : Nat) : Int))) (pou (jzl s) s.Shapes.length (i + 1)) (s.Shapes.length - (i + 1)) rfl (show s.Shapes.length - (i + 1) < 4294967296 by omega) (fun m hm => ?_) ?_).trans rfl
      · have hk : i + 1 + m < s.Shapes.length := by omega
        have l1 := (pzj (so.shape i hi)).2
        have l2 := (pzj (so.shape (i + 1 + m) hk)).2
        have lp := Hz6 (jzl s) (pou (jzl s) s.Shapes.length i) i m
        have lo := Hz7 (jzl s) (n := s.Shapes.length) i
        have li : i * s.Shapes.length ≤ 24 * 24 := Nat.mul_le_mul (by omega) (by omega)
        simp only [Int.toNat_natCast, bzv]
        rw [az6 (by omega), az8 ⟨by omega, by omega⟩, w64 (x := (s.Shapes.getD i default).Link + 1) (by omega) (by omega), w64 (x := (s.Shapes.getD (i + 1 + m) default).Link + 1) (by omega) (by omega),
          az8 ⟨by omega, by omega⟩, az8 ⟨by omega, by omega⟩, wn (by omega), kzn (by omega), kzn (by omega)]
        simp only [Dzq s _ _ (show s.Skips.length < 4294967296 by omega), Option.bind_some, pin]
        have e : (andC (bif !(caP s.Robot ((s.Shapes.getD i default).Link + 1).toNat == caP s.Robot ((s.Shapes.getD (i + 1 + m) default).Link + 1).toNat) then
            some (.out (!skV s (s.Shapes.getD i default).Link (s.Shapes.getD (i + 1 + m) default).Link)) else some (.out false)) : (Bool → Option (Step3 Unit (List bzf) (Step3 (List bzf × Int) (List bzf) (Step3 (List bzf × Int) (List bzf) (List bzf))))) → _) = fun k => k (jzl s i (i + 1 + m)) := by
          funext k
          have e1 : (caP s.Robot ((s.Shapes.getD i default).Link + 1).toNat == caP s.Robot ((s.Shapes.getD (i + 1 + m) default).Link + 1).toNat) = decide (carN s.Robot ((s.Shapes.getD i default).Link + 1).toNat = carN s.Robot ((s.Shapes.getD (i + 1 + m) default).Link + 1).toNat) := by
            rw [Bool.eq_iff_iff]; unfold caP; simp only [beq_iff_eq, decide_eq_true_eq]; omega
          rw [e1]; unfold jzl Czr
          cases decide (carN s.Robot ((s.Shapes.getD i default).Link + 1).toNat = carN s.Robot ((s.Shapes.getD (i + 1 + m) default).Link + 1).toNat) <;> rfl
        rw [e]
        simp only
        rw [az8 ⟨by simp; omega, by simp [bz1]; omega⟩]
        cases jzl s i (i + 1 + m) <;> rfl
      · rw [az5 (by omega)]; rfl
    · rw [az5 (by simp)]
  · rw [dzv h, if_neg h]
theorem u64w {x : Int} (h0 : 0 ≤ x) (h1 : x < 18446744073709551616) : IntKind.u64.wrap x = x := by
  show (if (false && decide (x % 18446744073709551616 ≥ 9223372036854775808)) = true then x % 18446744073709551616 - 18446744073709551616 else x % 18446744073709551616) = x
  rw [if_neg (by simp)]; omega
theorem u8w {x : Int} (h0 : 0 ≤ x) (h1 : x < 256) : IntKind.u8.wrap x = x := by
  show (if (false && decide (x % 256 ≥ 128)) = true then x % 256 - 256 else x % 256) = x
  rw [if_neg (by simp)]; omega
def IsRoot (n s : Int) : Prop := 0 ≤ s ∧ s * s ≤ n ∧ n < (s + 1) * (s + 1)
theorem IsRoot.uniq {n s t : Int} (h1 : IsRoot n s) (h2 : IsRoot n t) : s = t := by
  obtain ⟨a0, a1, a2⟩ := h1
  obtain ⟨b0, b1, b2⟩ := h2
  by_cases h : s < t
  · have : (s + 1) * (s + 1) ≤ t * t := Int.mul_le_mul (by omega) (by omega) (by omega) (by omega)
    omega
  · by_cases h' : t < s
    · have : (t + 1) * (t + 1) ≤ s * s := Int.mul_le_mul (by omega) (by omega) (by omega) (by omega)
      omega
    · omega
theorem Lzd {n : Int} (h0 : 1 ≤ n) (h1 : n < 4611686018427387904) : ∃ s, (mz4 n).o = some s ∧ IsRoot n s := by
  have e0 : (mz4 n).o = (wzl n).run NN := rfl
  rw [e0]
  simp only [wzl, T.run]
  rw [az5 (by omega)]
  refine Kzs (β := Int) (g := fun s => some s) (P := fun s => IsRoot n s) (fun (y : Int × Int) => 1 ≤ y.1 ∧ y.1 < y.2 ∧ y.2 ≤ 4294967296 ∧ y.1 * y.1 ≤ n ∧ n < y.2 * y.2) (fun y => (y.2 - y.1).toNat) (fun s => IsRoot n s)
    ⟨by decide, by decide, by decide, by omega, by simp only; omega⟩ (by decide) (fun y hy => ?_) (fun s hs => ⟨s, rfl, hs⟩)
  obtain ⟨a1, a2, a3, a4, a5⟩ := hy
  rw [w64 (x := y.2 - y.1) (by omega) (by omega)]
  by_cases hd : y.2 - y.1 > 1
  · left
    rw [az6 hd, fzn (by omega), w64 (x := (y.2 - y.1) / 2) (by omega) (by omega), w64 (x := y.1 + (y.2 - y.1) / 2) (by omega) (by omega), az8 (by omega)]
    generalize hm : y.1 + (y.2 - y.1) / 2 = m
    have m1 : y.1 < m ∧ m < y.2 := by omega
    have q := Azg (a := n) (b := m) (by omega)
    have q1 := q.1 (by omega)
    rw [fzn (by omega), w64 (x := n / m) (by omega) (by omega)]
    have key : m ≤ n / m ↔ m * m ≤ n := Int.le_ediv_iff_mul_le (by omega)
    by_cases hc : m ≤ n / m
    · rw [az6 hc]; exact ⟨_, rfl, ⟨by simp only; omega, by simp only; omega, a3, key.1 hc, a5⟩, by simp only; omega⟩
    · rw [az5 hc]; exact ⟨_, rfl, ⟨a1, by simp only; omega, by simp only; omega, a4, by simp only; have := mt key.2 hc; omega⟩, by simp only; omega⟩
  · right
    rw [az5 hd]
    exact ⟨_, rfl, by omega, a4, by rw [show y.1 + 1 = y.2 by omega]; exact a5⟩
def lenT (b : Nat) : Nat := ((#[0, 1, 2, 2, 3, 3, 3, 3, 4, 4, 4, 4, 4, 4, 4, 4, 5, 5, 5, 5, 5, 5, 5, 5, 5, 5, 5, 5, 5, 5, 5, 5, 6, 6, 6, 6, 6, 6, 6, 6, 6, 6, 6, 6, 6, 6, 6, 6, 6, 6, 6, 6, 6, 6, 6, 6, 6, 6, 6, 6, 6, 6, 6, 6, 7, 7, 7, 7, 7, 7, 7, 7, 7, 7, 7, 7, 7, 7, 7, 7, 7, 7, 7, 7, 7, 7, 7, 7, 7, 7, 7, 7, 7, 7, 7, 7, 7, 7, 7, 7, 7, 7, 7, 7, 7, 7, 7, 7, 7, 7, 7, 7, 7, 7, 7, 7, 7, 7, 7, 7, 7, 7, 7, 7, 7, 7, 7, 7, 8, 8, 8, 8, 8, 8, 8, 8, 8, 8, 8, 8, 8, 8, 8, 8, 8, 8, 8, 8, 8, 8, 8, 8, 8, 8, 8, 8, 8, 8, 8, 8, 8, 8, 8, 8, 8, 8, 8, 8, 8, 8, 8, 8, 8, 8, 8, 8, 8, 8, 8, 8, 8, 8, 8, 8, 8, 8, 8, 8, 8, 8, 8, 8, 8, 8, 8, 8, 8, 8, 8, 8, 8, 8, 8, 8, 8, 8, 8, 8, 8, 8, 8, 8, 8, 8, 8, 8, 8, 8, 8, 8, 8, 8, 8, 8, 8, 8, 8, 8, 8, 8, 8, 8, 8, 8, 8, 8, 8, 8, 8, 8, 8, 8, 8, 8, 8, 8, 8, 8, 8, 8, 8, 8, 8, 8, 8, 8] : Array UInt8).getD b 0).toNat
theorem Tzy : ∀ b, b < 256 → b < 2 ^ lenT b ∧ lenT b ≤ 8 := of_decide_eq_true (by kernel_rfl)
def lenE (y : Int × Int) : Option Int := grd (0 ≤ IntKind.u8.wrap y.1 ∧ IntKind.u8.wrap y.1 < ((256 : Nat) : Int)) (some (IntKind.i64.wrap (y.2 + IntKind.i64.wrap ((lenT (IntKind.u8.wrap y.1).toNat : Nat) : Int))))
theorem Vzm (n : Int) : (izi n).o =
    andC (bif decide (n ≥ 4294967296) then some (.out (n.fdiv (2 ^ min (32 : Int).toNat 64), 32)) else some (.out (n, 0)) : Option (Step3 Unit (Int × Int) Int)) fun y5 =>
    andC (bif decide (y5.1 ≥ 65536) then some (.out (y5.1.fdiv (2 ^ min (16 : Int).toNat 64), IntKind.i64.wrap (y5.2 + 16))) else some (.out (y5.1, y5.2)) : Option (Step3 Unit (Int × Int) Int)) fun y6 =>
    andC (bif decide (y6.1 ≥ 256) then some (.out (y6.1.fdiv (2 ^ min (8 : Int).toNat 64), IntKind.i64.wrap (y6.2 + 8))) else some (.out (y6.1, y6.2)) : Option (Step3 Unit (Int × Int) Int)) fun y7 => lenE y7 := by kernel_rfl
theorem zzk {n : Int} (h0 : 0 ≤ n) (h1 : n < 4294967296) : ∃ L : Nat, (izi n).o = some (L : Int) ∧ n < 2 ^ L ∧ L ≤ 32 := by
  rw [Vzm, az5 (by omega), az7]
  have fin : ∀ (x : Int) (k : Nat), 0 ≤ x → x < 256 → k ≤ 24 → n < (x + 1) * 2 ^ k → ∃ L : Nat, lenE (x, (k : Int)) = some (L : Int) ∧ n < 2 ^ L ∧ L ≤ 32 := by
    intro x k x0 x1 hk hn
    obtain ⟨b, rfl⟩ : ∃ b : Nat, x = (b : Int) := ⟨x.toNat, by omega⟩
    have hb := Tzy b (by omega)
    unfold lenE
    simp only
    rw [u8w (by omega) (by omega), az8 ⟨by omega, by omega⟩, Int.toNat_natCast, w64 (x := ((lenT b : Nat) : Int)) (by omega) (by omega), w64 (by omega) (by omega)]
    refine ⟨k + lenT b, by rw [Int.natCast_add], ?_, by omega⟩
    have h2 : (((b + 1 : Nat) : Int)) * 2 ^ k ≤ 2 ^ lenT b * 2 ^ k := by
      refine Int.mul_le_mul_of_nonneg_right ?_ (Int.le_of_lt (bzw k))
      exact_mod_cast hb.1
    rw [Nat.add_comm, Int.pow_add]
    have h3 : ((b : Int) + 1) = ((b + 1 : Nat) : Int) := by omega
    rw [h3] at hn
    omega
  have s16 : ∀ x : Int, x.fdiv (2 ^ min (Int.toNat 16) 64) = x / 65536 := fun x => xz6 x 16
  have s8 : ∀ x : Int, x.fdiv (2 ^ min (Int.toNat 8) 64) = x / 256 := fun x => xz6 x 8
  have p24 : (2 : Int) ^ 24 = 16777216 := by decide
  have p16 : (2 : Int) ^ 16 = 65536 := by decide
  have p8 : (2 : Int) ^ 8 = 256 := by decide
  have e16 : IntKind.i64.wrap (0 + 16) = 16 := by decide
  have e8 : IntKind.i64.wrap (0 + 8) = 8 := by decide
  have e24 : IntKind.i64.wrap (16 + 8) = 24 := by decide
  by_cases c1 : n ≥ 65536
  · rw [az6 c1, az7, s16, e16]
    by_cases c2 : n / 65536 ≥ 256
    · rw [az6 c2, az7, s8, e24]; exact fin _ 24 (by omega) (by omega) (by omega) (by rw [p24]; omega)
    · rw [az5 c2, az7]; exact fin _ 16 (by omega) (by omega) (by omega) (by rw [p16]; omega)
  · rw [az5 c1, az7]
    by_cases c2 : n ≥ 256
    · rw [az6 c2, az7, s8, e8]; exact fin _ 8 (by omega) (by omega) (by omega) (by rw [p8]; omega)
    · rw [az5 c2, az7]; exact fin _ 0 (by omega) (by omega) (by omega) (by simp only [Int.pow_zero]; omega)
theorem Izh {n : Int} (h0 : 1 ≤ n) (h1 : n < 4294967296) : ∃ s, (szu n).o = some s ∧ IsRoot n s := by
  have e0 : (szu n).o = (szx n).run NN := rfl
  rw [e0]
  obtain ⟨L, l1, l2, l3⟩ := zzk (n := n) (by omega) h1
  simp only [szx, T.run]
  rw [az5 (by omega), u64w (x := n) (by omega) (by omega), l1, Option.bind_some, w64 (x := (L : Int) + 1) (by omega) (by omega), fzn (by omega), w64 (x := ((L : Int) + 1) / 2) (by omega) (by omega), az8 (by omega)]
  obtain ⟨W, hW⟩ : ∃ W : Nat, ((L : Int) + 1) / 2 = (W : Int) := ⟨(L + 1) / 2, by omega⟩
  rw [hW, Int.toNat_natCast, Nat.min_eq_left (by omega), Int.one_mul]
  have hw16 : W ≤ 16 := by omega
  have hpw : (2 : Int) ^ W ≤ 65536 := by
    have : (2 : Int) ^ W ≤ 2 ^ 16 := by exact_mod_cast Nat.pow_le_pow_right (by decide : 0 < 2) hw16
    have e : (2 : Int) ^ 16 = 65536 := by decide
    omega
  have hp0 := bzw W
  rw [u64w (x := 2 ^ W) (by omega) (by omega)]
  have hn4 : n < 2 ^ W * 2 ^ W := by
    rw [← Int.pow_add]
    have : (2 : Int) ^ L ≤ 2 ^ (W + W) := by exact_mod_cast Nat.pow_le_pow_right (by decide : 0 < 2) (show L ≤ W + W by omega)
    omega
  refine Kzs (β := Int) (g := fun s => some s) (P := fun s => IsRoot n s) (fun (y : Int × Int × Int) => ∃ k : Nat, y.2.2 = ((W - k : Nat) : Int) ∧ k ≤ W ∧ y.2.1 = 2 ^ k ∧ 0 ≤ y.1 ∧ y.1 ≤ 2 ^ W - 2 ^ k ∧ y.1 * y.1 ≤ n ∧ n < (y.1 + 2 ^ k) * (y.1 + 2 ^ k))
    (fun y => ((W : Int) - y.2.2).toNat) (fun s => IsRoot n s) ⟨W, by simp, Nat.le_refl _, rfl, by simp, by simp, by simp; omega, by simp only [Int.zero_add]; exact hn4⟩ (by show _ < 4294967296; simp only; omega) (fun y hy => ?_) (fun s hs => ⟨IntKind.i64.wrap s, rfl, ?_⟩)
  · obtain ⟨k, b1, b2, b3, b4, b5, b6, b7⟩ := hy
    rw [b1, b3]
    cases k with
    | zero =>
      right
      rw [az5 (by omega)]
      exact ⟨_, rfl, b4, b6, by simpa using b7⟩
    | succ k =>
      left
      have hk2 : (2 : Int) ^ (k + 1) = 2 * 2 ^ k := by rw [Int.pow_succ]; omega
      have hkp := bzw k
      rw [az6 (by omega), fzn (by omega), show (2 : Int) ^ (k + 1) / 2 = 2 ^ k by omega, u64w (x := 2 ^ k) (by omega) (by omega), u64w (x := y.1 + 2 ^ k) (by omega) (by omega)]
      have hsq : (y.1 + 2 ^ k) * (y.1 + 2 ^ k) ≤ 65536 * 65536 := Int.mul_le_mul (by omega) (by omega) (by omega) (by omega)
      have hsq0 : 0 ≤ (y.1 + 2 ^ k) * (y.1 + 2 ^ k) := Int.mul_nonneg (by omega) (by omega)
      rw [u64w (x := (y.1 + 2 ^ k) * (y.1 + 2 ^ k)) hsq0 (by omega)]
      have hi : IntKind.i64.wrap (((W - (k + 1) : Nat) : Int) + 1) = ((W - k : Nat) : Int) := by rw [w64 (by omega) (by omega)]; omega
      rw [hi]
      by_cases hc : (y.1 + 2 ^ k) * (y.1 + 2 ^ k) ≤ n
      · rw [az6 hc, az7]
        exact ⟨_, rfl, ⟨k, rfl, by omega, rfl, by simp only; omega, by simp only; omega, hc, by simp only; rw [show y.1 + 2 ^ k + 2 ^ k = y.1 + 2 ^ (k + 1) by omega]; exact b7⟩, by simp only; omega⟩
      · rw [az5 hc, az7]
        exact ⟨_, rfl, ⟨k, rfl, by omega, rfl, b4, by simp only; omega, b6, by simp only; omega⟩, by simp only; omega⟩
  · obtain ⟨c1, c2, c3⟩ := hs
    have : s ≤ n := by
      by_cases hz : s = 0
      · omega
      · have : s * 1 ≤ s * s := Int.mul_le_mul_of_nonneg_left (by omega) c1
        omega
    rw [w64 (by omega) (by omega)]; exact ⟨c1, c2, c3⟩
noncomputable def szd (n : Int) : Int := (mz4 n).o.getD 0
theorem Mzw {n : Int} (h0 : 1 ≤ n) (h1 : n < 4294967296) : IsRoot n (szd n) ∧ (mz4 n).o = some (szd n) := by
  obtain ⟨s, e, h⟩ := Lzd h0 (by omega)
  unfold szd; rw [e]; exact ⟨h, rfl⟩
theorem Qz2 {n s : Int} (h0 : 1 ≤ n) (h : IsRoot n s) : s ≤ n := by
  obtain ⟨c1, c2, -⟩ := h
  by_cases hz : s = 0
  · omega
  · have : s * 1 ≤ s * s := Int.mul_le_mul_of_nonneg_left (by omega) c1
    omega
noncomputable def rupV (n : Int) : Int := if szd n * szd n < n then szd n + 1 else szd n
theorem Ez9 {n : Int} (h0 : 1 ≤ n) (h1 : n < 4294967296) : (vz9 n).o = some (rupV n) := by
  obtain ⟨s, e, h⟩ := Izh h0 h1
  obtain ⟨k1, k2⟩ := Mzw h0 h1
  have es : s = szd n := h.uniq k1
  have sl := Qz2 h0 k1
  obtain ⟨r1, r2, r3⟩ := k1
  show (nzq n).run NN = _
  simp only [nzq, T.run, e, Option.bind_some, es, rupV]
  rw [w64 (x := szd n * szd n) (by have := Int.mul_nonneg r1 r1; omega) (by omega), w64 (x := szd n + 1) (by omega) (by omega)]
  by_cases hc : szd n * szd n < n
  · rw [az6 hc, if_pos hc, az7]
  · rw [az5 hc, if_neg hc, az7]
theorem Hzg {n : Int} (h0 : 1 ≤ n) (h1 : n < 4294967296) : (yz7 n).o = some (rupV n) := by
  obtain ⟨k1, k2⟩ := Mzw h0 h1
  have sl := Qz2 h0 k1
  obtain ⟨r1, r2, r3⟩ := k1
  show (rz2 n).run NN = _
  simp only [rz2, T.run, k2, Option.bind_some, rupV]
  rw [az6 (by omega), az7, w64 (x := szd n * szd n) (by have := Int.mul_nonneg r1 r1; omega) (by omega), w64 (x := szd n + 1) (by omega) (by omega)]
  by_cases hc : szd n * szd n < n
  · rw [az6 hc, if_pos hc, az7]
  · rw [az5 hc, if_neg hc, az7]
abbrev V3 := Int × Int × Int
def bz0 (n : V3) : Bool := !((n.1 == 0) && ((n.2.1 == 0) && ((n.2.2 == 0) && true))) && fz6 n 16384
theorem ezu (n : V3) : (dzb n).o = some (bz0 n) := by
  show (oza n).run NN = _
  simp only [oza, T.run, ezi n (show (0 : Int) ≤ 16384 by decide) (by decide), Option.bind_some, bz0]
  cases (n.1 == 0) && ((n.2.1 == 0) && ((n.2.2 == 0) && true)) <;> rfl
def bey2 (x : Int) : Bool := decide (x < -16384) || decide (x > 16384)
theorem fzm (v : V3) : (dzg v).o = some (fz6 v 16384) := by
  show (izy v).run NN = _
  simp only [izy, T.run, azw, az7, czr]
  refine (fza (fun i => sw (bey2 (([v.1, v.2.1, v.2.2] : List Int).getD i 0)) false) 3 (by decide) (fun j hj => ?_) ?_).trans ?_
  · rw [az6 (by omega), az8 (by omega), wn (by omega), Int.toNat_natCast, ← dzl]; rfl
  · rw [az5 (by omega)]
  · rw [cz8]
    have : bzk (fun i => bey2 (([v.1, v.2.1, v.2.2] : List Int).getD i 0)) 3 = fz6 v 16384 := by
      rw [Bool.eq_iff_iff, noneB_iff, nearV_iff]
      constructor
      · intro h
        have a := h 0 (by decide); have b := h 1 (by decide); have c := h 2 (by decide)
        simp only [bey2, List.getD_cons_zero, List.getD_cons_succ, Bool.or_eq_false_iff, decide_eq_false_iff_not] at a b c
        omega
      · intro h i hi
        match i, hi with
        | 0, _ => simp only [bey2, List.getD_cons_zero, Bool.or_eq_false_iff, decide_eq_false_iff_not]; omega
        | 1, _ => simp only [bey2, List.getD_cons_zero, List.getD_cons_succ, Bool.or_eq_false_iff, decide_eq_false_iff_not]; omega
        | 2, _ => simp only [bey2, List.getD_cons_zero, List.getD_cons_succ, Bool.or_eq_false_iff, decide_eq_false_iff_not]; omega
    rw [this]; cases fz6 v 16384 <;> rfl
theorem dzr (n : V3) : (dzq n).o = some (bz0 n) := by
  show (kzm n).run NN = _
  simp only [kzm, T.run, fzm, Option.bind_some, bz0]
  cases fz6 n 16384 <;> cases (n.1 == 0) && ((n.2.1 == 0) && ((n.2.2 == 0) && true)) <;> rfl
theorem Dzy {n : V3} (h : bz0 n = true) : ((-16384 ≤ n.1 ∧ n.1 ≤ 16384) ∧ (-16384 ≤ n.2.1 ∧ n.2.1 ≤ 16384) ∧ (-16384 ≤ n.2.2 ∧ n.2.2 ≤ 16384)) ∧ (n.1 ≠ 0 ∨ n.2.1 ≠ 0 ∨ n.2.2 ≠ 0) := by
  simp only [bz0, Bool.and_eq_true, nearV_iff, Bool.not_eq_true', Bool.and_eq_false_iff, beq_eq_false_iff_ne, ne_eq, Bool.and_true] at h
  refine ⟨h.2, ?_⟩
  rcases h.1 with h | h | h
  · exact Or.inl h
  · exact Or.inr (Or.inl h)
  · exact Or.inr (Or.inr h)
theorem Uzn {x : Int} (h : -16384 ≤ x ∧ x ≤ 16384) : 0 ≤ x * x ∧ x * x ≤ 268435456 ∧ (x ≠ 0 → 1 ≤ x * x) := by
  have h1 : (x * x).natAbs ≤ 16384 * 16384 := by rw [Int.natAbs_mul]; exact Nat.mul_le_mul (by omega) (by omega)
  have h0 : 0 ≤ x * x := by
    by_cases hx : 0 ≤ x
    · exact Int.mul_nonneg hx hx
    · exact Int.mul_nonneg_of_nonpos_of_nonpos (by omega) (by omega)
  refine ⟨h0, by omega, fun hx => ?_⟩
  have : x * x ≠ 0 := Int.mul_ne_zero hx hx
  omega
def sqV (n : V3) : Int := n.1 * n.1 + n.2.1 * n.2.1 + n.2.2 * n.2.2
noncomputable def Lz3 (n : V3) : Int := if bz0 n then rupV (sqV n) else 0
theorem Tz0 {n : V3} (h : bz0 n = true) : 1 ≤ sqV n ∧ sqV n < 4294967296 ∧ IntKind.i64.wrap (IntKind.i64.wrap (IntKind.i64.wrap (n.1 * n.1) + IntKind.i64.wrap (n.2.1 * n.2.1)) + IntKind.i64.wrap (n.2.2 * n.2.2)) = sqV n := by
  obtain ⟨⟨b1, b2, b3⟩, hz⟩ := Dzy h
  have s1 := Uzn b1; have s2 := Uzn b2; have s3 := Uzn b3
  unfold sqV
  rw [w64 (x := n.1 * n.1) (by omega) (by omega), w64 (x := n.2.1 * n.2.1) (by omega) (by omega), w64 (x := n.2.2 * n.2.2) (by omega) (by omega), w64 (x := n.1 * n.1 + n.2.1 * n.2.1) (by omega) (by omega), w64 (by omega) (by omega)]
  refine ⟨?_, by omega, rfl⟩
  rcases hz with h | h | h
  · have := s1.2.2 h; omega
  · have := s2.2.2 h; omega
  · have := s3.2.2 h; omega
theorem ozw (n : V3) : (ozu n).o = some (Lz3 n) := by
  show (ozv n).run NN = _
  simp only [ozv, T.run, T.ix, dzr, Option.bind_some, Lz3]
  cases h : bz0 n
  · rfl
  · have hs := Tz0 h
    simp only [Bool.not_true, cond_false, if_true]
    rw [hs.2.2, Ez9 hs.1 hs.2.1]; rfl
theorem tzl (n : V3) : (nz1 n).o = some (Lz3 n) := by
  show (tzk n).run NN = _
  simp only [tzk, T.run, T.ix, ezu, Option.bind_some, Lz3]
  cases h : bz0 n
  · rfl
  · have hs := Tz0 h
    simp only [Bool.not_true, cond_false, if_true]
    rw [hs.2.2, Hzg hs.1 hs.2.1]; rfl
end Go.Abs
