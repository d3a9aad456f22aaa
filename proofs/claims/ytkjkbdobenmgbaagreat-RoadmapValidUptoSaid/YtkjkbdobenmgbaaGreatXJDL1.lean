/-
  DL1 (a part of a claim: our own text).
-/
import Derived.Test.YtkjkbdobenmgbaaGreatXJPLib
import Derived.Test.YtkjkbdobenmgbaaGreatXJD3
import Derived.Lib.DecodeN
namespace Go.Abs
theorem bif_eq {α : Type} {a b : Int} {x y : α} (h : a = b) : (bif (a == b) then x else y) = x := bif_pos (by simpa using h)
theorem bif_ne {α : Type} {a b : Int} {x y : α} (h : a ≠ b) : (bif (a == b) then x else y) = y := bif_neg (by simpa using h)
theorem bif_neq {α : Type} {a b : Int} {x y : α} (h : a ≠ b) : (bif (a != b) then x else y) = x := bif_pos (by simpa using h)
theorem bif_nne {α : Type} {a b : Int} {x y : α} (h : a = b) : (bif (a != b) then x else y) = y := bif_neg (by simpa using h)
theorem wr (n : Int) : IntKind.i64.wrap n = (n + 9223372036854775808) % 18446744073709551616 - 9223372036854775808 := by
  show (if (true && decide (n % 18446744073709551616 ≥ 9223372036854775808)) = true then n % 18446744073709551616 - 18446744073709551616 else n % 18446744073709551616) = _
  by_cases h : n % 18446744073709551616 ≥ 9223372036854775808
  · rw [if_pos (by rw [decide_eq_true h]; rfl)]; omega
  · rw [if_neg (by rw [decide_eq_false h]; decide)]; omega
theorem tdiv_pos {a b : Int} (ha : 0 ≤ a) : a.tdiv b = a / b := Int.tdiv_eq_ediv_of_nonneg ha
theorem tdiv_negl (a b : Int) : (-a).tdiv b = -(a.tdiv b) := Int.neg_tdiv a b
theorem div_unique {a b q r : Int} (h0 : 0 ≤ r) (h1 : r < b) (h : a = b * q + r) : a / b = q := by
  subst h
  rw [Int.mul_add_ediv_left _ _ (by omega : b ≠ 0), Int.ediv_eq_zero_of_lt h0 h1]; omega
def scan {R : Type} (g : Nat → Option R) : Nat → Nat → Option R
  | 0, _ => none
  | n + 1, i => match g i with
    | some r => some r
    | none => scan g n (i + 1)
theorem scan_none {R : Type} {g : Nat → Option R} : ∀ (n i : Nat), scan g n i = none ↔ ∀ j, i ≤ j → j < i + n → g j = none
  | 0, i => by simp only [scan, true_iff]; intro j h1 h2; omega
  | n + 1, i => by
    simp only [scan]
    constructor
    · intro h
      split at h
      · cases h
      · rename_i h0
        intro j h1 h2
        by_cases e : j = i
        · subst e; exact h0
        · exact (scan_none n (i + 1)).1 h j (by omega) (by omega)
    · intro h
      rw [h i (by omega) (by omega)]
      exact (scan_none n (i + 1)).2 fun j h1 h2 => h j (by omega) (by omega)
theorem scan_some {R : Type} {g : Nat → Option R} {r : R} : ∀ (n i : Nat), scan g n i = some r → ∃ j, i ≤ j ∧ j < i + n ∧ g j = some r ∧ ∀ k, i ≤ k → k < j → g k = none
  | 0, i, h => by cases h
  | n + 1, i, h => by
    simp only [scan] at h
    split at h
    · rename_i h0; cases h; exact ⟨i, by omega, by omega, h0, fun k h1 h2 => by omega⟩
    · rename_i h0
      obtain ⟨j, h1, h2, h3, h4⟩ := scan_some n (i + 1) h
      refine ⟨j, by omega, by omega, h3, fun k h5 h6 => ?_⟩
      by_cases e : k = i
      · subst e; exact h0
      · exact h4 k (by omega) h6
theorem iter_scan {σ τ R : Type} {f : σ → Option (Step3 σ τ R)} (st : Nat → σ) (g : Nat → Option R) (y : τ) :
    ∀ (n i N : Nat), n < N → (∀ j, i ≤ j → j < i + n → f (st j) = match g j with | some r => some (.fin r) | none => some (.next (st (j + 1)))) → f (st (i + n)) = some (.out y) →
      iter f N (st i) = some (match scan g n i with | some r => .inr r | none => .inl y)
  | 0, i, 0, h, _, _ => by omega
  | 0, i, N + 1, _, _, h => by simp only [Nat.add_zero] at h; simp [iter, h, scan]
  | n + 1, i, 0, h, _, _ => by omega
  | n + 1, i, N + 1, h0, hs, he => by
    have h1 := hs i (by omega) (by omega)
    simp only [scan]
    cases hg : g i with
    | some r => rw [hg] at h1; simp [iter, h1]
    | none =>
      rw [hg] at h1
      simp only [iter, h1]
      exact iter_scan st g y n (i + 1) N (by omega) (fun j a b => hs j (by omega) (by omega)) (by rw [← he]; congr 2; omega)
theorem loop_scan {σ τ R : Type} {f : σ → Option (Step3 σ τ R)} {k : τ → Option R} {x : σ} (st : Nat → σ) (g : Nat → Option R) (y : τ) (n : Nat) (hx : x = st 0) (hn : n < NN)
    (hs : ∀ j, j < n → f (st j) = match g j with | some r => some (.fin r) | none => some (.next (st (j + 1)))) (he : f (st n) = some (.out y)) :
    andK (iter f NN x) k = match scan g n 0 with | some r => some r | none => k y := by
  rw [hx, iter_scan st g y n 0 NN hn (fun j _ h => hs j (by omega)) (by rw [Nat.zero_add]; exact he)]
  cases scan g n 0 <;> rfl
theorem loop_to {σ τ R : Type} {f : σ → Option (Step3 σ τ R)} {k : τ → Option R} {x : σ} (st : Nat → σ) (y : τ) (n : Nat) (hx : x = st 0) (hn : n < NN)
    (hs : ∀ j, j < n → f (st j) = some (.next (st (j + 1)))) (he : f (st n) = some (.out y)) : andK (iter f NN x) k = k y := by
  rw [hx, andK_inl (iter_out st rfl n hn hs he)]
theorem grd_p {R : Type} {p : Prop} [Decidable p] {k : Option R} (h : p) : grd p k = k := by unfold grd; simp [h]
theorem bif_some {α : Type} {b : Bool} {x y : α} : (bif b then some x else some y) = some (bif b then x else y) := by cases b <;> rfl
theorem bif_out {σ τ R : Type} {b : Bool} {x y : τ} : (bif b then some (Step3.out x) else some (Step3.out y) : Option (Step3 σ τ R)) = some (.out (bif b then x else y)) := by cases b <;> rfl
theorem bif_tb {b c : Bool} : (bif b then true else c) = (b || c) := by cases b <;> rfl
theorem bif_bf {b c : Bool} : (bif b then c else false) = (b && c) := by cases b <;> rfl
theorem kindP (k a b c : Int) {R : Type} : (bif k == a then some (.out (k == a)) else bif k == b then some (.out (k == b)) else some (.out (k == c)) : Option (Step3 Unit Bool R)) = some (.out (decide (k = a ∨ k = b ∨ k = c))) := by
  by_cases h1 : k = a
  · rw [bif_eq h1]; simp [h1]
  · rw [bif_ne h1]
    by_cases h2 : k = b
    · rw [bif_eq h2]; simp [h2]
    · rw [bif_ne h2]; simp [h1, h2, Bool.beq_eq_decide_eq]
theorem scanI {R : Type} {f : Int → Option (Step3 Int U0 R)} {k : U0 → Option R} (g : Nat → Option R) (n : Nat) (hn : n < 4294967296)
    (hs : ∀ j, j < n → f (j : Int) = match g j with | some r => some (.fin r) | none => some (.next ((j + 1 : Nat) : Int))) (he : f (n : Int) = some (.out .u)) :
    andK (iter f NN 0) k = match scan g n 0 with | some r => some r | none => k .u := loop_scan (fun j => (j : Int)) g .u n rfl hn hs he
theorem wn {n : Nat} (h : n < 4294967296) : IntKind.i64.wrap ((n : Int) + 1) = ((n + 1 : Nat) : Int) := w64n (by omega)
def sw {R : Type} (b : Bool) (r : R) : Option R := bif b then some r else none
theorem sw_fin {σ τ R : Type} {b : Bool} {r : R} {x : σ} : (bif b then some (.fin r) else some (.next x) : Option (Step3 σ τ R)) = match sw b r with | some r => some (.fin r) | none => some (.next x) := by cases b <;> rfl
def noneB (g : Nat → Bool) (n : Nat) : Bool := decide (∀ i, i < n → g i = false)
theorem scan_sw {R : Type} {g : Nat → Bool} {n : Nat} {r : R} : scan (fun i => sw (g i) r) n 0 = sw (!noneB g n) r := by
  cases h : scan (fun i => sw (g i) r) n 0 with
  | none =>
    rw [scan_none] at h
    have : noneB g n = true := decide_eq_true fun i hi => by
      have := h i (Nat.zero_le _) (by omega)
      unfold sw at this
      cases hg : g i with
      | true => rw [hg] at this; cases this
      | false => rfl
    rw [this]; rfl
  | some x =>
    obtain ⟨j, h1, h2, h3, -⟩ := scan_some _ _ h
    have : noneB g n = false := decide_eq_false fun hn => by
      have := hn j (by omega)
      simp only [this, sw, cond_false] at h3; cases h3
    rw [this]
    unfold sw at h3 ⊢
    cases hg : g j with
    | true => rw [hg] at h3; simpa using h3.symm
    | false => rw [hg] at h3; cases h3
theorem noneB_iff {g : Nat → Bool} {n : Nat} : noneB g n = true ↔ ∀ i, i < n → g i = false := by simp [noneB]
theorem get_at (s : ByteArray) (i : Nat) : s.get! i = s.data.getD i 0 := by
  cases s with | mk d => simp only [ByteArray.get!]; rw [getElem!_def, Array.getD_eq_getD_getElem?]; cases d[i]? <;> rfl
def byteV (s : ByteArray) (i : Nat) : Nat := (s.data.getD i 0).toNat
theorem dec_lo {s : ByteArray} {i : Nat} (h : byteV s i < 128) : Utf8.decode s i = (byteV s i, 1) := by
  rw [Lib.decode_at, get_at]; exact if_pos h
theorem dec_hi {s : ByteArray} {i : Nat} (h : 128 ≤ byteV s i) : 128 ≤ (Utf8.decode s i).1 := by
  rw [Lib.decode_at, get_at]
  unfold Lib.decodeN
  rw [if_neg (by unfold byteV at h; omega)]
  repeat' split
  all_goals (simp only; omega)
def badN (s : ByteArray) (i : Nat) : Bool := decide (¬ (97 ≤ byteV s i ∧ byteV s i ≤ 122) ∧ (i = 0 ∨ (byteV s i ≠ 95 ∧ ¬ (48 ≤ byteV s i ∧ byteV s i ≤ 57))))
def nameV (s : ByteArray) : Bool := !(decide (s.size = 0) || (decide (16 < s.size) || (s == ⟨#[119, 111, 114, 108, 100]⟩))) && noneB (badN s) s.size
theorem ref6_Name_e (s : ByteArray) : (ref6_Name_C s).o = some (nameV s) := by
  show (ref6_Name_T s).run NN = _
  simp only [ref6_Name_T, T.run, bif_out, andC_out, nameV, bif_tb]
  have e1 : decide ((s.size : Int) < 1) = decide (s.size = 0) := by congr 1; apply propext; omega
  have e2 : decide ((s.size : Int) > 16) = decide (16 < s.size) := by congr 1; apply propext; omega
  rw [e1, e2]
  cases h : (decide (s.size = 0) || (decide (16 < s.size) || (s == ⟨#[119, 111, 114, 108, 100]⟩)))
  · simp only [Bool.or_eq_false_iff, decide_eq_false_iff_not] at h
    rw [cond_false]
    refine (scanI (fun i => sw (badN s i) false) s.size (by omega) (fun j hj => ?_) ?_).trans ?_
    · rw [bif_dpos (by omega), ← sw_fin, wn (by omega)]
      simp only [Int.toNat_natCast, grd_p (show 0 ≤ (j : Int) ∧ (j : Int) < (s.size : Int) by omega), bif_out, andC_out]
      refine congrArg (fun b => bif b then some (Step3.fin false) else some (Step3.next ((j + 1 : Nat) : Int))) ?_
      rw [Bool.eq_iff_iff]
      simp only [bif_tb, bif_bf, badN, Bool.and_eq_true, Bool.or_eq_true, Bool.not_eq_true', Bool.and_eq_false_iff, Bool.or_eq_false_iff, decide_eq_true_eq, decide_eq_false_iff_not, beq_iff_eq, bne_iff_ne, ne_eq]
      unfold byteV
      omega
    · rw [bif_dneg (by omega)]
    · rw [scan_sw]
      cases noneB (badN s) s.size <;> rfl
  · rfl
theorem token_isLetter_e (a : Int) : (token_isLetter_C a).o = some (decide (97 ≤ a) && decide (a ≤ 122)) := by
  show (token_isLetter_T a).run NN = _
  simp only [token_isLetter_T, T.run, bif_some, bif_bf]
theorem token_isDigit_e (a : Int) : (token_isDigit_C a).o = some (decide (48 ≤ a) && decide (a ≤ 57)) := by
  show (token_isDigit_T a).run NN = _
  simp only [token_isDigit_T, T.run, bif_some, bif_bf]
theorem token_Name_e (s : ByteArray) : (token_Name_C s).o = some (nameV s) := by
  show (token_Name_T s).run NN = _
  simp only [token_Name_T, T.run, bif_out, andC_out, nameV, bif_tb]
  have e1 : ((s.size : Int) == 0) = decide (s.size = 0) := by rw [Bool.eq_iff_iff]; simp
  have e2 : decide ((s.size : Int) > 16) = decide (16 < s.size) := by congr 1; apply propext; omega
  rw [e1, e2]
  cases h : (decide (s.size = 0) || (decide (16 < s.size) || (s == ⟨#[119, 111, 114, 108, 100]⟩)))
  · simp only [Bool.or_eq_false_iff, decide_eq_false_iff_not] at h
    rw [cond_false]
    refine (loop_scan (fun j => j) (fun i => sw (badN s i) false) .u s.size rfl (show s.size < 4294967296 by omega) (fun j hj => ?_) ?_).trans ?_
    · rw [bif_dpos hj]
      simp only [token_isLetter_e, token_isDigit_e, Option.bind_some, bif_out, andC_out]
      have key : (bif !(decide (97 ≤ ((Utf8.decode s j).1 : Int)) && decide (((Utf8.decode s j).1 : Int) ≤ 122)) then bif ((j : Int) == 0) then true else
          bif !(decide (48 ≤ ((Utf8.decode s j).1 : Int)) && decide (((Utf8.decode s j).1 : Int) ≤ 57)) then ((Utf8.decode s j).1 : Int) != 95 else false else false) = badN s j := by
        by_cases hb : byteV s j < 128
        · rw [dec_lo hb, Bool.eq_iff_iff]
          simp only [bif_tb, bif_bf, badN, Bool.and_eq_true, Bool.or_eq_true, Bool.not_eq_true', Bool.and_eq_false_iff, Bool.or_eq_false_iff, decide_eq_true_eq, decide_eq_false_iff_not, beq_iff_eq, bne_iff_ne, ne_eq]
          omega
        · have := dec_hi (s := s) (i := j) (by omega)
          rw [Bool.eq_iff_iff]
          simp only [bif_tb, bif_bf, badN, Bool.and_eq_true, Bool.or_eq_true, Bool.not_eq_true', Bool.and_eq_false_iff, Bool.or_eq_false_iff, decide_eq_true_eq, decide_eq_false_iff_not, beq_iff_eq, bne_iff_ne, ne_eq]
          omega
      rw [key]
      cases hbad : badN s j
      · have : byteV s j < 128 := by
          simp only [badN, decide_eq_false_iff_not] at hbad
          omega
        rw [dec_lo this]; rfl
      · rfl
    · rw [bif_dneg (by omega)]
    · rw [scan_sw]
      cases noneB (badN s) s.size <;> rfl
  · rfl
def findB (l : List S_Joint) (nm : ByteArray) (i : Nat) : Bool := (l.getD i default).Name == nm
theorem robot_Find_e (r : S_Robot) (nm : ByteArray) (h : r.Joints.length < 4294967296) : (robot_Find_C r nm).o = some (match scan (fun i => sw (findB r.Joints nm i) (i : Int)) r.Joints.length 0 with | some x => x | none => -1) := by
  show (robot_Find_T r nm).run NN = _
  simp only [robot_Find_T, T.run]
  refine (scanI (fun i => sw (findB r.Joints nm i) (i : Int)) r.Joints.length h (fun j hj => ?_) ?_).trans ?_
  · rw [bif_dpos (by omega), grd_p (by omega), wn (by omega), Int.toNat_natCast, ← sw_fin]; rfl
  · rw [bif_dneg (by omega)]
  · cases scan (fun i => sw (findB r.Joints nm i) (i : Int)) r.Joints.length 0 <;> rfl
theorem ba_refl (b : ByteArray) : (b == b) = true := by
  obtain ⟨d⟩ := b
  show (d == d) = true
  exact beq_self_eq_true d
theorem find_ne {l : List S_Joint} {i : Nat} (hi : i < l.length) : ((match scan (fun k => sw (findB l (l.getD i default).Name k) (k : Int)) l.length 0 with | some x => x | none => -1) != (i : Int)) = !noneB (findB l (l.getD i default).Name) i := by
  have hself : findB l (l.getD i default).Name i = true := ba_refl _
  cases h : scan (fun k => sw (findB l (l.getD i default).Name k) (k : Int)) l.length 0 with
  | none =>
    rw [scan_none] at h
    have := h i (Nat.zero_le _) (by omega)
    simp only [hself, sw, cond_true] at this; cases this
  | some x =>
    obtain ⟨j, h1, h2, h3, h4⟩ := scan_some _ _ h
    have hj : findB l (l.getD i default).Name j = true ∧ x = (j : Int) := by
      cases hb : findB l (l.getD i default).Name j with
      | false => simp only [hb, sw, cond_false] at h3; cases h3
      | true => simp only [hb, sw, cond_true, Option.some.injEq] at h3; exact ⟨rfl, h3.symm⟩
    have hji : j ≤ i := by
      by_cases e : j ≤ i
      · exact e
      · have := h4 i (Nat.zero_le _) (by omega)
        simp only [hself, sw, cond_true] at this; cases this
    simp only [hj.2]
    rw [Bool.eq_iff_iff]
    rw [bne_iff_ne, Bool.not_eq_true', ← Bool.not_eq_true]
    constructor
    · intro hne hall
      have := noneB_iff.1 hall j (by omega)
      rw [hj.1] at this; cases this
    · intro hn e
      apply hn
      rw [noneB_iff]
      intro k hk
      have := h4 k (Nat.zero_le _) (by omega)
      cases hb : findB l (l.getD i default).Name k with
      | false => rfl
      | true => simp only [hb, sw, cond_true] at this; cases this
def nearV (v : Int × Int × Int) (m : Int) : Bool := decide (-m ≤ v.1) && (decide (v.1 ≤ m) && (decide (-m ≤ v.2.1) && (decide (v.2.1 ≤ m) && (decide (-m ≤ v.2.2) && decide (v.2.2 ≤ m)))))
theorem nearV_iff {v : Int × Int × Int} {m : Int} : nearV v m = true ↔ (-m ≤ v.1 ∧ v.1 ≤ m) ∧ (-m ≤ v.2.1 ∧ v.2.1 ≤ m) ∧ (-m ≤ v.2.2 ∧ v.2.2 ≤ m) := by
  simp only [nearV, Bool.and_eq_true, decide_eq_true_eq, and_assoc]
theorem ref6_Near_e (v : Int × Int × Int) {m : Int} (h0 : 0 ≤ m) (h1 : m ≤ 9223372036854775807) : (ref6_Near_C v m).o = some (nearV v m) := by
  show (ref6_Near_T v m).run NN = _
  simp only [ref6_Near_T, T.run, T.ix, bif_out, andC_out]
  simp only [bif_some]
  rw [w64 (x := 0 - m) (by omega) (by omega)]
  congr 1
  rw [Bool.eq_iff_iff, nearV_iff]
  simp only [bif_tb]
  cases h1 : decide (v.1 < 0 - m) || decide (v.1 > m) <;> cases h2 : decide (v.2.1 < 0 - m) || decide (v.2.1 > m) <;> cases h3 : decide (v.2.2 < 0 - m) || decide (v.2.2 > m) <;>
    simp only [Bool.or_eq_true, Bool.or_eq_false_iff, decide_eq_true_eq, decide_eq_false_iff_not] at h1 h2 h3 <;> simp only [cond_true, cond_false, true_iff, false_iff, reduceCtorEq] <;> omega
def bey (x : Int) : Bool := decide (x < -4194304) || decide (x > 4194304)
theorem robot_beyond_e (v : Int × Int × Int) : (robot_beyond_C v).o = some (!nearV v 4194304) := by
  show (robot_beyond_T v).run NN = _
  simp only [robot_beyond_T, T.run, bif_out, andC_out, bif_tb]
  refine (scanI (fun i => sw (bey (([v.1, v.2.1, v.2.2] : List Int).getD i 0)) true) 3 (by decide) (fun j hj => ?_) ?_).trans ?_
  · rw [bif_dpos (by omega), grd_p (by omega), wn (by omega), Int.toNat_natCast, ← sw_fin]; rfl
  · rw [bif_dneg (by omega)]
  · rw [scan_sw]
    have : noneB (fun i => bey (([v.1, v.2.1, v.2.2] : List Int).getD i 0)) 3 = nearV v 4194304 := by
      rw [Bool.eq_iff_iff, noneB_iff, nearV_iff]
      constructor
      · intro h
        have a := h 0 (by decide); have b := h 1 (by decide); have c := h 2 (by decide)
        simp only [bey, List.getD_cons_zero, List.getD_cons_succ, Bool.or_eq_false_iff, decide_eq_false_iff_not] at a b c
        omega
      · intro h i hi
        match i, hi with
        | 0, _ => simp only [bey, List.getD_cons_zero, Bool.or_eq_false_iff, decide_eq_false_iff_not]; omega
        | 1, _ => simp only [bey, List.getD_cons_zero, List.getD_cons_succ, Bool.or_eq_false_iff, decide_eq_false_iff_not]; omega
        | 2, _ => simp only [bey, List.getD_cons_zero, List.getD_cons_succ, Bool.or_eq_false_iff, decide_eq_false_iff_not]; omega
    rw [this]; cases nearV v 4194304 <;> rfl
def reachV (k : Int) : Int := if k = 0 then 0 else if k = 1 ∨ k = 2 ∨ k = 3 then 524288 else 4194304
theorem robot_limit_e {k : Int} (h0 : 0 ≤ k) (h1 : k ≤ 6) : (robot_limit_C k).o = some (reachV k) := by
  show (robot_limit_T k).run NN = _
  simp only [robot_limit_T, T.run, kindP, andC_out, reachV]
  by_cases h : k = 1 ∨ k = 2 ∨ k = 3
  · rw [bif_dpos h, if_neg (by omega), if_pos h]
  · rw [bif_dneg h]
    by_cases h' : k = 4 ∨ k = 5 ∨ k = 6
    · rw [bif_dpos h', if_neg (by omega), if_neg h]
    · rw [bif_dneg h', if_pos (by omega)]
theorem ref6_reach_e (k : Int) : (ref6_reach_C k).o = some (reachV k) := by
  show (ref6_reach_T k).run NN = _
  simp only [ref6_reach_T, T.run, kindP, andC_out, reachV]
  by_cases h0 : k = 0
  · rw [bif_eq h0, if_pos h0]
  · rw [bif_ne h0, if_neg h0]
    by_cases h : k = 1 ∨ k = 2 ∨ k = 3
    · rw [bif_dpos h, if_pos h]
    · rw [bif_dneg h, if_neg h]
def betV (x a b : Int) : Bool := decide (a ≤ x) && decide (x ≤ b)
theorem robot_from1_e (x m : Int) : (robot_from1_C x m).o = some (betV x 1 m) := by
  show (robot_from1_T x m).run NN = _
  simp only [robot_from1_T, T.run, bif_some, bif_bf, betV]
theorem ref6_between_e (x a b : Int) : (ref6_between_C x a b).o = some (betV x a b) := by
  show (ref6_between_T x a b).run NN = _
  simp only [ref6_between_T, T.run, bif_some, bif_bf, betV]
def costV (j : S_Joint) : Bool := betV j.Weight 1 1024 && (betV j.Speed 1 1048576 && (betV j.Accel 1 1048576 && betV j.Torque 1 1099511627776))
def jointB (l : List S_Joint) (i : Nat) : Int :=
  let j := l.getD i default
  if !nameV j.Name || !noneB (findB l j.Name) i then 802 else if decide (j.Kind < 0) || decide (j.Kind > 6) then 803 else if decide (j.Parent < -1) || decide (j.Parent ≥ (i : Int)) then 804 else if !nearV j.Offset 4194304 then 805 else
  if decide (j.Lo > j.Hi) || (decide (j.Lo < -reachV j.Kind) || decide (j.Hi > reachV j.Kind)) then 806 else if !costV j then 807 else 0
theorem cost4 : ∀ a b c d : Bool, (bif !a || (!b || (!c || !d)) then some (807 : Int) else some 0) = some (if (!(a && (b && (c && d)))) = true then 807 else 0) := by decide
theorem reach_bd (k : Int) : 0 ≤ reachV k ∧ reachV k ≤ 4194304 := by unfold reachV; split <;> (try split) <;> omega
theorem neg_reach (k : Int) : IntKind.i64.wrap (0 - reachV k) = -reachV k := by
  have := reach_bd k; rw [w64 (by omega) (by omega)]; omega
theorem robot_checkJoint_e (r : S_Robot) {i : Nat} (hi : i < r.Joints.length) (h : r.Joints.length < 4294967296) : (robot_checkJoint_C r (i : Int)).o = some (jointB r.Joints i) := by
  show (robot_checkJoint_T r (i : Int)).run NN = _
  simp only [robot_checkJoint_T, T.run]
  rw [grd_p (by omega), Int.toNat_natCast]
  simp only [token_Name_e, robot_Find_e r _ h, robot_beyond_e, robot_from1_e, Option.bind_some, bif_out, andC_out, jointB]
  rw [find_ne hi]
  generalize r.Joints.getD i default = j
  cases h1 : nameV j.Name
  · rfl
  · cases h2 : noneB (findB r.Joints j.Name) i
    · rfl
    · simp only [Bool.not_true, cond_false, Bool.or_self, if_neg Bool.false_ne_true]
      by_cases h3 : j.Kind < 0
      · rw [decide_eq_true h3]; rfl
      · by_cases h4 : j.Kind > 6
        · rw [decide_eq_true h4, decide_eq_false h3]; rfl
        · simp only [decide_eq_false h3, decide_eq_false h4, cond_false, Bool.or_self, if_neg Bool.false_ne_true, robot_limit_e (show 0 ≤ j.Kind by omega) (by omega), Option.bind_some, neg_reach, bif_out, andC_out, bif_tb]
          cases decide (j.Parent < -1) || decide (j.Parent ≥ (i : Int))
          · cases nearV j.Offset 4194304
            · rfl
            · simp only [Bool.not_true, cond_false, if_neg Bool.false_ne_true]
              cases decide (j.Lo > j.Hi) || (decide (j.Lo < -reachV j.Kind) || decide (j.Hi > reachV j.Kind))
              · simp only [cond_false, if_neg Bool.false_ne_true, costV]
                exact cost4 _ _ _ _
              · rfl
          · rfl
theorem ref6_checkJoint_e (l : List S_Joint) {i : Nat} (hi : i < l.length) (h : l.length < 4294967296) : (ref6_checkJoint_C l (i : Int)).o = some (jointB l i) := by
  show (ref6_checkJoint_T l (i : Int)).run NN = _
  simp only [ref6_checkJoint_T, T.run]
  rw [grd_p (by omega), Int.toNat_natCast]
  simp only [ref6_Name_e, Option.bind_some, jointB]
  cases h1 : nameV (l.getD i default).Name
  · rfl
  · simp only [Bool.not_true, cond_false, Bool.false_or]
    refine (scanI (fun k => sw (findB l (l.getD i default).Name k) 802) i (by omega) (fun j hj => ?_) ?_).trans ?_
    · rw [bif_dpos (by omega), grd_p (by omega), wn (by omega), Int.toNat_natCast, ← sw_fin]; rfl
    · rw [bif_dneg (by omega)]
    · rw [scan_sw]
      generalize l.getD i default = j
      cases h2 : noneB (findB l j.Name) i
      · rfl
      · simp only [Bool.not_true, sw, cond_false, if_neg Bool.false_ne_true, ref6_Near_e _ (show (0 : Int) ≤ 4194304 by decide) (by decide), ref6_reach_e, ref6_between_e, Option.bind_some, neg_reach, bif_out, andC_out, bif_tb]
        cases decide (j.Kind < 0) || decide (j.Kind > 6)
        · cases decide (j.Parent < -1) || decide (j.Parent ≥ (i : Int))
          · cases nearV j.Offset 4194304
            · rfl
            · simp only [Bool.not_true, cond_false, if_neg Bool.false_ne_true]
              cases decide (j.Lo > j.Hi) || (decide (j.Lo < -reachV j.Kind) || decide (j.Hi > reachV j.Kind))
              · simp only [cond_false, if_neg Bool.false_ne_true, costV]
                exact cost4 _ _ _ _
              · rfl
          · rfl
        · rfl
def massB (n : Nat) (m : S_Mass) : Bool := (decide (0 ≤ m.Link) && decide (m.Link < (n : Int))) && (betV m.Mass 1 65536 && nearV m.Point 4194304)
theorem robot_validMass_e (r : S_Robot) (m : S_Mass) : (robot_validMass_C r m).o = some (massB r.Joints.length m) := by
  show (robot_validMass_T r m).run NN = _
  simp only [robot_validMass_T, T.run, robot_from1_e, robot_beyond_e, Option.bind_some, massB]
  cases decide (0 ≤ m.Link) <;> cases decide (m.Link < (r.Joints.length : Int)) <;> cases betV m.Mass 1 65536 <;> cases nearV m.Point 4194304 <;> rfl
def badM (n : Nat) (l : List S_Mass) (i : Nat) : Bool := !massB n (l.getD i default)
theorem ix_mass (l : List S_Mass) (js : List S_Joint) (ms : List S_Mass) (h : l.length < 4294967296) : (slices_IndexFunc_api_Mass_api_Mass_C l js ms).o = some (match scan (fun i => sw (badM js.length l i) (i : Int)) l.length 0 with | some x => x | none => -1) := by
  show (slices_IndexFunc_api_Mass_api_Mass_T l js ms).run NN = _
  simp only [slices_IndexFunc_api_Mass_api_Mass_T, T.run]
  have e1 : ∀ m, (robot_Check_1_C m js ms).o = some (!massB js.length m) := fun m => by
    show (robot_Check_1_T m js ms).run NN = _
    simp only [robot_Check_1_T, T.run, robot_validMass_e, Option.bind_some]
  refine (scanI (fun i => sw (badM js.length l i) (i : Int)) l.length h (fun j hj => ?_) ?_).trans ?_
  · rw [bif_dpos (by simpa using hj), grd_p ⟨by simp, by simpa using hj⟩]
    simp only [e1, Option.bind_some, Int.toNat_natCast]
    rw [wn (by omega)]; unfold badM; cases massB js.length (l.getD j default) <;> rfl
  · rw [bif_dneg (by simp)]
  · cases scan (fun i => sw (badM js.length l i) (i : Int)) l.length 0 <;> rfl
theorem scan_ge {g : Nat → Bool} {n : Nat} : decide ((match scan (fun i => sw (g i) (i : Int)) n 0 with | some x => x | none => -1) ≥ 0) = !noneB g n := by
  cases h : scan (fun i => sw (g i) (i : Int)) n 0 with
  | none =>
    rw [scan_none] at h
    have : noneB g n = true := noneB_iff.2 fun i hi => by
      have := h i (Nat.zero_le _) (by omega)
      cases hg : g i with
      | true => rw [hg] at this; cases this
      | false => rfl
    rw [this]; rfl
  | some x =>
    obtain ⟨j, h1, h2, h3, -⟩ := scan_some _ _ h
    cases hg : g j with
    | false => rw [hg] at h3; cases h3
    | true =>
      rw [hg] at h3; simp only [sw, cond_true, Option.some.injEq] at h3
      have : noneB g n = false := by
        cases hn : noneB g n with
        | false => rfl
        | true => have := noneB_iff.1 hn j (by omega); rw [hg] at this; cases this
      rw [this, ← h3]; simp
theorem cf_mass (l : List S_Mass) (js : List S_Joint) (ms : List S_Mass) (h : l.length < 4294967296) : (slices_ContainsFunc_api_Mass_api_Mass_C l js ms).o = some (!noneB (badM js.length l) l.length) := by
  show (slices_ContainsFunc_api_Mass_api_Mass_T l js ms).run NN = _
  simp only [slices_ContainsFunc_api_Mass_api_Mass_T, T.run, ix_mass l js ms h, Option.bind_some]
  rw [scan_ge]
def errJ (l : List S_Joint) (i : Nat) : Option Int := sw (jointB l i != 0) (jointB l i)
def robotV (r : S_Robot) : Int :=
  if r.Joints.length = 0 ∨ 10 < r.Joints.length then 801 else match scan (errJ r.Joints) r.Joints.length 0 with
    | some e => e
    | none => if 32 < r.Masses.length ∨ noneB (badM r.Joints.length r.Masses) r.Masses.length = false then 808 else 0
theorem robot_Check_e (r : S_Robot) : (robot_Check_C r).o = some (robotV r) := by
  show (robot_Check_T r).run NN = _
  simp only [robot_Check_T, T.run, bif_out, andC_out, robotV]
  by_cases h : r.Joints.length = 0 ∨ 10 < r.Joints.length
  · rw [if_pos h]
    rcases h with h | h
    · rw [bif_eq (by omega)]; rfl
    · rw [bif_ne (by omega), bif_dpos (by omega)]
  · rw [if_neg h, bif_ne (by omega), bif_dneg (by omega)]
    refine (scanI (errJ r.Joints) r.Joints.length (by omega) (fun j hj => ?_) ?_).trans ?_
    · rw [bif_dpos (by omega)]
      simp only [robot_checkJoint_e ⟨r.Joints, r.Masses⟩ hj (show r.Joints.length < 4294967296 by omega), Option.bind_some]
      rw [wn (by omega), sw_fin]; rfl
    · rw [bif_dneg (by omega)]
    · cases scan (errJ r.Joints) r.Joints.length 0 with
      | some e => rfl
      | none =>
        simp only
        by_cases hm : 32 < r.Masses.length
        · rw [bif_dpos (by omega), if_pos (Or.inl hm)]; rfl
        · rw [bif_dneg (by omega), cf_mass _ _ _ (by omega)]
          cases hn : noneB (badM r.Joints.length r.Masses) r.Masses.length
          · rw [if_pos (Or.inr rfl)]; rfl
          · rw [if_neg (by simp; omega)]; rfl
theorem ref6_CheckRobot_e (r : S_Robot) : (ref6_CheckRobot_C r).o = some (robotV r) := by
  show (ref6_CheckRobot_T r).run NN = _
  simp only [ref6_CheckRobot_T, T.run, bif_out, andC_out, robotV]
  by_cases h : r.Joints.length = 0 ∨ 10 < r.Joints.length
  · rw [if_pos h]
    rcases h with h | h
    · rw [bif_dpos (by omega)]; rfl
    · rw [bif_dneg (by omega), bif_dpos (by omega)]
  · rw [if_neg h, bif_dneg (by omega), bif_dneg (by omega)]
    refine (scanI (errJ r.Joints) r.Joints.length (by omega) (fun j hj => ?_) ?_).trans ?_
    · rw [bif_dpos (by omega)]
      simp only [ref6_checkJoint_e r.Joints hj (show r.Joints.length < 4294967296 by omega), Option.bind_some]
      rw [wn (by omega), sw_fin]; rfl
    · rw [bif_dneg (by omega)]
    · cases scan (errJ r.Joints) r.Joints.length 0 with
      | some e => rfl
      | none =>
        simp only
        by_cases hm : 32 < r.Masses.length
        · rw [bif_dpos (by omega), if_pos (Or.inl hm)]
        · rw [bif_dneg (by omega)]
          refine (scanI (fun i => sw (badM r.Joints.length r.Masses i) 808) r.Masses.length (by omega) (fun j hj => ?_) ?_).trans ?_
          · rw [bif_dpos (by omega), grd_p (by omega), wn (by omega), Int.toNat_natCast, ← sw_fin]
            simp only [ref6_between_e, ref6_Near_e _ (show (0 : Int) ≤ 4194304 by decide) (by decide), Option.bind_some, bif_out, andC_out]
            refine congrArg (fun b => bif b then some (Step3.fin 808) else some (Step3.next ((j + 1 : Nat) : Int))) ?_
            unfold badM massB
            generalize r.Masses.getD j default = m
            have e1 : decide (m.Link < 0) = !decide (0 ≤ m.Link) := by rw [Bool.eq_iff_iff]; simp
            have e2 : decide (m.Link ≥ (r.Joints.length : Int)) = !decide (m.Link < (r.Joints.length : Int)) := by rw [Bool.eq_iff_iff]; simp
            rw [e1, e2]
            cases decide (0 ≤ m.Link) <;> cases decide (m.Link < (r.Joints.length : Int)) <;> cases betV m.Mass 1 65536 <;> cases nearV m.Point 4194304 <;> rfl
          · rw [bif_dneg (by omega)]
          · rw [scan_sw]
            cases hn : noneB (badM r.Joints.length r.Masses) r.Masses.length
            · rw [if_pos (Or.inr rfl)]; rfl
            · rw [if_neg (by simp; omega)]; rfl
theorem robotV_ok {r : S_Robot} (h : robotV r = 0) : 1 ≤ r.Joints.length ∧ r.Joints.length ≤ 10 ∧ ∀ i, i < r.Joints.length → jointB r.Joints i = 0 := by
  unfold robotV at h
  split at h
  · cases h
  · refine ⟨by omega, by omega, fun i hi => ?_⟩
    split at h
    · rename_i e he
      obtain ⟨j, -, -, h3, -⟩ := scan_some _ _ he
      unfold errJ sw at h3
      cases hb : jointB r.Joints j != 0 with
      | false => rw [hb] at h3; cases h3
      | true =>
        rw [hb] at h3; simp only [cond_true, Option.some.injEq] at h3
        simp only [bne_iff_ne] at hb
        rw [h3] at hb; exact absurd h hb
    · rename_i he
      have := (scan_none _ _).1 he i (Nat.zero_le _) (by omega)
      unfold errJ sw at this
      cases hb : jointB r.Joints i != 0 with
      | false => simpa using hb
      | true => rw [hb] at this; cases this
def outJ (l : List S_Joint) (c : List Int) (i : Nat) : Bool := decide (c.getD i default < (l.getD i default).Lo) || decide (c.getD i default > (l.getD i default).Hi)
def insideV (r : S_Robot) (c : List Int) : Bool := decide (robotV r = 0) && (decide (c.length = r.Joints.length) && noneB (outJ r.Joints c) c.length)
theorem config_every_e (l : List S_Joint) (c : List Int) (h : l.length < 4294967296) : (config_every_api_Joint_int64_C l c).o = some (decide (c.length = l.length) && noneB (outJ l c) c.length) := by
  show (config_every_api_Joint_int64_T l c).run NN = _
  simp only [config_every_api_Joint_int64_T, T.run]
  have e1 : ∀ j x, (config_Inside_1_C j x).o = some (decide (j.Lo ≤ x) && decide (x ≤ j.Hi)) := fun j x => by
    show (config_Inside_1_T j x).run NN = _
    simp only [config_Inside_1_T, T.run, bif_some, bif_bf]
  by_cases h1 : c.length = l.length
  · rw [bif_nne (by omega), decide_eq_true h1, Bool.true_and]
    refine (scanI (fun i => sw (outJ l c i) false) l.length h (fun j hj => ?_) ?_).trans ?_
    · rw [bif_dpos (by omega), grd_p (by omega), grd_p (by omega), wn (by omega), Int.toNat_natCast, ← sw_fin]
      simp only [e1, Option.bind_some]
      refine congrArg (fun b => bif b then some (Step3.fin false) else some (Step3.next ((j + 1 : Nat) : Int))) ?_
      rw [Bool.eq_iff_iff]
      simp only [outJ, Bool.not_eq_true', Bool.and_eq_false_iff, Bool.or_eq_true, decide_eq_true_eq, decide_eq_false_iff_not]
      omega
    · rw [bif_dneg (by omega)]
    · rw [scan_sw, h1]; cases noneB (outJ l c) l.length <;> rfl
  · rw [bif_neq (by omega), decide_eq_false h1]; rfl
theorem config_Inside_e (r : S_Robot) (c : List Int) : (config_Inside_C r c).o = some (insideV r c) := by
  show (config_Inside_T r c).run NN = _
  simp only [config_Inside_T, T.run, robot_Check_e, Option.bind_some, insideV]
  by_cases h : robotV r = 0
  · have := robotV_ok h
    rw [bif_eq h, config_every_e _ _ (by omega), decide_eq_true h]; rfl
  · rw [bif_ne h, decide_eq_false h]; rfl
theorem ref10_Inside_e (r : S_Robot) (c : List Int) : (ref10_Inside_C r c).o = some (insideV r c) := by
  show (ref10_Inside_T r c).run NN = _
  simp only [ref10_Inside_T, T.run, ref6_CheckRobot_e, Option.bind_some, bif_out, andC_out, insideV]
  by_cases h : robotV r = 0
  · have := robotV_ok h
    rw [bif_nne h, decide_eq_true h, Bool.true_and]
    by_cases h1 : c.length = r.Joints.length
    · rw [bif_nne (by omega), decide_eq_true h1, Bool.true_and]
      refine (scanI (fun i => sw (outJ r.Joints c i) false) c.length (by omega) (fun j hj => ?_) ?_).trans ?_
      · rw [bif_dpos (by omega), wn (by omega), ← sw_fin]
        simp only [Int.toNat_natCast, grd_p (show 0 ≤ (j : Int) ∧ (j : Int) < (c.length : Int) by omega), grd_p (show 0 ≤ (j : Int) ∧ (j : Int) < (r.Joints.length : Int) by omega), bif_out, andC_out, bif_tb, outJ]
      · rw [bif_dneg (by omega)]
      · rw [scan_sw]; cases noneB (outJ r.Joints c) c.length <;> rfl
    · rw [bif_neq (by omega), decide_eq_false h1]; rfl
  · rw [bif_neq h, decide_eq_false h]; rfl
def big1 (l : List Int) (i : Nat) : Bool := decide (l.getD i default < -2147483648) || decide (l.getD i default > 2147483648)
def smallV (l : List Int) : Bool := noneB (big1 l) l.length
theorem config_small_e (l : List Int) (h : l.length < 4294967296) : (config_small_C l).o = some (smallV l) := by
  show (config_small_T l).run NN = _
  have e1 : ∀ x, (config_small_1_C x).o = some (decide (x < -2147483648) || decide (x > 2147483648)) := fun x => by
    show (config_small_1_T x).run NN = _
    simp only [config_small_1_T, T.run, bif_some, bif_tb]
  have e2 : (slices_IndexFunc_int64_int64_C l).o = some (match scan (fun i => sw (big1 l i) (i : Int)) l.length 0 with | some x => x | none => -1) := by
    show (slices_IndexFunc_int64_int64_T l).run NN = _
    simp only [slices_IndexFunc_int64_int64_T, T.run]
    refine (scanI (fun i => sw (big1 l i) (i : Int)) l.length h (fun j hj => ?_) ?_).trans ?_
    · rw [bif_dpos (by omega), grd_p (by omega), wn (by omega), Int.toNat_natCast, ← sw_fin]
      simp only [e1, Option.bind_some, big1]
    · rw [bif_dneg (by omega)]
    · cases scan (fun i => sw (big1 l i) (i : Int)) l.length 0 <;> rfl
  have e3 : (slices_ContainsFunc_int64_int64_C l).o = some (!smallV l) := by
    show (slices_ContainsFunc_int64_int64_T l).run NN = _
    simp only [slices_ContainsFunc_int64_int64_T, T.run, e2, Option.bind_some]
    rw [scan_ge]; rfl
  simp only [config_small_T, T.run, e3, Option.bind_some, Bool.not_not]
theorem ref10_small_e (l : List Int) (h : l.length < 4294967296) : (ref10_small_C l).o = some (smallV l) := by
  show (ref10_small_T l).run NN = _
  simp only [ref10_small_T, T.run]
  refine (scanI (fun i => sw (big1 l i) false) l.length h (fun j hj => ?_) ?_).trans ?_
  · rw [bif_dpos (by omega), wn (by omega), ← sw_fin]
    simp only [Int.toNat_natCast, grd_p (show 0 ≤ (j : Int) ∧ (j : Int) < (l.length : Int) by omega), bif_out, andC_out, bif_tb, big1]
  · rw [bif_dneg (by omega)]
  · rw [scan_sw]; unfold smallV; cases noneB (big1 l) l.length <;> rfl
end Go.Abs
