/-
  DL1 (a part of a claim: our own text).
-/
import Derived.Test.YtkjkbdobenmgbaaGreatXNPLib
import Derived.Test.YtkjkbdobenmgbaaGreatXND3
import Derived.Lib.DecodeN
namespace Go.Abs
theorem fzh {α : Type} {a b : Int} {x y : α} (h : a = b) : (bif (a == b) then x else y) = x := Czg (by simpa using h)
theorem ezt {α : Type} {a b : Int} {x y : α} (h : a ≠ b) : (bif (a == b) then x else y) = y := Czf (by simpa using h)
theorem ezb {α : Type} {a b : Int} {x y : α} (h : a ≠ b) : (bif (a != b) then x else y) = x := Czg (by simpa using h)
theorem cz9 {α : Type} {a b : Int} {x y : α} (h : a = b) : (bif (a != b) then x else y) = y := Czf (by simpa using h)
theorem wr (n : Int) : IntKind.i64.wrap n = (n + 9223372036854775808) % 18446744073709551616 - 9223372036854775808 := by
  show (if (true && decide (n % 18446744073709551616 ≥ 9223372036854775808)) = true then n % 18446744073709551616 - 18446744073709551616 else n % 18446744073709551616) = _
  by_cases h : n % 18446744073709551616 ≥ 9223372036854775808
  · rw [if_pos (by rw [decide_eq_true h]; rfl)]; omega
  · rw [if_neg (by rw [decide_eq_false h]; decide)]; omega
theorem Lzc (n : Int) : -9223372036854775808 ≤ IntKind.i64.wrap n := by rw [wr]; omega
theorem Lzb (n : Int) : IntKind.i64.wrap n ≤ 9223372036854775807 := by rw [wr]; omega
theorem Kzv (n : Int) : IntKind.i64.wrap (IntKind.i64.wrap n) = IntKind.i64.wrap n := w64 (Lzc n) (Lzb n)
theorem tzr {a b : Int} (ha : 0 ≤ a) : a.tdiv b = a / b := Int.tdiv_eq_ediv_of_nonneg ha
theorem zzj (a b : Int) : (-a).tdiv b = -(a.tdiv b) := Int.neg_tdiv a b
theorem vzs {a b q r : Int} (h0 : 0 ≤ r) (h1 : r < b) (h : a = b * q + r) : a / b = q := by
  subst h
  rw [Int.mul_add_ediv_left _ _ (by omega : b ≠ 0), Int.ediv_eq_zero_of_lt h0 h1]; omega
def scan {R : Type} (g : Nat → Option R) : Nat → Nat → Option R
  | 0, _ => none
  | n + 1, i => match g i with
    | some r => some r
    | none => scan g n (i + 1)
theorem dzv {R : Type} {g : Nat → Option R} : ∀ (n i : Nat), scan g n i = none ↔ ∀ j, i ≤ j → j < i + n → g j = none
  | 0, i => by simp only [scan, true_iff]; intro j h1 h2; omega
  | n + 1, i => by
    simp only [scan]
    constructor
    · intro h
      split at h
      · cases h
      · rename_i h0
        intro j h1 h2
        by_cases e : j = i
        · subst e; exact h0
        · exact (dzv n (i + 1)).1 h j (by omega) (by omega)
    · intro h
      rw [h i (by omega) (by omega)]
      exact (dzv n (i + 1)).2 fun j h1 h2 => h j (by omega) (by omega)
theorem jzq {R : Type} {g : Nat → Option R} {r : R} : ∀ (n i : Nat), scan g n i = some r → ∃ j, i ≤ j ∧ j < i + n ∧ g j = some r ∧ ∀ k, i ≤ k → k < j → g k = none
  | 0, i, h => by cases h
  | n + 1, i, h => by
    simp only [scan] at h
    split at h
    · rename_i h0; cases h; exact ⟨i, by omega, by omega, h0, fun k h1 h2 => by omega⟩
    · rename_i h0
      obtain ⟨j, h1, h2, h3, h4⟩ := jzq n (i + 1) h
      refine ⟨j, by omega, by omega, h3, fun k h5 h6 => ?_⟩
      by_cases e : k = i
      · subst e; exact h0
      · exact h4 k (by omega) h6
theorem yzi {σ τ R : Type} {f : σ → Option (Step3 σ τ R)} (st : Nat → σ) (g : Nat → Option R) (y : τ) :
    ∀ (n i N : Nat), n < N → (∀ j, i ≤ j → j < i + n → f (st j) = match g j with | some r => some (.fin r) | none => some (.next (st (j + 1)))) → f (st (i + n)) = some (.out y) →
      iter f N (st i) = some (match scan g n i with | some r => .inr r | none => .inl y)
  | 0, i, 0, h, _, _ => by omega
  | 0, i, N + 1, _, _, h => by simp only [Nat.add_zero] at h; simp [iter, h, scan]
  | n + 1, i, 0, h, _, _ => by omega
  | n + 1, i, N + 1, h0, hs, he => by
    have h1 := hs i (by omega) (by omega)
    simp only [scan]
    cases hg : g i with
    | some r => rw [hg] at h1; simp [iter, h1]
    | none =>
      rw [hg] at h1
      simp only [iter, h1]
      exact yzi st g y n (i + 1) N (by omega) (fun j a b => hs j (by omega) (by omega)) (by rw [← he]; congr 2; omega)
theorem yzn {σ τ R : Type} {f : σ → Option (Step3 σ τ R)} {k : τ → Option R} {x : σ} (st : Nat → σ) (g : Nat → Option R) (y : τ) (n : Nat) (hx : x = st 0) (hn : n < NN)
    (hs : ∀ j, j < n → f (st j) = match g j with | some r => some (.fin r) | none => some (.next (st (j + 1)))) (he : f (st n) = some (.out y)) :
    andK (iter f NN x) k = match scan g n 0 with | some r => some r | none => k y := by
  rw [hx, yzi st g y n 0 NN hn (fun j _ h => hs j (by omega)) (by rw [Nat.zero_add]; exact he)]
  cases scan g n 0 <;> rfl
theorem nzk {σ τ R : Type} {f : σ → Option (Step3 σ τ R)} {k : τ → Option R} {x : σ} (st : Nat → σ) (y : τ) (n : Nat) (hx : x = st 0) (hn : n < NN)
    (hs : ∀ j, j < n → f (st j) = some (.next (st (j + 1)))) (he : f (st n) = some (.out y)) : andK (iter f NN x) k = k y := by
  rw [hx, tzh (Fzk st rfl n hn hs he)]
theorem az4 {R : Type} {p : Prop} [Decidable p] {k : Option R} (h : p) : grd p k = k := by unfold grd; simp [h]
theorem hzk {α : Type} {b : Bool} {x y : α} : (bif b then some x else some y) = some (bif b then x else y) := by cases b <;> rfl
theorem fz6 {σ τ R : Type} {b : Bool} {x y : τ} : (bif b then some (Step3.out x) else some (Step3.out y) : Option (Step3 σ τ R)) = some (.out (bif b then x else y)) := by cases b <;> rfl
theorem oz3 {b c : Bool} : (bif b then true else c) = (b || c) := by cases b <;> rfl
theorem ozj {b c : Bool} : (bif b then c else false) = (b && c) := by cases b <;> rfl
theorem Kz2 (k a b c : Int) {R : Type} : (bif k == a then some (.out (k == a)) else bif k == b then some (.out (k == b)) else some (.out (k == c)) : Option (Step3 Unit Bool R)) = some (.out (decide (k = a ∨ k = b ∨ k = c))) := by
  by_cases h1 : k = a
  · rw [fzh h1]; simp [h1]
  · rw [ezt h1]
    by_cases h2 : k = b
    · rw [fzh h2]; simp [h2]
    · rw [ezt h2]; simp [h1, h2, Bool.beq_eq_decide_eq]
theorem jzp {R : Type} {f : Int → Option (Step3 Int U0 R)} {k : U0 → Option R} (g : Nat → Option R) (n : Nat) (hn : n < 4294967296)
    (hs : ∀ j, j < n → f (j : Int) = match g j with | some r => some (.fin r) | none => some (.next ((j + 1 : Nat) : Int))) (he : f (n : Int) = some (.out .u)) :
    andK (iter f NN 0) k = match scan g n 0 with | some r => some r | none => k .u := yzn (fun j => (j : Int)) g .u n rfl hn hs he
theorem wn {n : Nat} (h : n < 4294967296) : IntKind.i64.wrap ((n : Int) + 1) = ((n + 1 : Nat) : Int) := w64n (by omega)
def sw {R : Type} (b : Bool) (r : R) : Option R := bif b then some r else none
theorem izw {σ τ R : Type} {b : Bool} {r : R} {x : σ} : (bif b then some (.fin r) else some (.next x) : Option (Step3 σ τ R)) = match sw b r with | some r => some (.fin r) | none => some (.next x) := by cases b <;> rfl
def gzx (g : Nat → Bool) (n : Nat) : Bool := decide (∀ i, i < n → g i = false)
theorem mzl {R : Type} {g : Nat → Bool} {n : Nat} {r : R} : scan (fun i => sw (g i) r) n 0 = sw (!gzx g n) r := by
  cases h : scan (fun i => sw (g i) r) n 0 with
  | none =>
    rw [dzv] at h
    have : gzx g n = true := decide_eq_true fun i hi => by
      have := h i (Nat.zero_le _) (by omega)
      unfold sw at this
      cases hg : g i with
      | true => rw [hg] at this; cases this
      | false => rfl
    rw [this]; rfl
  | some x =>
    obtain ⟨j, h1, h2, h3, -⟩ := jzq _ _ h
    have : gzx g n = false := decide_eq_false fun hn => by
      have := hn j (by omega)
      simp only [this, sw, cond_false] at h3; cases h3
    rw [this]
    unfold sw at h3 ⊢
    cases hg : g j with
    | true => rw [hg] at h3; simpa using h3.symm
    | false => rw [hg] at h3; cases h3
theorem noneB_iff {g : Nat → Bool} {n : Nat} : gzx g n = true ↔ ∀ i, i < n → g i = false := by simp [gzx]
theorem Hz5 (s : ByteArray) (i : Nat) : s.get! i = s.data.getD i 0 := by
  cases s with | mk d => simp only [ByteArray.get!]; rw [getElem!_def, Array.getD_eq_getD_getElem?]; cases d[i]? <;> rfl
def tzb (s : ByteArray) (i : Nat) : Nat := (s.data.getD i 0).toNat
theorem Hz2 {s : ByteArray} {i : Nat} (h : tzb s i < 128) : Utf8.decode s i = (tzb s i, 1) := by
  rw [Lib.decode_at, Hz5]; exact if_pos h
theorem Jzk {s : ByteArray} {i : Nat} (h : 128 ≤ tzb s i) : 128 ≤ (Utf8.decode s i).1 := by
  rw [Lib.decode_at, Hz5]
  unfold Lib.decodeN
  rw [if_neg (by unfold tzb at h; omega)]
  repeat' split
  all_goals (simp only; omega)
def badN (s : ByteArray) (i : Nat) : Bool := decide (¬ (97 ≤ tzb s i ∧ tzb s i ≤ 122) ∧ (i = 0 ∨ (tzb s i ≠ 95 ∧ ¬ (48 ≤ tzb s i ∧ tzb s i ≤ 57))))
def uzm (s : ByteArray) : Bool := !(decide (s.size = 0) || (decide (16 < s.size) || (s == ⟨#[119, 111, 114, 108, 100]⟩))) && gzx (badN s) s.size
theorem Aza (s : ByteArray) : (uzx s).o = some (uzm s) := by
  show (qzw s).run NN = _
  simp only [qzw, T.run, fz6, az5, uzm, oz3]
  have e1 : decide ((s.size : Int) < 1) = decide (s.size = 0) := by congr 1; apply propext; omega
  have e2 : decide ((s.size : Int) > 16) = decide (16 < s.size) := by congr 1; apply propext; omega
  rw [e1, e2]
  cases h : (decide (s.size = 0) || (decide (16 < s.size) || (s == ⟨#[119, 111, 114, 108, 100]⟩)))
  · simp only [Bool.or_eq_false_iff, decide_eq_false_iff_not] at h
    rw [cond_false]
    refine (jzp (fun i => sw (badN s i) false) s.size (by omega) (fun j hj => ?_) ?_).trans ?_
    · rw [az7 (by omega), ← izw, wn (by omega)]
      simp only [Int.toNat_natCast, az4 (show 0 ≤ (j : Int) ∧ (j : Int) < (s.size : Int) by omega), fz6, az5]
      refine congrArg (fun b => bif b then some (Step3.fin false) else some (Step3.next ((j + 1 : Nat) : Int))) ?_
      rw [Bool.eq_iff_iff]
      simp only [oz3, ozj, badN, Bool.and_eq_true, Bool.or_eq_true, Bool.not_eq_true', Bool.and_eq_false_iff, Bool.or_eq_false_iff, decide_eq_true_eq, decide_eq_false_iff_not, beq_iff_eq, bne_iff_ne, ne_eq]
      unfold tzb
      omega
    · rw [az6 (by omega)]
    · rw [mzl]
      cases gzx (badN s) s.size <;> rfl
  · rfl
theorem tzf (a : Int) : (ozf a).o = some (decide (97 ≤ a) && decide (a ≤ 122)) := by
  show (kze a).run NN = _
  simp only [kze, T.run, hzk, ozj]
theorem vz5 (a : Int) : (pzo a).o = some (decide (48 ≤ a) && decide (a ≤ 57)) := by
  show (lzk a).run NN = _
  simp only [lzk, T.run, hzk, ozj]
theorem zzk (s : ByteArray) : (tz8 s).o = some (uzm s) := by
  show (pzn s).run NN = _
  simp only [pzn, T.run, fz6, az5, uzm, oz3]
  have e1 : ((s.size : Int) == 0) = decide (s.size = 0) := by rw [Bool.eq_iff_iff]; simp
  have e2 : decide ((s.size : Int) > 16) = decide (16 < s.size) := by congr 1; apply propext; omega
  rw [e1, e2]
  cases h : (decide (s.size = 0) || (decide (16 < s.size) || (s == ⟨#[119, 111, 114, 108, 100]⟩)))
  · simp only [Bool.or_eq_false_iff, decide_eq_false_iff_not] at h
    rw [cond_false]
    refine (yzn (fun j => j) (fun i => sw (badN s i) false) .u s.size rfl (show s.size < 4294967296 by omega) (fun j hj => ?_) ?_).trans ?_
    · rw [az7 hj]
      simp only [tzf, vz5, Option.bind_some, fz6, az5]
      have key : (bif !(decide (97 ≤ ((Utf8.decode s j).1 : Int)) && decide (((Utf8.decode s j).1 : Int) ≤ 122)) then bif ((j : Int) == 0) then true else
          bif !(decide (48 ≤ ((Utf8.decode s j).1 : Int)) && decide (((Utf8.decode s j).1 : Int) ≤ 57)) then ((Utf8.decode s j).1 : Int) != 95 else false else false) = badN s j := by
        by_cases hb : tzb s j < 128
        · rw [Hz2 hb, Bool.eq_iff_iff]
          simp only [oz3, ozj, badN, Bool.and_eq_true, Bool.or_eq_true, Bool.not_eq_true', Bool.and_eq_false_iff, Bool.or_eq_false_iff, decide_eq_true_eq, decide_eq_false_iff_not, beq_iff_eq, bne_iff_ne, ne_eq]
          omega
        · have := Jzk (s := s) (i := j) (by omega)
          rw [Bool.eq_iff_iff]
          simp only [oz3, ozj, badN, Bool.and_eq_true, Bool.or_eq_true, Bool.not_eq_true', Bool.and_eq_false_iff, Bool.or_eq_false_iff, decide_eq_true_eq, decide_eq_false_iff_not, beq_iff_eq, bne_iff_ne, ne_eq]
          omega
      rw [key]
      cases hbad : badN s j
      · have : tzb s j < 128 := by
          simp only [badN, decide_eq_false_iff_not] at hbad
          omega
        rw [Hz2 this]; rfl
      · rfl
    · rw [az6 (by omega)]
    · rw [mzl]
      cases gzx (badN s) s.size <;> rfl
  · rfl
def pzz (l : List azj) (nm : ByteArray) (i : Nat) : Bool := (l.getD i default).Name == nm
theorem zz6 (r : az8) (nm : ByteArray) (h : r.Joints.length < 4294967296) : (tz4 r nm).o = some (match scan (fun i => sw (pzz r.Joints nm i) (i : Int)) r.Joints.length 0 with | some x => x | none => -1) := by
  show (pzh r nm).run NN = _
  simp only [pzh, T.run]
  refine (jzp (fun i => sw (pzz r.Joints nm i) (i : Int)) r.Joints.length h (fun j hj => ?_) ?_).trans ?_
  · rw [az7 (by omega), az4 (by omega), wn (by omega), Int.toNat_natCast, ← izw]; rfl
  · rw [az6 (by omega)]
  · cases scan (fun i => sw (pzz r.Joints nm i) (i : Int)) r.Joints.length 0 <;> rfl
theorem Hzn (b : ByteArray) : (b == b) = true := by
  obtain ⟨d⟩ := b
  show (d == d) = true
  exact beq_self_eq_true d
theorem Iz0 {l : List azj} {i : Nat} (hi : i < l.length) : ((match scan (fun k => sw (pzz l (l.getD i default).Name k) (k : Int)) l.length 0 with | some x => x | none => -1) != (i : Int)) = !gzx (pzz l (l.getD i default).Name) i := by
  have hself : pzz l (l.getD i default).Name i = true := Hzn _
  cases h : scan (fun k => sw (pzz l (l.getD i default).Name k) (k : Int)) l.length 0 with
  | none =>
    rw [dzv] at h
    have := h i (Nat.zero_le _) (by omega)
    simp only [hself, sw, cond_true] at this; cases this
  | some x =>
    obtain ⟨j, h1, h2, h3, h4⟩ := jzq _ _ h
    have hj : pzz l (l.getD i default).Name j = true ∧ x = (j : Int) := by
      cases hb : pzz l (l.getD i default).Name j with
      | false => simp only [hb, sw, cond_false] at h3; cases h3
      | true => simp only [hb, sw, cond_true, Option.some.injEq] at h3; exact ⟨rfl, h3.symm⟩
    have hji : j ≤ i := by
      by_cases e : j ≤ i
      · exact e
      · have := h4 i (Nat.zero_le _) (by omega)
        simp only [hself, sw, cond_true] at this; cases this
    simp only [hj.2]
    rw [Bool.eq_iff_iff]
    rw [bne_iff_ne, Bool.not_eq_true', ← Bool.not_eq_true]
    constructor
    · intro hne hall
      have := noneB_iff.1 hall j (by omega)
      rw [hj.1] at this; cases this
    · intro hn e
      apply hn
      rw [noneB_iff]
      intro k hk
      have := h4 k (Nat.zero_le _) (by omega)
      cases hb : pzz l (l.getD i default).Name k with
      | false => rfl
      | true => simp only [hb, sw, cond_true] at this; cases this
def rzf (v : Int × Int × Int) (m : Int) : Bool := decide (-m ≤ v.1) && (decide (v.1 ≤ m) && (decide (-m ≤ v.2.1) && (decide (v.2.1 ≤ m) && (decide (-m ≤ v.2.2) && decide (v.2.2 ≤ m)))))
theorem rzg {v : Int × Int × Int} {m : Int} : rzf v m = true ↔ (-m ≤ v.1 ∧ v.1 ≤ m) ∧ (-m ≤ v.2.1 ∧ v.2.1 ≤ m) ∧ (-m ≤ v.2.2 ∧ v.2.2 ≤ m) := by
  simp only [rzf, Bool.and_eq_true, decide_eq_true_eq, and_assoc]
theorem uzy (v : Int × Int × Int) {m : Int} (h0 : 0 ≤ m) (h1 : m ≤ 9223372036854775807) : (qzx v m).o = some (rzf v m) := by
  show (qzy v m).run NN = _
  simp only [qzy, T.run, T.ix, fz6, az5]
  simp only [hzk]
  rw [w64 (x := 0 - m) (by omega) (by omega)]
  congr 1
  rw [Bool.eq_iff_iff, rzg]
  simp only [oz3]
  cases h1 : decide (v.1 < 0 - m) || decide (v.1 > m) <;> cases h2 : decide (v.2.1 < 0 - m) || decide (v.2.1 > m) <;> cases h3 : decide (v.2.2 < 0 - m) || decide (v.2.2 > m) <;>
    simp only [Bool.or_eq_true, Bool.or_eq_false_iff, decide_eq_true_eq, decide_eq_false_iff_not] at h1 h2 h3 <;> simp only [cond_true, cond_false, true_iff, false_iff, reduceCtorEq] <;> omega
def bey (x : Int) : Bool := decide (x < -4194304) || decide (x > 4194304)
theorem qzk (v : Int × Int × Int) : (mzj v).o = some (!rzf v 4194304) := by
  show (mzk v).run NN = _
  simp only [mzk, T.run, fz6, az5, oz3]
  refine (jzp (fun i => sw (bey (([v.1, v.2.1, v.2.2] : List Int).getD i 0)) true) 3 (by decide) (fun j hj => ?_) ?_).trans ?_
  · rw [az7 (by omega), az4 (by omega), wn (by omega), Int.toNat_natCast, ← izw]; rfl
  · rw [az6 (by omega)]
  · rw [mzl]
    have : gzx (fun i => bey (([v.1, v.2.1, v.2.2] : List Int).getD i 0)) 3 = rzf v 4194304 := by
      rw [Bool.eq_iff_iff, noneB_iff, rzg]
      constructor
      · intro h
        have a := h 0 (by decide); have b := h 1 (by decide); have c := h 2 (by decide)
        simp only [bey, List.getD_cons_zero, List.getD_cons_succ, Bool.or_eq_false_iff, decide_eq_false_iff_not] at a b c
        omega
      · intro h i hi
        match i, hi with
        | 0, _ => simp only [bey, List.getD_cons_zero, Bool.or_eq_false_iff, decide_eq_false_iff_not]; omega
        | 1, _ => simp only [bey, List.getD_cons_zero, List.getD_cons_succ, Bool.or_eq_false_iff, decide_eq_false_iff_not]; omega
        | 2, _ => simp only [bey, List.getD_cons_zero, List.getD_cons_succ, Bool.or_eq_false_iff, decide_eq_false_iff_not]; omega
    rw [this]; cases rzf v 4194304 <;> rfl
def fz3 (k : Int) : Int := if k = 0 then 0 else if k = 1 ∨ k = 2 ∨ k = 3 then 524288 else 4194304
theorem xze {k : Int} (h0 : 0 ≤ k) (h1 : k ≤ 6) : (rzt k).o = some (fz3 k) := by
  show (nzx k).run NN = _
  simp only [nzx, T.run, Kz2, az5, fz3]
  by_cases h : k = 1 ∨ k = 2 ∨ k = 3
  · rw [az7 h, if_neg (by omega), if_pos h]
  · rw [az6 h]
    by_cases h' : k = 4 ∨ k = 5 ∨ k = 6
    · rw [az7 h', if_neg (by omega), if_neg h]
    · rw [az6 h', if_pos (by omega)]
theorem zz5 (k : Int) : (tz3 k).o = some (fz3 k) := by
  show (pzd k).run NN = _
  simp only [pzd, T.run, Kz2, az5, fz3]
  by_cases h0 : k = 0
  · rw [fzh h0, if_pos h0]
  · rw [ezt h0, if_neg h0]
    by_cases h : k = 1 ∨ k = 2 ∨ k = 3
    · rw [az7 h, if_pos h]
    · rw [az6 h, if_neg h]
def betV (x a b : Int) : Bool := decide (a ≤ x) && decide (x ≤ b)
theorem rzs (x m : Int) : (hz4 x m).o = some (betV x 1 m) := by
  show (nzw x m).run NN = _
  simp only [nzw, T.run, hzk, ozj, betV]
theorem qzi (x a b : Int) : (fzx x a b).o = some (betV x a b) := by
  show (mzf x a b).run NN = _
  simp only [mzf, T.run, hzk, ozj, betV]
def Bzs (j : azj) : Bool := betV j.Weight 1 1024 && (betV j.Speed 1 1048576 && (betV j.Accel 1 1048576 && betV j.Torque 1 1099511627776))
def mzw (l : List azj) (i : Nat) : Int :=
  let j := l.getD i default
  if !uzm j.Name || !gzx (pzz l j.Name) i then 802 else if decide (j.Kind < 0) || decide (j.Kind > 6) then 803 else if decide (j.Parent < -1) || decide (j.Parent ≥ (i : Int)) then 804 else if !rzf j.Offset 4194304 then 805 else
  if decide (j.Lo > j.Hi) || (decide (j.Lo < -fz3 j.Kind) || decide (j.Hi > fz3 j.Kind)) then 806 else if !Bzs j then 807 else 0
theorem Jzj : ∀ a b c d : Bool, (bif !a || (!b || (!c || !d)) then some (807 : Int) else some 0) = some (if (!(a && (b && (c && d)))) = true then 807 else 0) := by decide
theorem xzd (k : Int) : 0 ≤ fz3 k ∧ fz3 k ≤ 4194304 := by unfold fz3; split <;> (try split) <;> omega
theorem yzz (k : Int) : IntKind.i64.wrap (0 - fz3 k) = -fz3 k := by
  have := xzd k; rw [w64 (by omega) (by omega)]; omega
theorem rzr (r : az8) {i : Nat} (hi : i < r.Joints.length) (h : r.Joints.length < 4294967296) : (mz1 r (i : Int)).o = some (mzw r.Joints i) := by
  show (izs r (i : Int)).run NN = _
  simp only [izs, T.run]
  rw [az4 (by omega), Int.toNat_natCast]
  simp only [zzk, zz6 r _ h, qzk, rzs, Option.bind_some, fz6, az5, mzw]
  rw [Iz0 hi]
  generalize r.Joints.getD i default = j
  cases h1 : uzm j.Name
  · rfl
  · cases h2 : gzx (pzz r.Joints j.Name) i
    · rfl
    · simp only [Bool.not_true, cond_false, Bool.or_self, if_neg Bool.false_ne_true]
      by_cases h3 : j.Kind < 0
      · rw [decide_eq_true h3]; rfl
      · by_cases h4 : j.Kind > 6
        · rw [decide_eq_true h4, decide_eq_false h3]; rfl
        · simp only [decide_eq_false h3, decide_eq_false h4, cond_false, Bool.or_self, if_neg Bool.false_ne_true, xze (show 0 ≤ j.Kind by omega) (by omega), Option.bind_some, yzz, fz6, az5, oz3]
          cases decide (j.Parent < -1) || decide (j.Parent ≥ (i : Int))
          · cases rzf j.Offset 4194304
            · rfl
            · simp only [Bool.not_true, cond_false, if_neg Bool.false_ne_true]
              cases decide (j.Lo > j.Hi) || (decide (j.Lo < -fz3 j.Kind) || decide (j.Hi > fz3 j.Kind))
              · simp only [cond_false, if_neg Bool.false_ne_true, Bzs]
                exact Jzj _ _ _ _
              · rfl
          · rfl
theorem szi (l : List azj) {i : Nat} (hi : i < l.length) (h : l.length < 4294967296) : (mzz l (i : Int)).o = some (mzw l i) := by
  show (jz6 l (i : Int)).run NN = _
  simp only [jz6, T.run]
  rw [az4 (by omega), Int.toNat_natCast]
  simp only [Aza, Option.bind_some, mzw]
  cases h1 : uzm (l.getD i default).Name
  · rfl
  · simp only [Bool.not_true, cond_false, Bool.false_or]
    refine (jzp (fun k => sw (pzz l (l.getD i default).Name k) 802) i (by omega) (fun j hj => ?_) ?_).trans ?_
    · rw [az7 (by omega), az4 (by omega), wn (by omega), Int.toNat_natCast, ← izw]; rfl
    · rw [az6 (by omega)]
    · rw [mzl]
      generalize l.getD i default = j
      cases h2 : gzx (pzz l j.Name) i
      · rfl
      · simp only [Bool.not_true, sw, cond_false, if_neg Bool.false_ne_true, uzy _ (show (0 : Int) ≤ 4194304 by decide) (by decide), zz5, qzi, Option.bind_some, yzz, fz6, az5, oz3]
        cases decide (j.Kind < 0) || decide (j.Kind > 6)
        · cases decide (j.Parent < -1) || decide (j.Parent ≥ (i : Int))
          · cases rzf j.Offset 4194304
            · rfl
            · simp only [Bool.not_true, cond_false, if_neg Bool.false_ne_true]
              cases decide (j.Lo > j.Hi) || (decide (j.Lo < -fz3 j.Kind) || decide (j.Hi > fz3 j.Kind))
              · simp only [cond_false, if_neg Bool.false_ne_true, Bzs]
                exact Jzj _ _ _ _
              · rfl
          · rfl
        · rfl
def vzj (n : Nat) (m : czc) : Bool := (decide (0 ≤ m.Link) && decide (m.Link < (n : Int))) && (betV m.Mass 1 65536 && rzf m.Point 4194304)
theorem szk (r : az8) (m : czc) : (nz1 r m).o = some (vzj r.Joints.length m) := by
  show (jza r m).run NN = _
  simp only [jza, T.run, rzs, qzk, Option.bind_some, vzj]
  cases decide (0 ≤ m.Link) <;> cases decide (m.Link < (r.Joints.length : Int)) <;> cases betV m.Mass 1 65536 <;> cases rzf m.Point 4194304 <;> rfl
def badM (n : Nat) (l : List czc) (i : Nat) : Bool := !vzj n (l.getD i default)
theorem Izb (l : List czc) (js : List azj) (ms : List czc) (h : l.length < 4294967296) : (ez7 l js ms).o = some (match scan (fun i => sw (badM js.length l i) (i : Int)) l.length 0 with | some x => x | none => -1) := by
  show (cz2 l js ms).run NN = _
  simp only [cz2, T.run]
  have e1 : ∀ m, (pzg m js ms).o = some (!vzj js.length m) := fun m => by
    show (lzi m js ms).run NN = _
    simp only [lzi, T.run, szk, Option.bind_some]
  refine (jzp (fun i => sw (badM js.length l i) (i : Int)) l.length h (fun j hj => ?_) ?_).trans ?_
  · rw [az7 (by simpa using hj), az4 ⟨by simp, by simpa using hj⟩]
    simp only [e1, Option.bind_some, Int.toNat_natCast]
    rw [wn (by omega)]; unfold badM; cases vzj js.length (l.getD j default) <;> rfl
  · rw [az6 (by simp)]
  · cases scan (fun i => sw (badM js.length l i) (i : Int)) l.length 0 <;> rfl
theorem Azk {g : Nat → Bool} {n : Nat} : decide ((match scan (fun i => sw (g i) (i : Int)) n 0 with | some x => x | none => -1) ≥ 0) = !gzx g n := by
  cases h : scan (fun i => sw (g i) (i : Int)) n 0 with
  | none =>
    rw [dzv] at h
    have : gzx g n = true := noneB_iff.2 fun i hi => by
      have := h i (Nat.zero_le _) (by omega)
      cases hg : g i with
      | true => rw [hg] at this; cases this
      | false => rfl
    rw [this]; rfl
  | some x =>
    obtain ⟨j, h1, h2, h3, -⟩ := jzq _ _ h
    cases hg : g j with
    | false => rw [hg] at h3; cases h3
    | true =>
      rw [hg] at h3; simp only [sw, cond_true, Option.some.injEq] at h3
      have : gzx g n = false := by
        cases hn : gzx g n with
        | false => rfl
        | true => have := noneB_iff.1 hn j (by omega); rw [hg] at this; cases this
      rw [this, ← h3]; simp
theorem Hzp (l : List czc) (js : List azj) (ms : List czc) (h : l.length < 4294967296) : (dzj l js ms).o = some (!gzx (badM js.length l) l.length) := by
  show (bzs l js ms).run NN = _
  simp only [bzs, T.run, Izb l js ms h, Option.bind_some]
  rw [Azk]
def errJ (l : List azj) (i : Nat) : Option Int := sw (mzw l i != 0) (mzw l i)
def dz4 (r : az8) : Int :=
  if r.Joints.length = 0 ∨ 10 < r.Joints.length then 801 else match scan (errJ r.Joints) r.Joints.length 0 with
    | some e => e
    | none => if 32 < r.Masses.length ∨ gzx (badM r.Joints.length r.Masses) r.Masses.length = false then 808 else 0
theorem izr (r : az8) : (hz3 r).o = some (dz4 r) := by
  show (nzv r).run NN = _
  simp only [nzv, T.run, fz6, az5, dz4]
  by_cases h : r.Joints.length = 0 ∨ 10 < r.Joints.length
  · rw [if_pos h]
    rcases h with h | h
    · rw [fzh (by omega)]; rfl
    · rw [ezt (by omega), az7 (by omega)]
  · rw [if_neg h, ezt (by omega), az6 (by omega)]
    refine (jzp (errJ r.Joints) r.Joints.length (by omega) (fun j hj => ?_) ?_).trans ?_
    · rw [az7 (by omega)]
      simp only [rzr ⟨r.Joints, r.Masses⟩ hj (show r.Joints.length < 4294967296 by omega), Option.bind_some]
      rw [wn (by omega), izw]; rfl
    · rw [az6 (by omega)]
    · cases scan (errJ r.Joints) r.Joints.length 0 with
      | some e => rfl
      | none =>
        simp only
        by_cases hm : 32 < r.Masses.length
        · rw [az7 (by omega), if_pos (Or.inl hm)]; rfl
        · rw [az6 (by omega), Hzp _ _ _ (by omega)]
          cases hn : gzx (badM r.Joints.length r.Masses) r.Masses.length
          · rw [if_pos (Or.inr rfl)]; rfl
          · rw [if_neg (by simp; omega)]; rfl
theorem gzz (r : az8) : (fzc r).o = some (dz4 r) := by
  show (jz5 r).run NN = _
  simp only [jz5, T.run, fz6, az5, dz4]
  by_cases h : r.Joints.length = 0 ∨ 10 < r.Joints.length
  · rw [if_pos h]
    rcases h with h | h
    · rw [az7 (by omega)]; rfl
    · rw [az6 (by omega), az7 (by omega)]
  · rw [if_neg h, az6 (by omega), az6 (by omega)]
    refine (jzp (errJ r.Joints) r.Joints.length (by omega) (fun j hj => ?_) ?_).trans ?_
    · rw [az7 (by omega)]
      simp only [szi r.Joints hj (show r.Joints.length < 4294967296 by omega), Option.bind_some]
      rw [wn (by omega), izw]; rfl
    · rw [az6 (by omega)]
    · cases scan (errJ r.Joints) r.Joints.length 0 with
      | some e => rfl
      | none =>
        simp only
        by_cases hm : 32 < r.Masses.length
        · rw [az7 (by omega), if_pos (Or.inl hm)]
        · rw [az6 (by omega)]
          refine (jzp (fun i => sw (badM r.Joints.length r.Masses i) 808) r.Masses.length (by omega) (fun j hj => ?_) ?_).trans ?_
          · rw [az7 (by omega), az4 (by omega), wn (by omega), Int.toNat_natCast, ← izw]
            simp only [qzi, uzy _ (show (0 : Int) ≤ 4194304 by decide) (by decide), Option.bind_some, fz6, az5]
            refine congrArg (fun b => bif b then some (Step3.fin 808) else some (Step3.next ((j + 1 : Nat) : Int))) ?_
            unfold badM vzj
            generalize r.Masses.getD j default = m
            have e1 : decide (m.Link < 0) = !decide (0 ≤ m.Link) := by rw [Bool.eq_iff_iff]; simp
            have e2 : decide (m.Link ≥ (r.Joints.length : Int)) = !decide (m.Link < (r.Joints.length : Int)) := by rw [Bool.eq_iff_iff]; simp
            rw [e1, e2]
            cases decide (0 ≤ m.Link) <;> cases decide (m.Link < (r.Joints.length : Int)) <;> cases betV m.Mass 1 65536 <;> cases rzf m.Point 4194304 <;> rfl
          · rw [az6 (by omega)]
          · rw [mzl]
            cases hn : gzx (badM r.Joints.length r.Masses) r.Masses.length
            · rw [if_pos (Or.inr rfl)]; rfl
            · rw [if_neg (by simp; omega)]; rfl
theorem gzl {r : az8} (h : dz4 r = 0) : 1 ≤ r.Joints.length ∧ r.Joints.length ≤ 10 ∧ ∀ i, i < r.Joints.length → mzw r.Joints i = 0 := by
  unfold dz4 at h
  split at h
  · cases h
  · refine ⟨by omega, by omega, fun i hi => ?_⟩
    split at h
    · rename_i e he
      obtain ⟨j, -, -, h3, -⟩ := jzq _ _ he
      unfold errJ sw at h3
      cases hb : mzw r.Joints j != 0 with
      | false => rw [hb] at h3; cases h3
      | true =>
        rw [hb] at h3; simp only [cond_true, Option.some.injEq] at h3
        simp only [bne_iff_ne] at hb
        rw [h3] at hb; exact absurd h hb
    · rename_i he
      have := (dzv _ _).1 he i (Nat.zero_le _) (by omega)
      unfold errJ sw at this
      cases hb : mzw r.Joints i != 0 with
      | false => simpa using hb
      | true => rw [hb] at this; cases this
def outJ (l : List azj) (c : List Int) (i : Nat) : Bool := decide (c.getD i default < (l.getD i default).Lo) || decide (c.getD i default > (l.getD i default).Hi)
def bzk (r : az8) (c : List Int) : Bool := decide (dz4 r = 0) && (decide (c.length = r.Joints.length) && gzx (outJ r.Joints c) c.length)
theorem vze (l : List azj) (c : List Int) (h : l.length < 4294967296) : (fzi l c).o = some (decide (c.length = l.length) && gzx (outJ l c) c.length) := by
  show (dze l c).run NN = _
  simp only [dze, T.run]
  have e1 : ∀ j x, (mzs j x).o = some (decide (j.Lo ≤ x) && decide (x ≤ j.Hi)) := fun j x => by
    show (jz1 j x).run NN = _
    simp only [jz1, T.run, hzk, ozj]
  by_cases h1 : c.length = l.length
  · rw [cz9 (by omega), decide_eq_true h1, Bool.true_and]
    refine (jzp (fun i => sw (outJ l c i) false) l.length h (fun j hj => ?_) ?_).trans ?_
    · rw [az7 (by omega), az4 (by omega), az4 (by omega), wn (by omega), Int.toNat_natCast, ← izw]
      simp only [e1, Option.bind_some]
      refine congrArg (fun b => bif b then some (Step3.fin false) else some (Step3.next ((j + 1 : Nat) : Int))) ?_
      rw [Bool.eq_iff_iff]
      simp only [outJ, Bool.not_eq_true', Bool.and_eq_false_iff, Bool.or_eq_true, decide_eq_true_eq, decide_eq_false_iff_not]
      omega
    · rw [az6 (by omega)]
    · rw [mzl, h1]; cases gzx (outJ l c) l.length <;> rfl
  · rw [ezb (by omega), decide_eq_false h1]; rfl
theorem ozl (r : az8) (c : List Int) : (lz0 r c).o = some (bzk r c) := by
  show (lz1 r c).run NN = _
  simp only [lz1, T.run, izr, Option.bind_some, bzk]
  by_cases h : dz4 r = 0
  · have := gzl h
    rw [fzh h, vze _ _ (by omega), decide_eq_true h]; rfl
  · rw [ezt h, decide_eq_false h]; rfl
theorem mza (r : az8) (c : List Int) : (jzd r c).o = some (bzk r c) := by
  show (mz9 r c).run NN = _
  simp only [mz9, T.run, gzz, Option.bind_some, fz6, az5, bzk]
  by_cases h : dz4 r = 0
  · have := gzl h
    rw [cz9 h, decide_eq_true h, Bool.true_and]
    by_cases h1 : c.length = r.Joints.length
    · rw [cz9 (by omega), decide_eq_true h1, Bool.true_and]
      refine (jzp (fun i => sw (outJ r.Joints c i) false) c.length (by omega) (fun j hj => ?_) ?_).trans ?_
      · rw [az7 (by omega), wn (by omega), ← izw]
        simp only [Int.toNat_natCast, az4 (show 0 ≤ (j : Int) ∧ (j : Int) < (c.length : Int) by omega), az4 (show 0 ≤ (j : Int) ∧ (j : Int) < (r.Joints.length : Int) by omega), fz6, az5, oz3, outJ]
      · rw [az6 (by omega)]
      · rw [mzl]; cases gzx (outJ r.Joints c) c.length <;> rfl
    · rw [ezb (by omega), decide_eq_false h1]; rfl
  · rw [ezb h, decide_eq_false h]; rfl
def big1 (l : List Int) (i : Nat) : Bool := decide (l.getD i default < -2147483648) || decide (l.getD i default > 2147483648)
def oze (l : List Int) : Bool := gzx (big1 l) l.length
theorem qz6 (l : List Int) (h : l.length < 4294967296) : (mz3 l).o = some (oze l) := by
  show (mz4 l).run NN = _
  have e1 : ∀ x, (oz4 x).o = some (decide (x < -2147483648) || decide (x > 2147483648)) := fun x => by
    show (jzu x).run NN = _
    simp only [jzu, T.run, hzk, oz3]
  have e2 : (fzj l).o = some (match scan (fun i => sw (big1 l i) (i : Int)) l.length 0 with | some x => x | none => -1) := by
    show (dzk l).run NN = _
    simp only [dzk, T.run]
    refine (jzp (fun i => sw (big1 l i) (i : Int)) l.length h (fun j hj => ?_) ?_).trans ?_
    · rw [az7 (by omega), az4 (by omega), wn (by omega), Int.toNat_natCast, ← izw]
      simp only [e1, Option.bind_some, big1]
    · rw [az6 (by omega)]
    · cases scan (fun i => sw (big1 l i) (i : Int)) l.length 0 <;> rfl
  have e3 : (ezw l).o = some (!oze l) := by
    show (czq l).run NN = _
    simp only [czq, T.run, e2, Option.bind_some]
    rw [Azk]; rfl
  simp only [mz4, T.run, e3, Option.bind_some, Bool.not_not]
theorem rzm (l : List Int) (h : l.length < 4294967296) : (nzp l).o = some (oze l) := by
  show (nzq l).run NN = _
  simp only [nzq, T.run]
  refine (jzp (fun i => sw (big1 l i) false) l.length h (fun j hj => ?_) ?_).trans ?_
  · rw [az7 (by omega), wn (by omega), ← izw]
    simp only [Int.toNat_natCast, az4 (show 0 ≤ (j : Int) ∧ (j : Int) < (l.length : Int) by omega), fz6, az5, oz3, big1]
  · rw [az6 (by omega)]
  · rw [mzl]; unfold oze; cases gzx (big1 l) l.length <;> rfl
theorem ezm {σ τ R : Type} {f : σ → Option (Step3 σ τ R)} {k : τ → Option R} {P : R → Prop} {x : σ} (I : Nat → σ → Prop) (Q : τ → Prop) (m : Nat) (h0 : I m x) (hN : m < 4294967296)
    (hr : ∀ m x, I m x → (∃ x' m', f x = some (.next x') ∧ m' < m ∧ I m' x') ∨ (∃ y, f x = some (.out y) ∧ Q y) ∨ ∃ r, f x = some (.fin r) ∧ P r) (hk : ∀ y, Q y → ∃ r, k y = some r ∧ P r) : ∃ r, andK (iter f NN x) k = some r ∧ P r := by
  have go : ∀ (N m : Nat) (x : σ), I m x → m < N → (∃ y, iter f N x = some (.inl y) ∧ Q y) ∨ ∃ r, iter f N x = some (.inr r) ∧ P r := by
    intro N
    induction N with
    | zero => intro m x _ h; omega
    | succ N ih =>
      intro m x hi h
      rcases hr m x hi with ⟨x', m', h1, h2, h3⟩ | ⟨y, h1, h2⟩ | ⟨r, h1, h2⟩
      · simp only [iter, h1]; exact ih m' x' h3 (by omega)
      · exact .inl ⟨y, by simp [iter, h1], h2⟩
      · exact .inr ⟨r, by simp [iter, h1], h2⟩
  rcases go NN m x h0 hN with ⟨y, e1, e2⟩ | ⟨r, e1, e2⟩
  · rw [tzh e1]; exact hk y e2
  · rw [Fz3 e1]; exact ⟨r, rfl, e2⟩
theorem tzo {σ τ R β : Type} {f : σ → Option (Step3 σ τ R)} {k : τ → Option R} {g : β → R} {P : β → Prop} {x : σ} (n : Nat) (hn : n < 4294967296) (I : Nat → σ → Prop) (Q : τ → Prop) (h0 : I 0 x)
    (hs : ∀ j y, j < n → I j y → ∃ y', f y = some (.next y') ∧ I (j + 1) y') (he : ∀ y, I n y → ∃ z, f y = some (.out z) ∧ Q z) (hk : ∀ z, Q z → ∃ b, k z = some (g b) ∧ P b) : ∃ b, andK (iter f NN x) k = some (g b) ∧ P b := by
  have key : ∀ (m j N : Nat) (y : σ), j + m = n → m < N → I j y → ∃ z, iter f N y = some (.inl z) ∧ Q z := by
    intro m
    induction m with
    | zero =>
      intro j N y hj hN hI
      obtain ⟨M, rfl⟩ : ∃ M, N = M + 1 := ⟨N - 1, by omega⟩
      obtain rfl : j = n := by omega
      obtain ⟨z, h1, h2⟩ := he y hI
      exact ⟨z, by simp [iter, h1], h2⟩
    | succ m ih =>
      intro j N y hj hN hI
      obtain ⟨M, rfl⟩ : ∃ M, N = M + 1 := ⟨N - 1, by omega⟩
      obtain ⟨y', h1, h2⟩ := hs j y (by omega) hI
      simp only [iter, h1]
      exact ih (j + 1) M y' (by omega) (by omega) h2
  obtain ⟨z, h1, h2⟩ := key n 0 NN x (by omega) hn h0
  obtain ⟨b, h3, h4⟩ := hk z h2
  exact ⟨b, by rw [h1]; exact h3, h4⟩
theorem lzw {x k : Int} (hk : 0 < k) (hk2 : k ≤ 4611686018427387904) : (jzi x k).o = some (x % k) := by
  show (pz1 x k).run NN = _
  have h2 := Int.tmod_lt_of_pos x hk
  have h3 := Int.lt_tmod_of_pos x hk
  have h1 := Int.mul_tdiv_add_tmod x k
  have e := Int.emod_add_mul_ediv x k
  have e2 := Int.emod_nonneg x (show k ≠ 0 by omega)
  have e3 := Int.emod_lt_of_pos x hk
  simp only [pz1, T.run]
  rw [az4 (by omega)]
  by_cases h : x.tmod k < 0
  · rw [az7 h, az5, w64 (by omega) (by omega)]
    congr 1
    have : x % k = x.tmod k + k := by
      have := vzs (a := x) (b := k) (q := x.tdiv k - 1) (r := x.tmod k + k) (by omega) (by omega) (by rw [Int.mul_sub]; omega)
      rw [this, Int.mul_sub] at e; omega
    omega
  · rw [az6 h, az5]
    congr 1
    have := vzs (a := x) (b := k) (q := x.tdiv k) (r := x.tmod k) (by omega) (by omega) (by omega)
    rw [this] at e; omega
section
variable {l : List Int} (hl : l.length < 4294967296) {n : Int} (h0 : 0 ≤ n) (h1 : n ≤ (l.length : Int))
include hl h0 h1
theorem azh {k : Int} (hk : 0 < k) (hk2 : k ≤ 4611686018427387904) : ∃ r n', (azd l n k).o = some (r, l, n') ∧ 0 ≤ r ∧ r < k ∧ 0 ≤ n' ∧ n' ≤ (l.length : Int) := by
  have e0 : (azd l n k).o = (nz8 l n k).run NN := rfl
  rw [e0]
  simp only [nz8, T.run]
  by_cases h : n ≥ (l.length : Int)
  · rw [az7 h]; exact ⟨_, _, rfl, by omega, by omega, h0, h1⟩
  · rw [az6 h, w64 (x := n + 1) (by omega) (by omega), w64 (by omega) (by omega), az4 ⟨by omega, by omega⟩, lzw hk hk2, Option.bind_some]
    exact ⟨_, _, rfl, Int.emod_nonneg _ (by omega), Int.emod_lt_of_pos _ hk, by omega, by omega⟩
theorem dzd {k : Int} (hk : 0 ≤ k) (hk2 : k ≤ 1000000) : ∃ r n', (cz1 l n k).o = some (r, l, n') ∧ -k ≤ r ∧ r ≤ k ∧ 0 ≤ n' ∧ n' ≤ (l.length : Int) := by
  have e0 : (cz1 l n k).o = (kzx l n k).run NN := rfl
  rw [e0]
  simp only [kzx, T.run]
  rw [w64 (x := 2 * k) (by omega) (by omega), w64 (x := 2 * k + 1) (by omega) (by omega)]
  obtain ⟨r, n', e1, e2, e3, e4, e5⟩ := azh hl h0 h1 (k := 2 * k + 1) (by omega) (by omega)
  rw [e1, Option.bind_some, w64 (by omega) (by omega)]
  exact ⟨_, _, rfl, by omega, by omega, e4, e5⟩
def JB (j : azj) : Prop := -1048576 ≤ j.Lo ∧ j.Lo ≤ j.Hi ∧ j.Hi ≤ 1048576
theorem yzr {i : Int} (i0 : 0 ≤ i) (i1 : i ≤ 2) : ∃ j n', (jzj l n i).o = some (j, l, n') ∧ JB j ∧ 0 ≤ n' ∧ n' ≤ (l.length : Int) := by
  have e0 : (jzj l n i).o = (jzk l n i).run NN := rfl
  rw [e0]
  simp only [jzk, T.run]
  have el : ∃ b, (gzw i).o = some b := by
    have e1 : (gzw i).o = (ize i).run NN := rfl
    rw [e1]
    simp only [ize, T.run]
    rw [w64 (x := i + 1) (by omega) (by omega), az4 ⟨by omega, by omega, by rw [show ((⟨#[97, 98, 99, 100, 101, 102, 103, 104, 105, 106]⟩ : ByteArray).size) = 10 from rfl]; omega⟩]
    exact ⟨_, rfl⟩
  obtain ⟨nm, el⟩ := el
  obtain ⟨r1, n1, e1, a1, b1, c1, d1⟩ := azh hl h0 h1 (k := 4) (by decide) (by decide)
  obtain ⟨r2, n2, e2, a2, b2, c2, d2⟩ := azh hl c1 d1 (k := 3) (by decide) (by decide)
  obtain ⟨r3, n3, e3, a3, b3, c3, d3⟩ := azh hl c2 d2 (k := 8) (by decide) (by decide)
  obtain ⟨r4, n4, e4, a4, b4, c4, d4⟩ := azh hl c3 d3 (k := 4) (by decide) (by decide)
  rw [el, Option.bind_some, e1, Option.bind_some, e2, Option.bind_some, e3, Option.bind_some, az4 ⟨by simp only; omega, by simp only; omega⟩, e4, Option.bind_some]
  generalize hK : ([3, 3, 1, 2, 4, 5, 3, 0] : List Int).getD r3.toNat 0 = K
  have rest : ∀ (m pr : Int), 0 ≤ m → m ≤ (l.length : Int) → ∃ j n', (andC (bif decide (i > 0) then (cz1 l m 2).o.bind fun y21 => (cz1 y21.2.1 y21.2.2 1).o.bind fun y22 => some (.out (y22.2.1, y22.2.2, 131072, IntKind.i64.wrap (y21.1 * 32768), IntKind.i64.wrap (y22.1 * 32768))) else some (.out (l, m, 0, 0, 0)) : Option (Step3 Unit (List Int × Int × Int × Int × Int) (azj × List Int × Int))) fun y20 =>
      andC (bif K == 0 then some (.out (y20.1, y20.2.1, 0, 0)) else andC (bif K == 4 then some (.out (K == 4)) else some (.out (K == 5)) : Option (Step3 Unit Bool (Step3 Unit (List Int × Int × Int × Int) (azj × List Int × Int)))) fun y36 =>
        bif y36 then (azd y20.1 y20.2.1 3).o.bind fun y37 => (azd y37.2.1 y37.2.2 4).o.bind fun y38 => some (.out (y38.2.1, y38.2.2, IntKind.i64.wrap (IntKind.i64.wrap (0 - y37.1) * 65536), IntKind.i64.wrap (y38.1 * 32768)))
        else (azd y20.1 y20.2.1 5).o.bind fun y39 => (azd y39.2.1 y39.2.2 4).o.bind fun y40 => (azd y40.2.1 y40.2.2 3).o.bind fun y41 =>
          some (.out (y41.2.1, y41.2.2, IntKind.i64.wrap ((IntKind.i64.wrap (IntKind.i64.wrap (0 - y39.1) * 65536)).tdiv 8), IntKind.i64.wrap (IntKind.i64.wrap ((IntKind.i64.wrap (IntKind.i64.wrap (1 + y40.1) * 65536)).tdiv 8) + y41.1))) : Option (Step3 Unit (List Int × Int × Int × Int) (azj × List Int × Int))) fun y35 =>
      some ((⟨nm, K, pr, (y20.2.2.1, y20.2.2.2.1, y20.2.2.2.2), y35.2.2.1, y35.2.2.2, IntKind.i64.wrap (1 + r1), 65536, IntKind.i64.wrap (65536 + r2), 327680⟩ : azj), y35.1, y35.2.1)) = some (j, l, n') ∧ JB j ∧ 0 ≤ n' ∧ n' ≤ (l.length : Int) := by
    intro m pr m0 m1
    have lim : ∀ (m : Int) (o1 o2 o3 : Int), 0 ≤ m → m ≤ (l.length : Int) → ∃ j n', (andC (bif K == 0 then some (.out (l, m, 0, 0)) else andC (bif K == 4 then some (.out (K == 4)) else some (.out (K == 5)) : Option (Step3 Unit Bool (Step3 Unit (List Int × Int × Int × Int) (azj × List Int × Int)))) fun y36 =>
        bif y36 then (azd l m 3).o.bind fun y37 => (azd y37.2.1 y37.2.2 4).o.bind fun y38 => some (.out (y38.2.1, y38.2.2, IntKind.i64.wrap (IntKind.i64.wrap (0 - y37.1) * 65536), IntKind.i64.wrap (y38.1 * 32768)))
        else (azd l m 5).o.bind fun y39 => (azd y39.2.1 y39.2.2 4).o.bind fun y40 => (azd y40.2.1 y40.2.2 3).o.bind fun y41 =>
          some (.out (y41.2.1, y41.2.2, IntKind.i64.wrap ((IntKind.i64.wrap (IntKind.i64.wrap (0 - y39.1) * 65536)).tdiv 8), IntKind.i64.wrap (IntKind.i64.wrap ((IntKind.i64.wrap (IntKind.i64.wrap (1 + y40.1) * 65536)).tdiv 8) + y41.1))) : Option (Step3 Unit (List Int × Int × Int × Int) (azj × List Int × Int))) fun y35 =>
      some ((⟨nm, K, pr, (o1, o2, o3), y35.2.2.1, y35.2.2.2, IntKind.i64.wrap (1 + r1), 65536, IntKind.i64.wrap (65536 + r2), 327680⟩ : azj), y35.1, y35.2.1)) = some (j, l, n') ∧ JB j ∧ 0 ≤ n' ∧ n' ≤ (l.length : Int) := by
      intro m o1 o2 o3 m0 m1
      cases K == 0
      · simp only [cond_false, fz6, az5]
        cases (bif K == 4 then K == 4 else K == 5)
        · obtain ⟨s1, n1, e1, a1, b1, c1, d1⟩ := azh hl m0 m1 (k := 5) (by decide) (by decide)
          obtain ⟨s2, n2, e2, a2, b2, c2, d2⟩ := azh hl c1 d1 (k := 4) (by decide) (by decide)
          obtain ⟨s3, n3, e3, a3, b3, c3, d3⟩ := azh hl c2 d2 (k := 3) (by decide) (by decide)
          simp only [cond_false]
          rw [e1, Option.bind_some, e2, Option.bind_some, e3, Option.bind_some, az5]
          refine ⟨_, _, rfl, ?_, c3, d3⟩
          simp only [JB]
          rw [w64 (x := 0 - s1) (by omega) (by omega), w64 (x := (0 - s1) * 65536) (by omega) (by omega), w64 (x := 1 + s2) (by omega) (by omega), w64 (x := (1 + s2) * 65536) (by omega) (by omega), tzr (a := (1 + s2) * 65536) (by omega),
            show (0 - s1) * 65536 = -(s1 * 65536) by omega, zzj, tzr (by omega), w64 (x := -(s1 * 65536 / 8)) (by omega) (by omega), w64 (x := (1 + s2) * 65536 / 8) (by omega) (by omega), w64 (x := (1 + s2) * 65536 / 8 + s3) (by omega) (by omega)]
          omega
        · obtain ⟨s1, n1, e1, a1, b1, c1, d1⟩ := azh hl m0 m1 (k := 3) (by decide) (by decide)
          obtain ⟨s2, n2, e2, a2, b2, c2, d2⟩ := azh hl c1 d1 (k := 4) (by decide) (by decide)
          simp only [cond_true]
          rw [e1, Option.bind_some, e2, Option.bind_some, az5]
          refine ⟨_, _, rfl, ?_, c2, d2⟩
          simp only [JB]
          rw [w64 (x := 0 - s1) (by omega) (by omega), w64 (x := (0 - s1) * 65536) (by omega) (by omega), w64 (x := s2 * 32768) (by omega) (by omega)]
          omega
      · exact ⟨_, _, rfl, by simp only [JB]; omega, m0, m1⟩
    cases decide (i > 0)
    · simp only [cond_false, az5]; exact lim m 0 0 0 m0 m1
    · obtain ⟨s1, n1, e1, a1, b1, c1, d1⟩ := dzd hl m0 m1 (k := 2) (by decide) (by decide)
      obtain ⟨s2, n2, e2, a2, b2, c2, d2⟩ := dzd hl c1 d1 (k := 1) (by decide) (by decide)
      simp only [cond_true]
      rw [e1, Option.bind_some, e2, Option.bind_some, az5]
      exact lim n2 _ _ _ c2 d2
  cases r4 == 1
  · exact rest n4 _ c4 d4
  · exact rest n4 _ c4 d4
theorem yzu : ∃ b : az8 × List Int × Int, (iza l n).o = some b ∧ b.2.1 = l ∧ (1 ≤ b.1.Joints.length ∧ b.1.Joints.length ≤ 3 ∧ ∀ j ∈ b.1.Joints, JB j) ∧ 0 ≤ b.2.2 ∧ b.2.2 ≤ (l.length : Int) := by
  have e0 : (iza l n).o = (jzl l n).run NN := rfl
  rw [e0]
  simp only [jzl, T.run]
  obtain ⟨r1, n1, e1, a1, b1, c1, d1⟩ := azh hl h0 h1 (k := 3) (by decide) (by decide)
  rw [e1, Option.bind_some]
  simp only
  rw [w64 (x := 1 + r1) (by omega) (by omega)]
  obtain ⟨R, hR⟩ : ∃ R : Nat, 1 + r1 = (R : Int) := ⟨(1 + r1).toNat, by omega⟩
  rw [hR]
  refine tzo (g := fun b => b) R (by omega) (fun j (y : List Int × Int × List azj × Int) => y.1 = l ∧ 0 ≤ y.2.1 ∧ y.2.1 ≤ (l.length : Int) ∧ y.2.2.1.length = j ∧ (∀ x ∈ y.2.2.1, JB x) ∧ y.2.2.2 = (j : Int))
    (fun (z : List Int × Int × List azj) => z.1 = l ∧ 0 ≤ z.2.1 ∧ z.2.1 ≤ (l.length : Int) ∧ z.2.2.length = R ∧ ∀ x ∈ z.2.2, JB x) ⟨rfl, c1, d1, rfl, by simp [nl], rfl⟩ (fun j y hj hy => ?_) (fun y hy => ?_) (fun z hz => ?_)
  · obtain ⟨f1, f2, f3, f4, f5, f6⟩ := hy
    obtain ⟨jt, n', ej, hj1, hj2, hj3⟩ := yzr hl f2 f3 (i := (j : Int)) (by omega) (by omega)
    rw [f6, f1, az7 (by omega), ej, Option.bind_some]
    simp only
    rw [az4 ⟨by simp; omega, by simp [azt]; omega⟩, wn (by omega)]
    refine ⟨_, rfl, rfl, hj2, hj3, by simp; omega, fun x hx => ?_, rfl⟩
    rcases List.mem_append.1 hx with hx | hx
    · exact f5 x hx
    · rw [List.mem_singleton.1 hx]; exact hj1
  · obtain ⟨f1, f2, f3, f4, f5, f6⟩ := hy
    rw [f6, az6 (by omega)]; exact ⟨_, rfl, f1, f2, f3, f4, f5⟩
  · obtain ⟨f1, f2, f3, f4, f5⟩ := hz
    obtain ⟨r2, n2, e2, a2, b2, c2, d2⟩ := azh hl f2 f3 (k := 3) (by decide) (by decide)
    rw [f1, e2, Option.bind_some]
    simp only
    obtain ⟨M, hM⟩ : ∃ M : Nat, r2 = (M : Int) := ⟨r2.toNat, by omega⟩
    rw [hM]
    refine tzo (g := fun b => b) M (by omega) (fun j (y : List Int × Int × List czc × Int) => y.1 = l ∧ 0 ≤ y.2.1 ∧ y.2.1 ≤ (l.length : Int) ∧ y.2.2.1.length = j ∧ y.2.2.2 = (M : Int) - (j : Int))
      (fun (w : List Int × Int × List czc) => w.1 = l ∧ 0 ≤ w.2.1 ∧ w.2.1 ≤ (l.length : Int)) ⟨rfl, c2, d2, rfl, by simp⟩ (fun j y hj hy => ?_) (fun y hy => ?_) (fun w hw => ?_)
    · obtain ⟨g1, g2, g3, g4, g5⟩ := hy
      obtain ⟨s1, m1, q1, u1, v1, w1, x1⟩ := azh hl g2 g3 (k := (R : Int)) (by omega) (by omega)
      obtain ⟨s2, m2, q2, u2, v2, w2, x2⟩ := azh hl w1 x1 (k := 9000) (by decide) (by decide)
      obtain ⟨s3, m3, q3, u3, v3, w3, x3⟩ := dzd hl w2 x2 (k := 3) (by decide) (by decide)
      obtain ⟨s4, m4, q4, u4, v4, w4, x4⟩ := dzd hl w3 x3 (k := 2) (by decide) (by decide)
      rw [g5, g1, az7 (by omega), q1, Option.bind_some, q2, Option.bind_some, q3, Option.bind_some, q4, Option.bind_some]
      simp only
      rw [az4 ⟨by simp; omega, by simp [azt]; omega⟩, w64 (x := (M : Int) - (j : Int) - 1) (by omega) (by omega)]
      exact ⟨_, rfl, rfl, w4, x4, by simp; omega, by simp only; omega⟩
    · obtain ⟨g1, g2, g3, g4, g5⟩ := hy
      rw [g5, az6 (by omega)]; exact ⟨_, rfl, g1, g2, g3⟩
    · exact ⟨_, rfl, hw.1, ⟨by simp only; omega, by simp only; omega, f5⟩, hw.2.1, hw.2.2⟩
theorem yzt : ∃ r n', (iza l n).o = some (r, l, n') ∧ (1 ≤ r.Joints.length ∧ r.Joints.length ≤ 3 ∧ ∀ j ∈ r.Joints, JB j) ∧ 0 ≤ n' ∧ n' ≤ (l.length : Int) := by
  obtain ⟨⟨r, l', n'⟩, g1, g2, g3, g4, g5⟩ := yzu hl h0 h1
  simp only at g2; subst g2
  exact ⟨r, n', g1, g3, g4, g5⟩
end
theorem gzt {α : Type} [Inhabited α] {l : List α} {i j : Nat} {v : α} (h : i < l.length) : (l.set i v).getD j default = if i = j then v else l.getD j default := by
  simp only [List.getD_eq_getElem?_getD, List.getElem?_set, h, if_true]
  split <;> rfl
open Go.Proofs
theorem azl {α : Type} [Inhabited α] {l : List α} {i : Nat} (h : i < l.length) : l.getD i default ∈ l := by
  rw [List.getD_eq_getElem?_getD, List.getElem?_eq_getElem h, Option.getD_some]; exact List.getElem_mem h
theorem pzt {α : Type} [Inhabited α] {a b : List α} (hl : a.length = b.length) (h : ∀ i, i < a.length → a.getD i default = b.getD i default) : a = b := by
  refine List.ext_getElem hl (fun i h1 h2 => ?_)
  have := h i h1
  simpa only [List.getD_eq_getElem?_getD, List.getElem?_eq_getElem h1, List.getElem?_eq_getElem h2, Option.getD_some] using this
def yz0 (m : aza) (e : az1) : Bool := decide (0 ≤ e.U ∧ e.U < (m.Points.length : Int) ∧ 0 ≤ e.V ∧ e.V < (m.Points.length : Int))
theorem Dz4 (m : aza) (e : az1) : (hz2 m e).o = some (yz0 m e) := by
  show (jz8 m e).run NN = _
  simp only [jz8, T.run, hzk, ozj]
  unfold yz0
  congr 1
  rw [Bool.eq_iff_iff]
  simp only [Bool.and_eq_true, decide_eq_true_eq, ge_iff_le]
open Go.Proofs
theorem Hzm : law25_awake_C.o = some true := by kernel_rfl
end Go.Abs
