import Derived.Test.YtnehaejghnoigaaGreatTB1
import Derived.Lib.DecodeN
/-
  Checks of robots and scenes: what the program and the reference compute is the same.
-/
namespace Go.Abs

theorem scanI {R : Type} {f : Int → Option (Step3 Int U0 R)} {k : U0 → Option R} (g : Nat → Option R) (n : Nat) (hn : n < 4294967296)
    (hs : ∀ j, j < n → f (j : Int) = match g j with | some r => some (.fin r) | none => some (.next ((j + 1 : Nat) : Int))) (he : f (n : Int) = some (.out .u)) :
    andK (iter f NN 0) k = match scan g n 0 with | some r => some r | none => k .u := loop_scan (fun j => (j : Int)) g .u n rfl hn hs he
theorem wn {n : Nat} (h : n < 4294967296) : IntKind.i64.wrap ((n : Int) + 1) = ((n + 1 : Nat) : Int) := w64n (by omega)
/-- Some if true. -/
def sw {R : Type} (b : Bool) (r : R) : Option R := bif b then some r else none
theorem sw_fin {σ τ R : Type} {b : Bool} {r : R} {x : σ} : (bif b then some (.fin r) else some (.next x) : Option (Step3 σ τ R)) = match sw b r with | some r => some (.fin r) | none => some (.next x) := by cases b <;> rfl
/-- No place is bad. -/
def noneB (g : Nat → Bool) (n : Nat) : Bool := decide (∀ i, i < n → g i = false)
theorem scan_sw {R : Type} {g : Nat → Bool} {n : Nat} {r : R} : scan (fun i => sw (g i) r) n 0 = sw (!noneB g n) r := by
  cases h : scan (fun i => sw (g i) r) n 0 with
  | none =>
    rw [scan_none] at h
    have : noneB g n = true := decide_eq_true fun i hi => by
      have := h i (Nat.zero_le _) (by omega)
      unfold sw at this
      cases hg : g i with
      | true => rw [hg] at this; cases this
      | false => rfl
    rw [this]; rfl
  | some x =>
    obtain ⟨j, h1, h2, h3, -⟩ := scan_some _ _ h
    have : noneB g n = false := decide_eq_false fun hn => by
      have := hn j (by omega)
      simp only [this, sw, cond_false] at h3; cases h3
    rw [this]
    unfold sw at h3 ⊢
    cases hg : g j with
    | true => rw [hg] at h3; simpa using h3.symm
    | false => rw [hg] at h3; cases h3
theorem noneB_iff {g : Nat → Bool} {n : Nat} : noneB g n = true ↔ ∀ i, i < n → g i = false := by simp [noneB]
theorem noneB_congr {g g' : Nat → Bool} {n : Nat} (h : ∀ i, i < n → g i = g' i) : noneB g n = noneB g' n := by
  unfold noneB; congr 1; apply propext; exact ⟨fun a i hi => (h i hi) ▸ a i hi, fun a i hi => (h i hi).symm ▸ a i hi⟩

/-! ### Names -/
theorem get_at (s : ByteArray) (i : Nat) : s.get! i = s.data.getD i 0 := by
  cases s with | mk d => simp only [ByteArray.get!]; rw [getElem!_def, Array.getD_eq_getD_getElem?]; cases d[i]? <;> rfl
def byteV (s : ByteArray) (i : Nat) : Nat := (s.data.getD i 0).toNat
theorem dec_lo {s : ByteArray} {i : Nat} (h : byteV s i < 128) : Utf8.decode s i = (byteV s i, 1) := by
  rw [Lib.decode_at, get_at]; exact if_pos h
theorem dec_hi {s : ByteArray} {i : Nat} (h : 128 ≤ byteV s i) : 128 ≤ (Utf8.decode s i).1 := by
  rw [Lib.decode_at, get_at]
  unfold Lib.decodeN
  rw [if_neg (by unfold byteV at h; omega)]
  repeat' split
  all_goals (simp only; omega)
def badN (s : ByteArray) (i : Nat) : Bool := decide (¬ (97 ≤ byteV s i ∧ byteV s i ≤ 122) ∧ (i = 0 ∨ (byteV s i ≠ 95 ∧ ¬ (48 ≤ byteV s i ∧ byteV s i ≤ 57))))
def nameV (s : ByteArray) : Bool := !(decide (s.size = 0) || (decide (16 < s.size) || (s == ⟨#[119, 111, 114, 108, 100]⟩))) && noneB (badN s) s.size
theorem ref6_Name_e (s : ByteArray) : (ref6_Name_C s).o = some (nameV s) := by
  show (ref6_Name_T s).run NN = _
  simp only [ref6_Name_T, T.run, bif_out, andC_out, nameV, bif_tb]
  have e1 : decide ((s.size : Int) < 1) = decide (s.size = 0) := by congr 1; apply propext; omega
  have e2 : decide ((s.size : Int) > 16) = decide (16 < s.size) := by congr 1; apply propext; omega
  rw [e1, e2]
  cases h : (decide (s.size = 0) || (decide (16 < s.size) || (s == ⟨#[119, 111, 114, 108, 100]⟩)))
  · simp only [Bool.or_eq_false_iff, decide_eq_false_iff_not] at h
    rw [cond_false]
    refine (scanI (fun i => sw (badN s i) false) s.size (by omega) (fun j hj => ?_) ?_).trans ?_
    · rw [bif_dpos (by omega), ← sw_fin, wn (by omega)]
      simp only [Int.toNat_natCast, grd_p (show 0 ≤ (j : Int) ∧ (j : Int) < (s.size : Int) by omega), bif_out, andC_out]
      refine congrArg (fun b => bif b then some (Step3.fin false) else some (Step3.next ((j + 1 : Nat) : Int))) ?_
      rw [Bool.eq_iff_iff]
      simp only [bif_tb, bif_bf, badN, Bool.and_eq_true, Bool.or_eq_true, Bool.not_eq_true', Bool.and_eq_false_iff, Bool.or_eq_false_iff, decide_eq_true_eq, decide_eq_false_iff_not, beq_iff_eq, bne_iff_ne, ne_eq]
      unfold byteV
      omega
    · rw [bif_dneg (by omega)]
    · rw [scan_sw]
      cases noneB (badN s) s.size <;> rfl
  · rfl
theorem token_isLetter_e (a : Int) : (token_isLetter_C a).o = some (decide (97 ≤ a) && decide (a ≤ 122)) := by
  show (token_isLetter_T a).run NN = _
  simp only [token_isLetter_T, T.run, bif_some, bif_bf]
theorem token_isDigit_e (a : Int) : (token_isDigit_C a).o = some (decide (48 ≤ a) && decide (a ≤ 57)) := by
  show (token_isDigit_T a).run NN = _
  simp only [token_isDigit_T, T.run, bif_some, bif_bf]
theorem token_Name_e (s : ByteArray) : (token_Name_C s).o = some (nameV s) := by
  show (token_Name_T s).run NN = _
  simp only [token_Name_T, T.run, bif_out, andC_out, nameV, bif_tb]
  have e1 : ((s.size : Int) == 0) = decide (s.size = 0) := by rw [Bool.eq_iff_iff]; simp
  have e2 : decide ((s.size : Int) > 16) = decide (16 < s.size) := by congr 1; apply propext; omega
  rw [e1, e2]
  cases h : (decide (s.size = 0) || (decide (16 < s.size) || (s == ⟨#[119, 111, 114, 108, 100]⟩)))
  · simp only [Bool.or_eq_false_iff, decide_eq_false_iff_not] at h
    rw [cond_false]
    refine (loop_scan (fun j => j) (fun i => sw (badN s i) false) .u s.size rfl (show s.size < 4294967296 by omega) (fun j hj => ?_) ?_).trans ?_
    · rw [bif_dpos hj]
      simp only [token_isLetter_e, token_isDigit_e, Option.bind_some, bif_out, andC_out]
      have key : (bif !(decide (97 ≤ ((Utf8.decode s j).1 : Int)) && decide (((Utf8.decode s j).1 : Int) ≤ 122)) then bif ((j : Int) == 0) then true else
          bif !(decide (48 ≤ ((Utf8.decode s j).1 : Int)) && decide (((Utf8.decode s j).1 : Int) ≤ 57)) then ((Utf8.decode s j).1 : Int) != 95 else false else false) = badN s j := by
        by_cases hb : byteV s j < 128
        · rw [dec_lo hb, Bool.eq_iff_iff]
          simp only [bif_tb, bif_bf, badN, Bool.and_eq_true, Bool.or_eq_true, Bool.not_eq_true', Bool.and_eq_false_iff, Bool.or_eq_false_iff, decide_eq_true_eq, decide_eq_false_iff_not, beq_iff_eq, bne_iff_ne, ne_eq]
          omega
        · have := dec_hi (s := s) (i := j) (by omega)
          rw [Bool.eq_iff_iff]
          simp only [bif_tb, bif_bf, badN, Bool.and_eq_true, Bool.or_eq_true, Bool.not_eq_true', Bool.and_eq_false_iff, Bool.or_eq_false_iff, decide_eq_true_eq, decide_eq_false_iff_not, beq_iff_eq, bne_iff_ne, ne_eq]
          omega
      rw [key]
      cases hbad : badN s j
      · have : byteV s j < 128 := by
          simp only [badN, decide_eq_false_iff_not] at hbad
          omega
        rw [dec_lo this]; rfl
      · rfl
    · rw [bif_dneg (by omega)]
    · rw [scan_sw]
      cases noneB (badN s) s.size <;> rfl
  · rfl

/-! ### Joints -/
abbrev JJ (l : List S_Joint) (i : Nat) : S_Joint := l.getD i default
def findB (l : List S_Joint) (nm : ByteArray) (i : Nat) : Bool := (l.getD i default).Name == nm
theorem robot_Find_e (r : S_Robot) (nm : ByteArray) (h : r.Joints.length < 4294967296) : (robot_Find_C r nm).o = some (match scan (fun i => sw (findB r.Joints nm i) (i : Int)) r.Joints.length 0 with | some x => x | none => -1) := by
  show (robot_Find_T r nm).run NN = _
  simp only [robot_Find_T, T.run]
  refine (scanI (fun i => sw (findB r.Joints nm i) (i : Int)) r.Joints.length h (fun j hj => ?_) ?_).trans ?_
  · rw [bif_dpos (by omega), grd_p (by omega), wn (by omega), Int.toNat_natCast, ← sw_fin]; rfl
  · rw [bif_dneg (by omega)]
  · cases scan (fun i => sw (findB r.Joints nm i) (i : Int)) r.Joints.length 0 <;> rfl
theorem ba_refl (b : ByteArray) : (b == b) = true := by
  obtain ⟨d⟩ := b
  show (d == d) = true
  exact beq_self_eq_true d
theorem find_ne {l : List S_Joint} {i : Nat} (hi : i < l.length) : ((match scan (fun k => sw (findB l (l.getD i default).Name k) (k : Int)) l.length 0 with | some x => x | none => -1) != (i : Int)) = !noneB (findB l (l.getD i default).Name) i := by
  have hself : findB l (l.getD i default).Name i = true := ba_refl _
  cases h : scan (fun k => sw (findB l (l.getD i default).Name k) (k : Int)) l.length 0 with
  | none =>
    rw [scan_none] at h
    have := h i (Nat.zero_le _) (by omega)
    simp only [hself, sw, cond_true] at this; cases this
  | some x =>
    obtain ⟨j, h1, h2, h3, h4⟩ := scan_some _ _ h
    have hj : findB l (l.getD i default).Name j = true ∧ x = (j : Int) := by
      cases hb : findB l (l.getD i default).Name j with
      | false => simp only [hb, sw, cond_false] at h3; cases h3
      | true => simp only [hb, sw, cond_true, Option.some.injEq] at h3; exact ⟨rfl, h3.symm⟩
    have hji : j ≤ i := by
      by_cases e : j ≤ i
      · exact e
      · have := h4 i (Nat.zero_le _) (by omega)
        simp only [hself, sw, cond_true] at this; cases this
    simp only [hj.2]
    rw [Bool.eq_iff_iff]
    rw [bne_iff_ne, Bool.not_eq_true', ← Bool.not_eq_true]
    constructor
    · intro hne hall
      have := noneB_iff.1 hall j (by omega)
      rw [hj.1] at this; cases this
    · intro hn e
      apply hn
      rw [noneB_iff]
      intro k hk
      have := h4 k (Nat.zero_le _) (by omega)
      cases hb : findB l (l.getD i default).Name k with
      | false => rfl
      | true => simp only [hb, sw, cond_true] at this; cases this

def nearV (v : Int × Int × Int) (m : Int) : Bool := decide (-m ≤ v.1) && (decide (v.1 ≤ m) && (decide (-m ≤ v.2.1) && (decide (v.2.1 ≤ m) && (decide (-m ≤ v.2.2) && decide (v.2.2 ≤ m)))))
theorem nearV_iff {v : Int × Int × Int} {m : Int} : nearV v m = true ↔ (-m ≤ v.1 ∧ v.1 ≤ m) ∧ (-m ≤ v.2.1 ∧ v.2.1 ≤ m) ∧ (-m ≤ v.2.2 ∧ v.2.2 ≤ m) := by
  simp only [nearV, Bool.and_eq_true, decide_eq_true_eq, and_assoc]
theorem ref6_Near_e (v : Int × Int × Int) {m : Int} (h0 : 0 ≤ m) (h1 : m ≤ 9223372036854775807) : (ref6_Near_C v m).o = some (nearV v m) := by
  show (ref6_Near_T v m).run NN = _
  simp only [ref6_Near_T, T.run, T.ix, bif_out, andC_out]
  simp only [bif_some]
  rw [w64 (x := 0 - m) (by omega) (by omega)]
  congr 1
  rw [Bool.eq_iff_iff, nearV_iff]
  simp only [bif_tb]
  cases h1 : decide (v.1 < 0 - m) || decide (v.1 > m) <;> cases h2 : decide (v.2.1 < 0 - m) || decide (v.2.1 > m) <;> cases h3 : decide (v.2.2 < 0 - m) || decide (v.2.2 > m) <;>
    simp only [Bool.or_eq_true, Bool.or_eq_false_iff, decide_eq_true_eq, decide_eq_false_iff_not] at h1 h2 h3 <;> simp only [cond_true, cond_false, true_iff, false_iff, reduceCtorEq] <;> omega
def bey (x : Int) : Bool := decide (x < -4194304) || decide (x > 4194304)
theorem robot_beyond_e (v : Int × Int × Int) : (robot_beyond_C v).o = some (!nearV v 4194304) := by
  show (robot_beyond_T v).run NN = _
  simp only [robot_beyond_T, T.run, bif_out, andC_out, bif_tb]
  refine (scanI (fun i => sw (bey (([v.1, v.2.1, v.2.2] : List Int).getD i 0)) true) 3 (by decide) (fun j hj => ?_) ?_).trans ?_
  · rw [bif_dpos (by omega), grd_p (by omega), wn (by omega), Int.toNat_natCast, ← sw_fin]; rfl
  · rw [bif_dneg (by omega)]
  · rw [scan_sw]
    have : noneB (fun i => bey (([v.1, v.2.1, v.2.2] : List Int).getD i 0)) 3 = nearV v 4194304 := by
      rw [Bool.eq_iff_iff, noneB_iff, nearV_iff]
      constructor
      · intro h
        have a := h 0 (by decide); have b := h 1 (by decide); have c := h 2 (by decide)
        simp only [bey, List.getD_cons_zero, List.getD_cons_succ, Bool.or_eq_false_iff, decide_eq_false_iff_not] at a b c
        omega
      · intro h i hi
        match i, hi with
        | 0, _ => simp only [bey, List.getD_cons_zero, Bool.or_eq_false_iff, decide_eq_false_iff_not]; omega
        | 1, _ => simp only [bey, List.getD_cons_zero, List.getD_cons_succ, Bool.or_eq_false_iff, decide_eq_false_iff_not]; omega
        | 2, _ => simp only [bey, List.getD_cons_zero, List.getD_cons_succ, Bool.or_eq_false_iff, decide_eq_false_iff_not]; omega
    rw [this]; cases nearV v 4194304 <;> rfl
def reachV (k : Int) : Int := if k = 0 then 0 else if k = 1 ∨ k = 2 ∨ k = 3 then 524288 else 4194304
theorem robot_limit_e {k : Int} (h0 : 0 ≤ k) (h1 : k ≤ 6) : (robot_limit_C k).o = some (reachV k) := by
  show (robot_limit_T k).run NN = _
  simp only [robot_limit_T, T.run, kindP, andC_out, reachV]
  by_cases h : k = 1 ∨ k = 2 ∨ k = 3
  · rw [bif_dpos h, if_neg (by omega), if_pos h]
  · rw [bif_dneg h]
    by_cases h' : k = 4 ∨ k = 5 ∨ k = 6
    · rw [bif_dpos h', if_neg (by omega), if_neg h]
    · rw [bif_dneg h', if_pos (by omega)]
theorem ref6_reach_e (k : Int) : (ref6_reach_C k).o = some (reachV k) := by
  show (ref6_reach_T k).run NN = _
  simp only [ref6_reach_T, T.run, kindP, andC_out, reachV]
  by_cases h0 : k = 0
  · rw [bif_eq h0, if_pos h0]
  · rw [bif_ne h0, if_neg h0]
    by_cases h : k = 1 ∨ k = 2 ∨ k = 3
    · rw [bif_dpos h, if_pos h]
    · rw [bif_dneg h, if_neg h]
def betV (x a b : Int) : Bool := decide (a ≤ x) && decide (x ≤ b)
theorem robot_from1_e (x m : Int) : (robot_from1_C x m).o = some (betV x 1 m) := by
  show (robot_from1_T x m).run NN = _
  simp only [robot_from1_T, T.run, bif_some, bif_bf, betV]
theorem ref6_between_e (x a b : Int) : (ref6_between_C x a b).o = some (betV x a b) := by
  show (ref6_between_T x a b).run NN = _
  simp only [ref6_between_T, T.run, bif_some, bif_bf, betV]
def costV (j : S_Joint) : Bool := betV j.Weight 1 1024 && (betV j.Speed 1 1048576 && (betV j.Accel 1 1048576 && betV j.Torque 1 1099511627776))
def jointB (l : List S_Joint) (i : Nat) : Int :=
  let j := l.getD i default
  if !nameV j.Name || !noneB (findB l j.Name) i then 802 else if decide (j.Kind < 0) || decide (j.Kind > 6) then 803 else if decide (j.Parent < -1) || decide (j.Parent ≥ (i : Int)) then 804 else if !nearV j.Offset 4194304 then 805 else
  if decide (j.Lo > j.Hi) || (decide (j.Lo < -reachV j.Kind) || decide (j.Hi > reachV j.Kind)) then 806 else if !costV j then 807 else 0
theorem cost4 : ∀ a b c d : Bool, (bif !a || (!b || (!c || !d)) then some (807 : Int) else some 0) = some (if (!(a && (b && (c && d)))) = true then 807 else 0) := by decide
theorem reach_bd (k : Int) : 0 ≤ reachV k ∧ reachV k ≤ 4194304 := by unfold reachV; split <;> (try split) <;> omega
theorem neg_reach (k : Int) : IntKind.i64.wrap (0 - reachV k) = -reachV k := by
  have := reach_bd k; rw [w64 (by omega) (by omega)]; omega
theorem bif_if {α : Type} {b : Bool} {x y : α} : (bif b then x else y) = if b then x else y := by cases b <;> rfl
theorem robot_checkJoint_e (r : S_Robot) {i : Nat} (hi : i < r.Joints.length) (h : r.Joints.length < 4294967296) : (robot_checkJoint_C r (i : Int)).o = some (jointB r.Joints i) := by
  show (robot_checkJoint_T r (i : Int)).run NN = _
  simp only [robot_checkJoint_T, T.run]
  rw [grd_p (by omega), Int.toNat_natCast]
  simp only [token_Name_e, robot_Find_e r _ h, robot_beyond_e, robot_from1_e, Option.bind_some, bif_out, andC_out, jointB]
  rw [find_ne hi]
  generalize r.Joints.getD i default = j
  cases h1 : nameV j.Name
  · rfl
  · cases h2 : noneB (findB r.Joints j.Name) i
    · rfl
    · simp only [Bool.not_true, cond_false, Bool.or_self, if_neg Bool.false_ne_true]
      by_cases h3 : j.Kind < 0
      · rw [decide_eq_true h3]; rfl
      · by_cases h4 : j.Kind > 6
        · rw [decide_eq_true h4, decide_eq_false h3]; rfl
        · simp only [decide_eq_false h3, decide_eq_false h4, cond_false, Bool.or_self, if_neg Bool.false_ne_true, robot_limit_e (show 0 ≤ j.Kind by omega) (by omega), Option.bind_some, neg_reach, bif_out, andC_out, bif_tb]
          cases decide (j.Parent < -1) || decide (j.Parent ≥ (i : Int))
          · cases nearV j.Offset 4194304
            · rfl
            · simp only [Bool.not_true, cond_false, if_neg Bool.false_ne_true]
              cases decide (j.Lo > j.Hi) || (decide (j.Lo < -reachV j.Kind) || decide (j.Hi > reachV j.Kind))
              · simp only [cond_false, if_neg Bool.false_ne_true, costV]
                exact cost4 _ _ _ _
              · rfl
          · rfl
theorem ref6_checkJoint_e (l : List S_Joint) {i : Nat} (hi : i < l.length) (h : l.length < 4294967296) : (ref6_checkJoint_C l (i : Int)).o = some (jointB l i) := by
  show (ref6_checkJoint_T l (i : Int)).run NN = _
  simp only [ref6_checkJoint_T, T.run]
  rw [grd_p (by omega), Int.toNat_natCast]
  simp only [ref6_Name_e, Option.bind_some, jointB]
  cases h1 : nameV (l.getD i default).Name
  · rfl
  · simp only [Bool.not_true, cond_false, Bool.false_or]
    refine (scanI (fun k => sw (findB l (l.getD i default).Name k) 802) i (by omega) (fun j hj => ?_) ?_).trans ?_
    · rw [bif_dpos (by omega), grd_p (by omega), wn (by omega), Int.toNat_natCast, ← sw_fin]; rfl
    · rw [bif_dneg (by omega)]
    · rw [scan_sw]
      generalize l.getD i default = j
      cases h2 : noneB (findB l j.Name) i
      · rfl
      · simp only [Bool.not_true, sw, cond_false, if_neg Bool.false_ne_true, ref6_Near_e _ (show (0 : Int) ≤ 4194304 by decide) (by decide), ref6_reach_e, ref6_between_e, Option.bind_some, neg_reach, bif_out, andC_out, bif_tb]
        cases decide (j.Kind < 0) || decide (j.Kind > 6)
        · cases decide (j.Parent < -1) || decide (j.Parent ≥ (i : Int))
          · cases nearV j.Offset 4194304
            · rfl
            · simp only [Bool.not_true, cond_false, if_neg Bool.false_ne_true]
              cases decide (j.Lo > j.Hi) || (decide (j.Lo < -reachV j.Kind) || decide (j.Hi > reachV j.Kind))
              · simp only [cond_false, if_neg Bool.false_ne_true, costV]
                exact cost4 _ _ _ _
              · rfl
          · rfl
        · rfl
end Go.Abs

/-
  Checks of robots and scenes, configurations, pieces of motions: what the program and the reference compute is the same.
-/
namespace Go.Abs

/-! ### Lists of values by place -/
def tab {α : Type} (f : Nat → α) (n : Nat) : List α := (List.range n).map f
theorem tab_succ {α : Type} (f : Nat → α) (n : Nat) : tab f (n + 1) = tab f n ++ [f n] := by simp [tab, List.range_succ]
theorem tab_len {α : Type} (f : Nat → α) (n : Nat) : (tab f n).length = n := by simp [tab]
theorem tab_get {α : Type} {f : Nat → α} {n i : Nat} {d : α} (h : i < n) : (tab f n).getD i d = f i := by simp [tab, List.getD_eq_getElem?_getD, h]
theorem tab_congr {α : Type} {f g : Nat → α} {n : Nat} (h : ∀ i, i < n → f i = g i) : tab f n = tab g n := by
  unfold tab; apply List.map_congr_left; intro a ha; exact h a (List.mem_range.1 ha)
theorem tab_of {α : Type} [Inhabited α] (l : List α) : tab (fun i => l.getD i default) l.length = l := by
  apply List.ext_getElem?
  intro i
  simp only [tab, List.getElem?_map]
  by_cases h : i < l.length
  · simp [h]
  · simp [h]
/-- Half done: the first values, then what was there. -/
def half {α : Type} (f : Nat → α) (z : α) (n j : Nat) : List α := tab f j ++ List.replicate (n - j) z
theorem half_len {α : Type} {f : Nat → α} {z : α} {n j : Nat} (h : j ≤ n) : (half f z n j).length = n := by simp [half, tab_len]; omega
theorem half_set {α : Type} {f : Nat → α} {z : α} {n j : Nat} (h : j < n) : (half f z n j).set j (f j) = half f z n (j + 1) := by
  unfold half
  rw [List.set_append_right _ _ (by rw [tab_len]; omega), tab_len, Nat.sub_self]
  obtain ⟨m, hm⟩ : ∃ m, n - j = m + 1 := ⟨n - j - 1, by omega⟩
  rw [hm, List.replicate_succ, List.set_cons_zero, tab_succ, show n - (j + 1) = m by omega]; simp
theorem half_zero {α : Type} (f : Nat → α) (z : α) (n : Nat) : half f z n 0 = List.replicate n z := by simp [half, tab]
theorem half_all {α : Type} (f : Nat → α) (z : α) (n : Nat) : half f z n n = tab f n := by simp [half]

/-! ### Robots -/
def massB (n : Nat) (m : S_Mass) : Bool := (decide (0 ≤ m.Link) && decide (m.Link < (n : Int))) && (betV m.Mass 1 65536 && nearV m.Point 4194304)
theorem robot_validMass_e (r : S_Robot) (m : S_Mass) : (robot_validMass_C r m).o = some (massB r.Joints.length m) := by
  show (robot_validMass_T r m).run NN = _
  simp only [robot_validMass_T, T.run, robot_from1_e, robot_beyond_e, Option.bind_some, massB]
  cases decide (0 ≤ m.Link) <;> cases decide (m.Link < (r.Joints.length : Int)) <;> cases betV m.Mass 1 65536 <;> cases nearV m.Point 4194304 <;> rfl
def badM (n : Nat) (l : List S_Mass) (i : Nat) : Bool := !massB n (l.getD i default)
theorem ix_mass (l : List S_Mass) (js : List S_Joint) (ms : List S_Mass) (h : l.length < 4294967296) : (slices_IndexFunc_api_Mass_api_Mass_C l js ms).o = some (match scan (fun i => sw (badM js.length l i) (i : Int)) l.length 0 with | some x => x | none => -1, js, ms) := by
  show (slices_IndexFunc_api_Mass_api_Mass_T l js ms).run NN = _
  simp only [slices_IndexFunc_api_Mass_api_Mass_T, T.run]
  have e1 : ∀ m, (robot_Check_1_C m js ms).o = some (!massB js.length m, js, ms) := fun m => by
    show (robot_Check_1_T m js ms).run NN = _
    simp only [robot_Check_1_T, T.run, robot_validMass_e, Option.bind_some]
  refine (loop_scan (fun j => (js, ms, (j : Int))) (fun i => sw (badM js.length l i) ((i : Int), js, ms)) (js, ms) l.length rfl h (fun j hj => ?_) ?_).trans ?_
  · rw [bif_dpos (by simpa using hj), grd_p ⟨by simp, by simpa using hj⟩]
    simp only [e1, Option.bind_some, Int.toNat_natCast]
    rw [wn (by omega)]; unfold badM; cases massB js.length (l.getD j default) <;> rfl
  · rw [bif_dneg (by simp)]
  · have : ∀ n i, scan (fun i => sw (badM js.length l i) ((i : Int), js, ms)) n i = (scan (fun i => sw (badM js.length l i) (i : Int)) n i).map fun x => (x, js, ms) := by
      intro n
      induction n with
      | zero => intro i; rfl
      | succ n ih =>
        intro i; simp only [scan]
        cases badM js.length l i with
        | true => rfl
        | false => exact ih (i + 1)
    rw [this]
    cases scan (fun i => sw (badM js.length l i) (i : Int)) l.length 0 <;> rfl
theorem scan_ge {g : Nat → Bool} {n : Nat} : decide ((match scan (fun i => sw (g i) (i : Int)) n 0 with | some x => x | none => -1) ≥ 0) = !noneB g n := by
  cases h : scan (fun i => sw (g i) (i : Int)) n 0 with
  | none =>
    rw [scan_none] at h
    have : noneB g n = true := noneB_iff.2 fun i hi => by
      have := h i (Nat.zero_le _) (by omega)
      cases hg : g i with
      | true => rw [hg] at this; cases this
      | false => rfl
    rw [this]; rfl
  | some x =>
    obtain ⟨j, h1, h2, h3, -⟩ := scan_some _ _ h
    cases hg : g j with
    | false => rw [hg] at h3; cases h3
    | true =>
      rw [hg] at h3; simp only [sw, cond_true, Option.some.injEq] at h3
      have : noneB g n = false := by
        cases hn : noneB g n with
        | false => rfl
        | true => have := noneB_iff.1 hn j (by omega); rw [hg] at this; cases this
      rw [this, ← h3]; simp
theorem cf_mass (l : List S_Mass) (js : List S_Joint) (ms : List S_Mass) (h : l.length < 4294967296) : (slices_ContainsFunc_api_Mass_api_Mass_C l js ms).o = some (!noneB (badM js.length l) l.length, js, ms) := by
  show (slices_ContainsFunc_api_Mass_api_Mass_T l js ms).run NN = _
  simp only [slices_ContainsFunc_api_Mass_api_Mass_T, T.run, ix_mass l js ms h, Option.bind_some]
  rw [scan_ge]
def errJ (l : List S_Joint) (i : Nat) : Option Int := sw (jointB l i != 0) (jointB l i)
def robotV (r : S_Robot) : Int :=
  if r.Joints.length = 0 ∨ 10 < r.Joints.length then 801 else match scan (errJ r.Joints) r.Joints.length 0 with
    | some e => e
    | none => if 32 < r.Masses.length ∨ noneB (badM r.Joints.length r.Masses) r.Masses.length = false then 808 else 0
theorem robot_Check_e (r : S_Robot) : (robot_Check_C r).o = some (robotV r) := by
  show (robot_Check_T r).run NN = _
  simp only [robot_Check_T, T.run, bif_out, andC_out, robotV]
  by_cases h : r.Joints.length = 0 ∨ 10 < r.Joints.length
  · rw [if_pos h]
    rcases h with h | h
    · rw [bif_eq (by omega)]; rfl
    · rw [bif_ne (by omega), bif_dpos (by omega)]
  · rw [if_neg h, bif_ne (by omega), bif_dneg (by omega)]
    refine (scanI (errJ r.Joints) r.Joints.length (by omega) (fun j hj => ?_) ?_).trans ?_
    · rw [bif_dpos (by omega)]
      simp only [robot_checkJoint_e ⟨r.Joints, r.Masses⟩ hj (show r.Joints.length < 4294967296 by omega), Option.bind_some]
      rw [wn (by omega), sw_fin]; rfl
    · rw [bif_dneg (by omega)]
    · cases scan (errJ r.Joints) r.Joints.length 0 with
      | some e => rfl
      | none =>
        simp only
        by_cases hm : 32 < r.Masses.length
        · rw [bif_dpos (by omega), if_pos (Or.inl hm)]; rfl
        · rw [bif_dneg (by omega), cf_mass _ _ _ (by omega)]
          cases hn : noneB (badM r.Joints.length r.Masses) r.Masses.length
          · rw [if_pos (Or.inr rfl)]; rfl
          · rw [if_neg (by simp; omega)]; rfl
theorem ref6_CheckRobot_e (r : S_Robot) : (ref6_CheckRobot_C r).o = some (robotV r) := by
  show (ref6_CheckRobot_T r).run NN = _
  simp only [ref6_CheckRobot_T, T.run, bif_out, andC_out, robotV]
  by_cases h : r.Joints.length = 0 ∨ 10 < r.Joints.length
  · rw [if_pos h]
    rcases h with h | h
    · rw [bif_dpos (by omega)]; rfl
    · rw [bif_dneg (by omega), bif_dpos (by omega)]
  · rw [if_neg h, bif_dneg (by omega), bif_dneg (by omega)]
    refine (scanI (errJ r.Joints) r.Joints.length (by omega) (fun j hj => ?_) ?_).trans ?_
    · rw [bif_dpos (by omega)]
      simp only [ref6_checkJoint_e r.Joints hj (show r.Joints.length < 4294967296 by omega), Option.bind_some]
      rw [wn (by omega), sw_fin]; rfl
    · rw [bif_dneg (by omega)]
    · cases scan (errJ r.Joints) r.Joints.length 0 with
      | some e => rfl
      | none =>
        simp only
        by_cases hm : 32 < r.Masses.length
        · rw [bif_dpos (by omega), if_pos (Or.inl hm)]
        · rw [bif_dneg (by omega)]
          refine (scanI (fun i => sw (badM r.Joints.length r.Masses i) 808) r.Masses.length (by omega) (fun j hj => ?_) ?_).trans ?_
          · rw [bif_dpos (by omega), grd_p (by omega), wn (by omega), Int.toNat_natCast, ← sw_fin]
            simp only [ref6_between_e, ref6_Near_e _ (show (0 : Int) ≤ 4194304 by decide) (by decide), Option.bind_some, bif_out, andC_out]
            refine congrArg (fun b => bif b then some (Step3.fin 808) else some (Step3.next ((j + 1 : Nat) : Int))) ?_
            unfold badM massB
            generalize r.Masses.getD j default = m
            have e1 : decide (m.Link < 0) = !decide (0 ≤ m.Link) := by rw [Bool.eq_iff_iff]; simp
            have e2 : decide (m.Link ≥ (r.Joints.length : Int)) = !decide (m.Link < (r.Joints.length : Int)) := by rw [Bool.eq_iff_iff]; simp
            rw [e1, e2]
            cases decide (0 ≤ m.Link) <;> cases decide (m.Link < (r.Joints.length : Int)) <;> cases betV m.Mass 1 65536 <;> cases nearV m.Point 4194304 <;> rfl
          · rw [bif_dneg (by omega)]
          · rw [scan_sw]
            cases hn : noneB (badM r.Joints.length r.Masses) r.Masses.length
            · rw [if_pos (Or.inr rfl)]; rfl
            · rw [if_neg (by simp; omega)]; rfl
theorem robotV_ok {r : S_Robot} (h : robotV r = 0) : 1 ≤ r.Joints.length ∧ r.Joints.length ≤ 10 ∧ ∀ i, i < r.Joints.length → jointB r.Joints i = 0 := by
  unfold robotV at h
  split at h
  · cases h
  · refine ⟨by omega, by omega, fun i hi => ?_⟩
    split at h
    · rename_i e he
      obtain ⟨j, -, -, h3, -⟩ := scan_some _ _ he
      unfold errJ sw at h3
      cases hb : jointB r.Joints j != 0 with
      | false => rw [hb] at h3; cases h3
      | true =>
        rw [hb] at h3; simp only [cond_true, Option.some.injEq] at h3
        simp only [bne_iff_ne] at hb
        rw [h3] at hb; exact absurd h hb
    · rename_i he
      have := (scan_none _ _).1 he i (Nat.zero_le _) (by omega)
      unfold errJ sw at this
      cases hb : jointB r.Joints i != 0 with
      | false => simpa using hb
      | true => rw [hb] at this; cases this

/-! ### Scenes -/
def linkV (n : Nat) (k : Int) : Bool := decide (-1 ≤ k) && decide (k < (n : Int))
theorem scene_isLink_e (s : S_Scene) (k : Int) : (scene_isLink_C s k).o = some (linkV s.Robot.Joints.length k) := by
  show (scene_isLink_T s k).run NN = _
  simp only [scene_isLink_T, T.run, bif_some, bif_bf, linkV]
theorem ref6_isLink_e (r : S_Robot) (k : Int) : (ref6_isLink_C r k).o = some (linkV r.Joints.length k) := by
  show (ref6_isLink_T r k).run NN = _
  simp only [ref6_isLink_T, T.run, bif_some, bif_bf, linkV, ge_iff_le]
def farP (l : List (Int × Int × Int)) (i : Nat) : Bool := !nearV (l.getD i default) 4194304
def shapeV (n : Nat) (x : S_Shape) : Int :=
  if (linkV n x.Link && betV x.Radius 1 1048576) = false ∨ x.Points.length = 0 ∨ 8 < x.Points.length then 902 else if noneB (farP x.Points) x.Points.length then 0 else 805
theorem far3 (v : Int × Int × Int) : noneB (fun i => bey (([v.1, v.2.1, v.2.2] : List Int).getD i 0)) 3 = nearV v 4194304 := by
  rw [Bool.eq_iff_iff, noneB_iff, nearV_iff]
  constructor
  · intro h
    have a := h 0 (by decide); have b := h 1 (by decide); have c := h 2 (by decide)
    simp only [bey, List.getD_cons_zero, List.getD_cons_succ, Bool.or_eq_false_iff, decide_eq_false_iff_not] at a b c
    omega
  · intro h i hi
    match i, hi with
    | 0, _ => simp only [bey, List.getD_cons_zero, Bool.or_eq_false_iff, decide_eq_false_iff_not]; omega
    | 1, _ => simp only [bey, List.getD_cons_zero, List.getD_cons_succ, Bool.or_eq_false_iff, decide_eq_false_iff_not]; omega
    | 2, _ => simp only [bey, List.getD_cons_zero, List.getD_cons_succ, Bool.or_eq_false_iff, decide_eq_false_iff_not]; omega
theorem scene_checkShape_e (s : S_Scene) (x : S_Shape) : (scene_checkShape_C s x).o = some (shapeV s.Robot.Joints.length x) := by
  show (scene_checkShape_T s x).run NN = _
  simp only [scene_checkShape_T, T.run, scene_isLink_e, Option.bind_some, bif_out, andC_out, shapeV]
  cases hl : linkV s.Robot.Joints.length x.Link
  · rfl
  · simp only [Bool.not_true, cond_false, Bool.true_and]
    by_cases h1 : x.Radius < 1
    · rw [bif_dpos h1, if_pos]; · rfl
      simp [betV]; omega
    · rw [bif_dneg h1]
      by_cases h2 : x.Radius > 1048576
      · rw [bif_dpos h2, if_pos]; · rfl
        simp [betV]; omega
      · rw [bif_dneg h2]
        by_cases h3 : x.Points.length = 0
        · rw [bif_dpos (by omega), if_pos (Or.inr (Or.inl h3))]; rfl
        · rw [bif_dneg (by omega)]
          by_cases h4 : 8 < x.Points.length
          · rw [bif_dpos (by omega), if_pos (Or.inr (Or.inr h4))]
          · have hb : betV x.Radius 1 1048576 = true := by simp [betV]; omega
            rw [bif_dneg (by omega), hb, if_neg (fun h5 => by rcases h5 with h5 | h5 | h5; · cases h5
                                                              · omega
                                                              · omega)]
            refine (scanI (fun i => sw (farP x.Points i) 805) x.Points.length (by omega) (fun j hj => ?_) ?_).trans ?_
            · rw [bif_dpos (by omega), grd_p (by omega), Int.toNat_natCast, wn (by omega)]
              refine (scanI (fun i => sw (bey (([(x.Points.getD j default).1, (x.Points.getD j default).2.1, (x.Points.getD j default).2.2] : List Int).getD i 0)) (Step3.fin 805)) 3 (by decide) (fun k hk => ?_) ?_).trans ?_
              · rw [bif_dpos (by omega), grd_p (by omega), wn (by omega), Int.toNat_natCast, ← sw_fin]
                simp only [bif_tb]; rfl
              · rw [bif_dneg (by omega)]
              · rw [scan_sw, far3]; unfold farP
                cases nearV (x.Points.getD j default) 4194304 <;> rfl
            · rw [bif_dneg (by omega)]
            · rw [scan_sw]; cases noneB (farP x.Points) x.Points.length <;> rfl
def errS (n : Nat) (l : List S_Shape) (i : Nat) : Option Int := sw (shapeV n (l.getD i default) != 0) (shapeV n (l.getD i default))
def badK (n : Nat) (l : List S_Skip) (i : Nat) : Bool := !(linkV n (l.getD i default).A && linkV n (l.getD i default).B)
def sceneV (s : S_Scene) : Int :=
  if robotV s.Robot ≠ 0 then robotV s.Robot else if 24 < s.Shapes.length then 901 else match scan (errS s.Robot.Joints.length s.Shapes) s.Shapes.length 0 with
    | some e => e
    | none => if 64 < s.Skips.length then 903 else if noneB (badK s.Robot.Joints.length s.Skips) s.Skips.length then 0 else 903
theorem scene_Check_e (s : S_Scene) : (scene_Check_C s).o = some (sceneV s) := by
  show (scene_Check_T s).run NN = _
  simp only [scene_Check_T, T.run, robot_Check_e, Option.bind_some, sceneV]
  by_cases h : robotV s.Robot = 0
  · rw [bif_nne h, if_neg (by simpa using h)]
    by_cases h1 : 24 < s.Shapes.length
    · rw [bif_dpos (by omega), if_pos h1]
    · rw [bif_dneg (by omega), if_neg h1]
      refine (scanI (errS s.Robot.Joints.length s.Shapes) s.Shapes.length (by omega) (fun j hj => ?_) ?_).trans ?_
      · rw [bif_dpos (by omega), grd_p (by omega), wn (by omega), Int.toNat_natCast]
        simp only [scene_checkShape_e, Option.bind_some]
        rw [sw_fin]; rfl
      · rw [bif_dneg (by omega)]
      · cases scan (errS s.Robot.Joints.length s.Shapes) s.Shapes.length 0 with
        | some e => rfl
        | none =>
          simp only
          by_cases h2 : 64 < s.Skips.length
          · rw [bif_dpos (by omega), if_pos h2]
          · rw [bif_dneg (by omega), if_neg h2]
            refine (scanI (fun i => sw (badK s.Robot.Joints.length s.Skips i) 903) s.Skips.length (by omega) (fun j hj => ?_) ?_).trans ?_
            · rw [bif_dpos (by omega), grd_p (by omega), wn (by omega), Int.toNat_natCast, ← sw_fin]
              simp only [scene_isLink_e, Option.bind_some, bif_out, andC_out, badK]
              cases linkV s.Robot.Joints.length (s.Skips.getD j default).A <;> cases linkV s.Robot.Joints.length (s.Skips.getD j default).B <;> rfl
            · rw [bif_dneg (by omega)]
            · rw [scan_sw]; cases noneB (badK s.Robot.Joints.length s.Skips) s.Skips.length <;> rfl
  · rw [bif_neq h, if_pos h]
theorem ref6_CheckScene_e (s : S_Scene) : (ref6_CheckScene_C s).o = some (sceneV s) := by
  show (ref6_CheckScene_T s).run NN = _
  simp only [ref6_CheckScene_T, T.run, ref6_CheckRobot_e, Option.bind_some, sceneV]
  by_cases h : robotV s.Robot = 0
  · rw [bif_nne h, if_neg (by simpa using h)]
    by_cases h1 : 24 < s.Shapes.length
    · rw [bif_dpos (by omega), if_pos h1]
    · rw [bif_dneg (by omega), if_neg h1]
      refine (scanI (errS s.Robot.Joints.length s.Shapes) s.Shapes.length (by omega) (fun j hj => ?_) ?_).trans ?_
      · rw [bif_dpos (by omega), grd_p (by omega), wn (by omega), Int.toNat_natCast]
        unfold errS
        generalize s.Shapes.getD j default = x
        simp only [ref6_isLink_e, ref6_between_e, Option.bind_some, bif_out, andC_out, shapeV]
        cases hl : linkV s.Robot.Joints.length x.Link
        · rfl
        · cases hr : betV x.Radius 1 1048576
          · rfl
          · simp only [Bool.not_true, cond_false, Bool.and_self]
            by_cases h3 : x.Points.length = 0
            · rw [bif_dpos (by omega), if_pos (Or.inr (Or.inl h3))]; rfl
            · rw [bif_dneg (by omega)]
              by_cases h4 : 8 < x.Points.length
              · rw [bif_dpos (by omega), if_pos (Or.inr (Or.inr h4))]; rfl
              · rw [bif_dneg (by omega), if_neg (fun h5 => by rcases h5 with h5 | h5 | h5; · cases h5
                                                              · omega
                                                              · omega)]
                refine (scanI (fun i => sw (farP x.Points i) (Step3.fin 805)) x.Points.length (by omega) (fun k hk => ?_) ?_).trans ?_
                · rw [bif_dpos (by omega), grd_p (by omega), wn (by omega), Int.toNat_natCast, ← sw_fin]
                  simp only [ref6_Near_e _ (show (0 : Int) ≤ 4194304 by decide) (by decide), Option.bind_some]; rfl
                · rw [bif_dneg (by omega)]
                · rw [scan_sw]; cases noneB (farP x.Points) x.Points.length <;> rfl
      · rw [bif_dneg (by omega)]
      · cases scan (errS s.Robot.Joints.length s.Shapes) s.Shapes.length 0 with
        | some e => rfl
        | none =>
          simp only
          by_cases h2 : 64 < s.Skips.length
          · rw [bif_dpos (by omega), if_pos h2]
          · rw [bif_dneg (by omega), if_neg h2]
            refine (scanI (fun i => sw (badK s.Robot.Joints.length s.Skips i) 903) s.Skips.length (by omega) (fun j hj => ?_) ?_).trans ?_
            · rw [bif_dpos (by omega), wn (by omega), ← sw_fin]
              simp only [Int.toNat_natCast, grd_p (show 0 ≤ (j : Int) ∧ (j : Int) < (s.Skips.length : Int) by omega), ref6_isLink_e, Option.bind_some, bif_out, andC_out, badK]
              cases linkV s.Robot.Joints.length (s.Skips.getD j default).A <;> cases linkV s.Robot.Joints.length (s.Skips.getD j default).B <;> rfl
            · rw [bif_dneg (by omega)]
            · rw [scan_sw]; cases noneB (badK s.Robot.Joints.length s.Skips) s.Skips.length <;> rfl
  · rw [bif_neq h, if_pos h]

/-! ### Configurations -/
def outJ (l : List S_Joint) (c : List Int) (i : Nat) : Bool := decide (c.getD i default < (l.getD i default).Lo) || decide (c.getD i default > (l.getD i default).Hi)
def insideV (r : S_Robot) (c : List Int) : Bool := decide (robotV r = 0) && (decide (c.length = r.Joints.length) && noneB (outJ r.Joints c) c.length)
theorem config_every_e (l : List S_Joint) (c : List Int) (h : l.length < 4294967296) : (config_every_api_Joint_int64_C l c).o = some (decide (c.length = l.length) && noneB (outJ l c) c.length) := by
  show (config_every_api_Joint_int64_T l c).run NN = _
  simp only [config_every_api_Joint_int64_T, T.run]
  have e1 : ∀ j x, (config_Inside_1_C j x).o = some (decide (j.Lo ≤ x) && decide (x ≤ j.Hi)) := fun j x => by
    show (config_Inside_1_T j x).run NN = _
    simp only [config_Inside_1_T, T.run, bif_some, bif_bf]
  by_cases h1 : c.length = l.length
  · rw [bif_nne (by omega), decide_eq_true h1, Bool.true_and]
    refine (scanI (fun i => sw (outJ l c i) false) l.length h (fun j hj => ?_) ?_).trans ?_
    · rw [bif_dpos (by omega), grd_p (by omega), grd_p (by omega), wn (by omega), Int.toNat_natCast, ← sw_fin]
      simp only [e1, Option.bind_some]
      refine congrArg (fun b => bif b then some (Step3.fin false) else some (Step3.next ((j + 1 : Nat) : Int))) ?_
      rw [Bool.eq_iff_iff]
      simp only [outJ, Bool.not_eq_true', Bool.and_eq_false_iff, Bool.or_eq_true, decide_eq_true_eq, decide_eq_false_iff_not]
      omega
    · rw [bif_dneg (by omega)]
    · rw [scan_sw, h1]; cases noneB (outJ l c) l.length <;> rfl
  · rw [bif_neq (by omega), decide_eq_false h1]; rfl
theorem config_Inside_e (r : S_Robot) (c : List Int) : (config_Inside_C r c).o = some (insideV r c) := by
  show (config_Inside_T r c).run NN = _
  simp only [config_Inside_T, T.run, robot_Check_e, Option.bind_some, insideV]
  by_cases h : robotV r = 0
  · have := robotV_ok h
    rw [bif_eq h, config_every_e _ _ (by omega), decide_eq_true h]; rfl
  · rw [bif_ne h, decide_eq_false h]; rfl
theorem ref10_Inside_e (r : S_Robot) (c : List Int) : (ref10_Inside_C r c).o = some (insideV r c) := by
  show (ref10_Inside_T r c).run NN = _
  simp only [ref10_Inside_T, T.run, ref6_CheckRobot_e, Option.bind_some, bif_out, andC_out, insideV]
  by_cases h : robotV r = 0
  · have := robotV_ok h
    rw [bif_nne h, decide_eq_true h, Bool.true_and]
    by_cases h1 : c.length = r.Joints.length
    · rw [bif_nne (by omega), decide_eq_true h1, Bool.true_and]
      refine (scanI (fun i => sw (outJ r.Joints c i) false) c.length (by omega) (fun j hj => ?_) ?_).trans ?_
      · rw [bif_dpos (by omega), wn (by omega), ← sw_fin]
        simp only [Int.toNat_natCast, grd_p (show 0 ≤ (j : Int) ∧ (j : Int) < (c.length : Int) by omega), grd_p (show 0 ≤ (j : Int) ∧ (j : Int) < (r.Joints.length : Int) by omega), bif_out, andC_out, bif_tb, outJ]
      · rw [bif_dneg (by omega)]
      · rw [scan_sw]; cases noneB (outJ r.Joints c) c.length <;> rfl
    · rw [bif_neq (by omega), decide_eq_false h1]; rfl
  · rw [bif_neq h, decide_eq_false h]; rfl
def big1 (l : List Int) (i : Nat) : Bool := decide (l.getD i default < -2147483648) || decide (l.getD i default > 2147483648)
def smallV (l : List Int) : Bool := noneB (big1 l) l.length
theorem config_small_e (l : List Int) (h : l.length < 4294967296) : (config_small_C l).o = some (smallV l) := by
  show (config_small_T l).run NN = _
  have e1 : ∀ x, (config_small_1_C x).o = some (decide (x < -2147483648) || decide (x > 2147483648)) := fun x => by
    show (config_small_1_T x).run NN = _
    simp only [config_small_1_T, T.run, bif_some, bif_tb]
  have e2 : (slices_IndexFunc_int64_int64_C l).o = some (match scan (fun i => sw (big1 l i) (i : Int)) l.length 0 with | some x => x | none => -1) := by
    show (slices_IndexFunc_int64_int64_T l).run NN = _
    simp only [slices_IndexFunc_int64_int64_T, T.run]
    refine (scanI (fun i => sw (big1 l i) (i : Int)) l.length h (fun j hj => ?_) ?_).trans ?_
    · rw [bif_dpos (by omega), grd_p (by omega), wn (by omega), Int.toNat_natCast, ← sw_fin]
      simp only [e1, Option.bind_some, big1]
    · rw [bif_dneg (by omega)]
    · cases scan (fun i => sw (big1 l i) (i : Int)) l.length 0 <;> rfl
  have e3 : (slices_ContainsFunc_int64_int64_C l).o = some (!smallV l) := by
    show (slices_ContainsFunc_int64_int64_T l).run NN = _
    simp only [slices_ContainsFunc_int64_int64_T, T.run, e2, Option.bind_some]
    rw [scan_ge]; rfl
  simp only [config_small_T, T.run, e3, Option.bind_some, Bool.not_not]
theorem ref10_small_e (l : List Int) (h : l.length < 4294967296) : (ref10_small_C l).o = some (smallV l) := by
  show (ref10_small_T l).run NN = _
  simp only [ref10_small_T, T.run]
  refine (scanI (fun i => sw (big1 l i) false) l.length h (fun j hj => ?_) ?_).trans ?_
  · rw [bif_dpos (by omega), wn (by omega), ← sw_fin]
    simp only [Int.toNat_natCast, grd_p (show 0 ≤ (j : Int) ∧ (j : Int) < (l.length : Int) by omega), bif_out, andC_out, bif_tb, big1]
  · rw [bif_dneg (by omega)]
  · rw [scan_sw]; unfold smallV; cases noneB (big1 l) l.length <;> rfl
def motionV (p q : List Int) (d : Int) : Bool := smallV p && (smallV q && (decide (p.length = q.length) && (decide (0 ≤ d) && decide (d ≤ 20))))
theorem beq_len {a b : Nat} : ((a : Int) == (b : Int)) = decide (a = b) := by rw [Bool.eq_iff_iff]; simp only [beq_iff_eq, decide_eq_true_eq]; omega
theorem config_isMotion_e (p q : List Int) (d : Int) (hp : p.length < 4294967296) (hq : q.length < 4294967296) : (config_isMotion_C p q d).o = some (motionV p q d) := by
  show (config_isMotion_T p q d).run NN = _
  simp only [config_isMotion_T, T.run, config_small_e p hp, config_small_e q hq, Option.bind_some, motionV, beq_len]
  cases decide (p.length = q.length) <;> cases smallV p <;> cases smallV q <;> cases decide (0 ≤ d) <;> rfl
theorem ref10_pieces_e (p q : List Int) (d : Int) (hp : p.length < 4294967296) (hq : q.length < 4294967296) : (ref10_pieces_C p q d).o = some (motionV p q d) := by
  show (ref10_pieces_T p q d).run NN = _
  simp only [ref10_pieces_T, T.run, ref10_small_e p hp, ref10_small_e q hq, Option.bind_some, motionV, beq_len, ge_iff_le]
  cases decide (p.length = q.length) <;> cases smallV p <;> cases smallV q <;> cases decide (0 ≤ d) <;> rfl
end Go.Abs

/-
  Pieces of motions, links, placed points, pairs: what the program and the reference compute is the same.
-/
namespace Go.Abs

def pieceI (p q : List Int) (d : Nat) (i : Int) (k : Nat) : S_Interval :=
  ⟨p.getD k default + min (i * (q.getD k default - p.getD k default)) ((i + 1) * (q.getD k default - p.getD k default)) / 2 ^ d,
   p.getD k default + cdiv (max (i * (q.getD k default - p.getD k default)) ((i + 1) * (q.getD k default - p.getD k default))) (2 ^ d)⟩
def pieceV (p q : List Int) (d i : Int) : List S_Interval × Bool :=
  if motionV p q d = true ∧ 0 ≤ i ∧ i < 2 ^ d.toNat then (tab (pieceI p q d.toNat i) p.length, true) else (nl, false)
theorem small_get {l : List Int} (h : smallV l = true) {i : Nat} (hi : i < l.length) : -2147483648 ≤ l.getD i default ∧ l.getD i default ≤ 2147483648 := by
  have := noneB_iff.1 h i hi
  simp only [big1, Bool.or_eq_false_iff, decide_eq_false_iff_not] at this
  omega
theorem motionV_iff {p q : List Int} {d : Int} : motionV p q d = true ↔ smallV p = true ∧ smallV q = true ∧ p.length = q.length ∧ 0 ≤ d ∧ d ≤ 20 := by
  simp only [motionV, Bool.and_eq_true, decide_eq_true_eq]
theorem pow20 {k : Nat} (h : k ≤ 20) : (2 : Int) ^ k ≤ 1048576 := by
  have : (2 : Int) ^ k ≤ 2 ^ 20 := by
    exact_mod_cast Nat.pow_le_pow_right (by decide : 0 < 2) h
  have e : (2 : Int) ^ 20 = 1048576 := by decide
  omega
theorem mul52 {i D : Int} (h0 : 0 ≤ i) (h1 : i ≤ 1048576) (h2 : -4294967296 ≤ D ∧ D ≤ 4294967296) : -4503599627370496 ≤ i * D ∧ i * D ≤ 4503599627370496 := by
  have h : (i * D).natAbs ≤ 1048576 * 4294967296 := by rw [Int.natAbs_mul]; exact Nat.mul_le_mul (by omega) (by omega)
  omega
theorem u64_id {d : Int} (h0 : 0 ≤ d) (h1 : d ≤ 20) : IntKind.u64.wrap d = d := by
  show (if (false && decide (d % 18446744073709551616 ≥ 9223372036854775808)) = true then d % 18446744073709551616 - 18446744073709551616 else d % 18446744073709551616) = d
  rw [if_neg (by simp)]; omega
theorem config_down_e (a : Int) (k : Nat) (hk : k ≤ 64) : (config_down_C a (k : Int)).o = some (a / 2 ^ k) := by
  show (config_down_T a (k : Int)).run NN = _
  simp only [config_down_T, T.run]
  rw [grd_p (by omega), Int.toNat_natCast, Nat.min_eq_left hk, fdiv_pow]
section
variable {a b i : Int} {k : Nat} (ha : -2147483648 ≤ a ∧ a ≤ 2147483648) (hb : -2147483648 ≤ b ∧ b ≤ 2147483648) (h0 : 0 ≤ i) (hi : i < 2 ^ k) (hk : k ≤ 20)
include ha hb h0 hi hk
theorem piece_in : IntKind.i64.wrap (b - a) = b - a ∧ IntKind.i64.wrap (i + 1) = i + 1 ∧ IntKind.i64.wrap (i * (b - a)) = i * (b - a) ∧ IntKind.i64.wrap ((i + 1) * (b - a)) = (i + 1) * (b - a) ∧
    InR (min (i * (b - a)) ((i + 1) * (b - a))) ∧ InR (max (i * (b - a)) ((i + 1) * (b - a))) ∧ InR (-(max (i * (b - a)) ((i + 1) * (b - a)))) ∧
    InR (a + min (i * (b - a)) ((i + 1) * (b - a)) / 2 ^ k) ∧ InR (a + cdiv (max (i * (b - a)) ((i + 1) * (b - a))) (2 ^ k)) := by
  have p20 := pow20 hk
  have hp := two_pow_pos k
  have m1 := mul52 h0 (by omega) (show -4294967296 ≤ b - a ∧ b - a ≤ 4294967296 by omega)
  have m2 := mul52 (i := i + 1) (by omega) (by omega) (show -4294967296 ≤ b - a ∧ b - a ≤ 4294967296 by omega)
  generalize i * (b - a) = u at *
  generalize (i + 1) * (b - a) = v at *
  have b1 : -4503599627370496 ≤ min u v ∧ min u v ≤ 4503599627370496 := by omega
  have b2 : -4503599627370496 ≤ max u v ∧ max u v ≤ 4503599627370496 := by omega
  have d1 := div_bd (a := min u v) hp
  have d2 := cdiv_bd (a := max u v) hp
  refine ⟨w64 (by omega) (by omega), w64 (by omega) (by omega), w64 (by omega) (by omega), w64 (by omega) (by omega), ⟨by omega, by omega⟩, ⟨by omega, by omega⟩, ⟨by omega, by omega⟩, ?_, ?_⟩
  · generalize min u v = x at *
    generalize x / 2 ^ k = y at *
    by_cases hx : 0 ≤ x
    · have := d1.1 hx; exact ⟨by omega, by omega⟩
    · have := d1.2 (by omega); exact ⟨by omega, by omega⟩
  · generalize max u v = x at *
    generalize cdiv x (2 ^ k) = y at *
    by_cases hx : 0 < x
    · have := d2.1 hx; exact ⟨by omega, by omega⟩
    · have := d2.2 (by omega); exact ⟨by omega, by omega⟩
theorem config_Piece_1_e : (config_Piece_1_C a b i (k : Int)).o = some (⟨a + min (i * (b - a)) ((i + 1) * (b - a)) / 2 ^ k, a + cdiv (max (i * (b - a)) ((i + 1) * (b - a))) (2 ^ k)⟩, i, (k : Int)) := by
  obtain ⟨e1, e2, e3, e4, e5, e6, e7, e8, e9⟩ := piece_in ha hb h0 hi hk
  show (config_Piece_1_T a b i (k : Int)).run NN = _
  have e0 : IntKind.i64.wrap (0 - max (i * (b - a)) ((i + 1) * (b - a))) = -(max (i * (b - a)) ((i + 1) * (b - a))) := by rw [Int.zero_sub]; exact e7.w
  have e10 : a - -(max (i * (b - a)) ((i + 1) * (b - a))) / 2 ^ k = a + cdiv (max (i * (b - a)) ((i + 1) * (b - a))) (2 ^ k) := by unfold cdiv; omega
  simp only [config_Piece_1_T, T.run, e1, e2, e3, e4, e0, config_down_e _ k (show k ≤ 64 by omega), Option.bind_some, e8.w, e10, e9.w]
end
theorem config_joined_e {p q : List Int} {k : Nat} {i : Int} (hp : smallV p = true) (hq : smallV q = true) (hl : p.length = q.length) (hn : p.length < 4294967296) (h0 : 0 ≤ i) (hi : i < 2 ^ k) (hk : k ≤ 20) :
    (config_joined_int64_int64_api_Interval_C p q i (k : Int)).o = some (tab (pieceI p q k i) p.length, i, (k : Int)) := by
  show (config_joined_int64_int64_api_Interval_T p q i (k : Int)).run NN = _
  simp only [config_joined_int64_int64_api_Interval_T, T.run]
  rw [grd_p ⟨by omega, by omega, by omega, by omega⟩, Int.toNat_natCast]
  refine (loop_to (fun j => (i, (k : Int), half (pieceI p q k i) ⟨0, 0⟩ p.length j, (j : Int))) (i, (k : Int), tab (pieceI p q k i) p.length) p.length ?_ hn (fun j hj => ?_) ?_).trans rfl
  · rw [half_zero]; rfl
  · rw [bif_dpos (by simpa using hj), grd_p ⟨by simp, by simpa using hj⟩, grd_p ⟨by simp, by simp; omega⟩]
    simp only [Int.toNat_natCast, config_Piece_1_e (small_get hp hj) (small_get hq (by omega : j < q.length)) h0 hi hk, Option.bind_some, half_len (show j ≤ p.length by omega)]
    rw [grd_p ⟨by omega, by omega⟩, grd_p ⟨hj, by omega⟩, wn (by omega)]
    exact congrArg (fun x => some (Step3.next (i, (k : Int), x, ((j + 1 : Nat) : Int)))) (half_set hj)
  · rw [bif_dneg (by simp)]; simp only [half_all]
theorem w2k {k : Nat} (h : k ≤ 20) : IntKind.i64.wrap (1 * 2 ^ k) = 2 ^ k := by
  have := pow20 h; have := two_pow_pos k
  rw [Int.one_mul]; exact w64 (by omega) (by omega)
theorem config_Piece_e (p q : List Int) (d i : Int) (hp : p.length < 4294967296) (hq : q.length < 4294967296) : (config_Piece_C p q d i).o = some (pieceV p q d i) := by
  show (config_Piece_T p q d i).run NN = _
  simp only [config_Piece_T, T.run, config_isMotion_e p q d hp hq, Option.bind_some, pieceV]
  by_cases hm : motionV p q d = true
  · have hm' := motionV_iff.1 hm
    obtain ⟨k, rfl⟩ : ∃ k : Nat, d = (k : Int) := ⟨d.toNat, by omega⟩
    have hk : k ≤ 20 := by omega
    rw [hm, Int.toNat_natCast]
    simp only [Bool.not_true, cond_false]
    by_cases h0 : i < 0
    · rw [bif_dpos h0, if_neg (by omega)]; rfl
    · rw [bif_dneg h0, grd_p (by omega), Nat.min_eq_left (by omega), w2k hk]
      simp only [andC_out]
      by_cases h1 : i ≥ 2 ^ k
      · rw [bif_dpos h1, if_neg (by omega)]
      · rw [bif_dneg h1, if_pos ⟨trivial, by omega, by omega⟩, config_joined_e hm'.1 hm'.2.1 hm'.2.2.1 hp (by omega) (by omega) hk]; rfl
  · rw [if_neg (fun h => hm h.1)]
    simp only [Bool.not_eq_true] at hm
    rw [hm]; rfl
theorem ref10_Piece_e (p q : List Int) (d i : Int) (hp : p.length < 4294967296) (hq : q.length < 4294967296) : (ref10_Piece_C p q d i).o = some (pieceV p q d i) := by
  show (ref10_Piece_T p q d i).run NN = _
  simp only [ref10_Piece_T, T.run, ref10_pieces_e p q d hp hq, Option.bind_some, pieceV]
  by_cases hm : motionV p q d = true
  · have hm' := motionV_iff.1 hm
    obtain ⟨k, rfl⟩ : ∃ k : Nat, d = (k : Int) := ⟨d.toNat, by omega⟩
    have hk : k ≤ 20 := by omega
    rw [hm, Int.toNat_natCast, u64_id (by omega) (by omega), Int.toNat_natCast]
    simp only [Bool.not_true, cond_false]
    by_cases h0 : i < 0
    · rw [bif_dpos h0, if_neg (by omega)]; rfl
    · rw [bif_dneg h0, grd_p (by omega), Nat.min_eq_left (by omega), w2k hk]
      simp only [andC_out]
      by_cases h1 : i ≥ 2 ^ k
      · rw [bif_dpos h1, if_neg (by omega)]
      · rw [bif_dneg h1, if_pos ⟨trivial, by omega, by omega⟩, grd_p (by omega)]
        refine (loop_to (fun j => (tab (pieceI p q k i) j, (j : Int))) (tab (pieceI p q k i) p.length) p.length rfl hp (fun j hj => ?_) ?_).trans rfl
        · obtain ⟨e1, e2, e3, e4, e5, e6, e7, e8, e9⟩ := piece_in (small_get hm'.1 hj) (small_get hm'.2.1 (by omega : j < q.length)) (by omega : 0 ≤ i) (by omega : i < 2 ^ k) hk
          rw [bif_dpos (by simpa using hj), grd_p ⟨by simp, by simp; omega⟩, grd_p ⟨by simp, by simpa using hj⟩, grd_p ⟨by simp, by simpa using hj⟩]
          simp only [Int.toNat_natCast, e1, e2, e3, e4, ref1_Floor_e e5 (two_pow_pos k), ref1_Ceil_e e6 (two_pow_pos k), Option.bind_some, e8.w, e9.w]
          rw [grd_p ⟨by omega, by omega⟩, grd_p ⟨by simp [tab_len]; omega, by simp [tab_len, maxLen_eq]; omega⟩, wn (by omega), tab_succ]; rfl
        · rw [bif_dneg (by simp)]
  · rw [if_neg (fun h => hm h.1)]
    simp only [Bool.not_eq_true] at hm
    rw [hm]; rfl
end Go.Abs

/-
  Links and placed points: what the program and the reference compute is the same.
-/
namespace Go.Abs

/-- What a joint without an error is like. -/
structure JointOk (l : List S_Joint) (i : Nat) : Prop where
  kind : 0 ≤ (l.getD i default).Kind ∧ (l.getD i default).Kind ≤ 6
  parent : -1 ≤ (l.getD i default).Parent ∧ (l.getD i default).Parent < (i : Int)
  off : nearV (l.getD i default).Offset 4194304 = true
  lim : (l.getD i default).Lo ≤ (l.getD i default).Hi ∧ -reachV (l.getD i default).Kind ≤ (l.getD i default).Lo ∧ (l.getD i default).Hi ≤ reachV (l.getD i default).Kind
  cost : costV (l.getD i default) = true
theorem jointB_ok {l : List S_Joint} {i : Nat} (h : jointB l i = 0) : JointOk l i := by
  unfold jointB at h
  simp only at h
  split at h
  · cases h
  · split at h
    · cases h
    · rename_i h2
      split at h
      · cases h
      · rename_i h3
        split at h
        · cases h
        · rename_i h4
          split at h
          · cases h
          · rename_i h5
            split at h
            · cases h
            · rename_i h6
              simp only [Bool.or_eq_true, decide_eq_true_eq, Bool.not_eq_true', Bool.not_eq_false] at h2 h3 h4 h5 h6
              exact ⟨by omega, by omega, h4, by omega, h6⟩
theorem robot_joint {r : S_Robot} (h : robotV r = 0) {i : Nat} (hi : i < r.Joints.length) : JointOk r.Joints i := jointB_ok ((robotV_ok h).2.2 i hi)

/-! ### Boxes -/
def notV (b : List S_Interval) (i : Nat) : Bool := !vV (b.getD i default)
def boxV (r : S_Robot) (b : List S_Interval) : Bool := decide (b.length = r.Joints.length) && noneB (notV b) b.length
theorem ref10_allValid_e (b : List S_Interval) (h : b.length < 4294967296) : (ref10_allValid_C b).o = some (noneB (notV b) b.length) := by
  show (ref10_allValid_T b).run NN = _
  simp only [ref10_allValid_T, T.run, ref1_Valid_e, Option.bind_some]
  refine (scanI (fun i => sw (notV b i) false) b.length h (fun j hj => ?_) ?_).trans ?_
  · rw [bif_dpos (by omega), grd_p (by omega), wn (by omega), Int.toNat_natCast, ← sw_fin]; rfl
  · rw [bif_dneg (by omega)]
  · rw [scan_sw]; cases noneB (notV b) b.length <;> rfl
theorem ref10_IsBox_e (r : S_Robot) (b : List S_Interval) (h : b.length < 4294967296) : (ref10_IsBox_C r b).o = some (boxV r b) := by
  show (ref10_IsBox_T r b).run NN = _
  simp only [ref10_IsBox_T, T.run, ref10_allValid_e b h, Option.bind_some, boxV, beq_len]
  cases decide (b.length = r.Joints.length) <;> rfl
theorem kinematics_isBox_e (r : S_Robot) (b : List S_Interval) (h : b.length < 4294967296) : (kinematics_isBox_C r b).o = some (boxV r b) := by
  have e1 : ∀ x, (kinematics_isBox_1_C x).o = some (!vV x) := fun x => by
    show (kinematics_isBox_1_T x).run NN = _
    simp only [kinematics_isBox_1_T, T.run, interval_Valid_e, Option.bind_some]
  have e2 : (slices_IndexFunc_api_Interval_api_Interval_C b).o = some (match scan (fun i => sw (notV b i) (i : Int)) b.length 0 with | some x => x | none => -1) := by
    show (slices_IndexFunc_api_Interval_api_Interval_T b).run NN = _
    simp only [slices_IndexFunc_api_Interval_api_Interval_T, T.run, e1, Option.bind_some]
    refine (scanI (fun i => sw (notV b i) (i : Int)) b.length h (fun j hj => ?_) ?_).trans ?_
    · rw [bif_dpos (by omega), grd_p (by omega), wn (by omega), Int.toNat_natCast, ← sw_fin]; rfl
    · rw [bif_dneg (by omega)]
    · cases scan (fun i => sw (notV b i) (i : Int)) b.length 0 <;> rfl
  have e3 : (slices_ContainsFunc_api_Interval_api_Interval_C b).o = some (!noneB (notV b) b.length) := by
    show (slices_ContainsFunc_api_Interval_api_Interval_T b).run NN = _
    simp only [slices_ContainsFunc_api_Interval_api_Interval_T, T.run, e2, Option.bind_some]
    exact congrArg some scan_ge
  show (kinematics_isBox_T r b).run NN = _
  simp only [kinematics_isBox_T, T.run, e3, Option.bind_some, boxV, beq_len, Bool.not_not]
  cases decide (b.length = r.Joints.length) <;> rfl

/-! ### Links -/
section
variable (r : S_Robot) (b : List S_Interval)
def lk1 (L : List S_Pose) (i : Nat) : S_Pose :=
  if (r.Joints.getD i default).Parent = -1 then jointV (r.Joints.getD i default) (b.getD i default) else compV (L.getD (r.Joints.getD i default).Parent.toNat default) (jointV (r.Joints.getD i default) (b.getD i default))
def lkL : Nat → List S_Pose
  | 0 => []
  | i + 1 => lkL i ++ [lk1 r b (lkL i) i]
def lkP (i : Nat) : S_Pose := lk1 r b (lkL r b i) i
theorem lk_tab : ∀ j, lkL r b j = tab (lkP r b) j
  | 0 => rfl
  | j + 1 => by rw [tab_succ, ← lk_tab j]; rfl
end
variable {r : S_Robot} {b : List S_Interval}
theorem half_get {α : Type} {f : Nat → α} {z d : α} {n j i : Nat} (h : i < j) : (half f z n j).getD i d = f i := by
  unfold half
  rw [List.getD_eq_getElem?_getD, List.getElem?_append_left (by rw [tab_len]; exact h), ← List.getD_eq_getElem?_getD, tab_get h]
theorem set_get_ne {α : Type} {l : List α} {i j : Nat} {x d : α} (h : i ≠ j) : (l.set i x).getD j d = l.getD j d := by
  rw [List.getD_eq_getElem?_getD, List.getElem?_set_ne h, List.getD_eq_getElem?_getD]
theorem set_get_eq {α : Type} {l : List α} {i : Nat} {x d : α} (h : i < l.length) : (l.set i x).getD i d = x := by
  rw [List.getD_eq_getElem?_getD, List.getElem?_set_self h]; rfl
theorem ref10_Links_e (hr : robotV r = 0) (hb : boxV r b = true) : (ref10_Links_C r b).o = some (tab (lkP r b) r.Joints.length) := by
  have hr' := robotV_ok hr
  have hb' := hb
  simp only [boxV, Bool.and_eq_true, decide_eq_true_eq] at hb'
  show (ref10_Links_T r b).run NN = _
  simp only [ref10_Links_T, T.run, ref6_CheckRobot_e, ref10_IsBox_e r b (by omega), hb, hr, Option.bind_some]
  rw [bif_nne rfl, andC_out, Bool.not_true, cond_false]
  refine (loop_to (fun j => (tab (lkP r b) j, (j : Int))) (tab (lkP r b) r.Joints.length) r.Joints.length rfl (show r.Joints.length < 4294967296 by omega) (fun j hj => ?_) ?_).trans rfl
  · have jo := robot_joint hr hj
    rw [bif_dpos (by simp; omega), grd_p ⟨by simp, by simpa using hj⟩, grd_p ⟨by simp, by simp; omega⟩]
    simp only [Int.toNat_natCast, ref10_Joint_e, Option.bind_some]
    rw [grd_p ⟨by omega, by omega⟩, tab_succ]
    by_cases hp : (r.Joints.getD j default).Parent = -1
    · have e : lkP r b j = jointV (r.Joints.getD j default) (b.getD j default) := by unfold lkP lk1; rw [if_pos hp]
      rw [bif_nne hp]
      simp only [andC_out]
      rw [grd_p ⟨by simp [tab_len]; omega, by simp [tab_len, maxLen_eq]; omega⟩, wn (by omega), e]
    · have jp := jo.parent
      have e : lkP r b j = compV ((tab (lkP r b) j).getD (r.Joints.getD j default).Parent.toNat default) (jointV (r.Joints.getD j default) (b.getD j default)) := by
        unfold lkP lk1; rw [if_neg hp, lk_tab]; rfl
      rw [bif_neq hp, grd_p ⟨by omega, by omega⟩, grd_p ⟨by omega, by rw [tab_len]; omega⟩, grd_p (by rw [tab_len]; omega)]
      simp only [ref1_Compose_e, Option.bind_some, andC_out]
      rw [grd_p ⟨by simp [tab_len]; omega, by simp [tab_len, maxLen_eq]; omega⟩, wn (by omega), e]
  · rw [bif_dneg (by simp; omega)]
theorem kinematics_links_e (hr : robotV r = 0) (hb : boxV r b = true) : (kinematics_links_C r b).o = some (tab (lkP r b) r.Joints.length) := by
  have hr' := robotV_ok hr
  have hb' := hb
  simp only [boxV, Bool.and_eq_true, decide_eq_true_eq] at hb'
  show (kinematics_links_T r b).run NN = _
  simp only [kinematics_links_T, T.run]
  rw [grd_p ⟨by omega, by omega, by omega, by omega⟩, Int.toNat_natCast]
  refine (loop_to (fun j => (half (lkP r b) (⟨(izv, izv, izv), izv⟩ : S_Pose) r.Joints.length j, (j : Int))) (tab (lkP r b) r.Joints.length) r.Joints.length ?_ (show r.Joints.length < 4294967296 by omega) (fun j hj => ?_) ?_).trans rfl
  · rw [half_zero]; rfl
  · have jo := robot_joint hr hj
    have jp := jo.parent
    rw [bif_dpos (by simp; omega), grd_p ⟨by simp, by simpa using hj⟩, grd_p ⟨by simp, by simp; omega⟩]
    simp only [Int.toNat_natCast, kinematics_Joint_e, Option.bind_some, List.length_set, half_len (show j ≤ r.Joints.length by omega)]
    rw [grd_p ⟨by omega, by omega⟩, grd_p ⟨hj, by omega⟩, wn (by omega)]
    by_cases hp : (r.Joints.getD j default).Parent = -1
    · have e : lkP r b j = jointV (r.Joints.getD j default) (b.getD j default) := by unfold lkP lk1; rw [if_pos hp]
      rw [bif_nne hp]
      simp only [andC_out]
      rw [← half_set hj, e]
    · have e : lkP r b j = compV (lkP r b (r.Joints.getD j default).Parent.toNat) (jointV (r.Joints.getD j default) (b.getD j default)) := by
        conv => lhs; unfold lkP lk1
        rw [if_neg hp, lk_tab, tab_get (by omega)]
      rw [bif_neq hp, grd_p ⟨by omega, by omega⟩, grd_p (by omega), grd_p ⟨by omega, by omega⟩, grd_p hj, set_get_ne (by omega), half_get (by omega), set_get_eq (by rw [half_len (by omega)]; exact hj)]
      simp only [pose_Compose_e, Option.bind_some]
      rw [grd_p ⟨by omega, by omega⟩, grd_p ⟨hj, by omega⟩, andC_out, List.set_set, ← e, half_set hj]
  · rw [bif_dneg (by simp)]; simp only [half_all]

/-! ### Placed points -/
def shapeOk (x : S_Shape) : Bool := (betV x.Radius 1 1048576 && decide (1 ≤ x.Points.length ∧ x.Points.length ≤ 8)) && noneB (farP x.Points) x.Points.length
def placeV (x : S_Shape) (p : S_Pose) : List IV3 := if shapeOk x then tab (fun i => moveV p (pointV (x.Points.getD i default))) x.Points.length else nl
theorem shapeOk_len {x : S_Shape} (h : shapeOk x = true) : 1 ≤ x.Points.length ∧ x.Points.length ≤ 8 := by
  simp only [shapeOk, Bool.and_eq_true, decide_eq_true_eq] at h; exact h.1.2
theorem shape_cond (x : S_Shape) {α : Type} (k : Bool → Option α) : (andC (bif decide (x.Radius < 1) then some (.out true) else bif decide (x.Radius > 1048576) then some (.out true) else bif decide ((x.Points.length : Int) < 1) then some (.out true) else
    some (.out (decide ((x.Points.length : Int) > 8)))) k) = k (!(betV x.Radius 1 1048576 && decide (1 ≤ x.Points.length ∧ x.Points.length ≤ 8))) := by
  simp only [bif_out, andC_out]
  congr 1
  rw [Bool.eq_iff_iff]
  simp only [bif_tb, betV, Bool.or_eq_true, Bool.not_eq_true', Bool.and_eq_false_iff, decide_eq_true_eq, decide_eq_false_iff_not]
  omega
theorem ref10_CheckShape_e (x : S_Shape) : (ref10_CheckShape_C x).o = some (shapeOk x) := by
  show (ref10_CheckShape_T x).run NN = _
  simp only [ref10_CheckShape_T, T.run, shape_cond, shapeOk]
  cases h : betV x.Radius 1 1048576 && decide (1 ≤ x.Points.length ∧ x.Points.length ≤ 8)
  · rfl
  · simp only [Bool.and_eq_true, decide_eq_true_eq] at h
    simp only [Bool.not_true, cond_false, Bool.true_and]
    refine (scanI (fun i => sw (farP x.Points i) false) x.Points.length (by omega) (fun k hk => ?_) ?_).trans ?_
    · rw [bif_dpos (by omega), grd_p (by omega), wn (by omega), Int.toNat_natCast, ← sw_fin]
      simp only [ref6_Near_e _ (show (0 : Int) ≤ 4194304 by decide) (by decide), Option.bind_some]; rfl
    · rw [bif_dneg (by omega)]
    · rw [scan_sw]; cases noneB (farP x.Points) x.Points.length <;> rfl
theorem shape_Check_e (x : S_Shape) : (shape_Check_C x).o = some (shapeOk x) := by
  show (shape_Check_T x).run NN = _
  simp only [shape_Check_T, T.run, shape_cond, shapeOk]
  cases h : betV x.Radius 1 1048576 && decide (1 ≤ x.Points.length ∧ x.Points.length ≤ 8)
  · rfl
  · simp only [Bool.and_eq_true, decide_eq_true_eq] at h
    simp only [Bool.not_true, cond_false, Bool.true_and]
    refine (scanI (fun i => sw (farP x.Points i) false) x.Points.length (by omega) (fun j hj => ?_) ?_).trans ?_
    · rw [bif_dpos (by omega), grd_p (by omega), Int.toNat_natCast, wn (by omega)]
      refine (scanI (fun i => sw (bey (([(x.Points.getD j default).1, (x.Points.getD j default).2.1, (x.Points.getD j default).2.2] : List Int).getD i 0)) (Step3.fin false)) 3 (by decide) (fun k hk => ?_) ?_).trans ?_
      · rw [bif_dpos (by omega), grd_p (by omega), wn (by omega), Int.toNat_natCast, ← sw_fin]
        simp only [bif_out, andC_out, bif_tb]; rfl
      · rw [bif_dneg (by omega)]
      · rw [scan_sw, far3]; unfold farP
        cases nearV (x.Points.getD j default) 4194304 <;> rfl
    · rw [bif_dneg (by omega)]
    · rw [scan_sw]; cases noneB (farP x.Points) x.Points.length <;> rfl
theorem ref10_Place_e (x : S_Shape) (p : S_Pose) : (ref10_Place_C x p).o = some (placeV x p) := by
  show (ref10_Place_T x p).run NN = _
  simp only [ref10_Place_T, T.run, ref10_CheckShape_e, Option.bind_some, placeV]
  cases h : shapeOk x
  · rfl
  · have hl := shapeOk_len h
    simp only [Bool.not_true, cond_false, if_true]
    refine (loop_to (fun j => (tab (fun i => moveV p (pointV (x.Points.getD i default))) j, (j : Int))) (tab (fun i => moveV p (pointV (x.Points.getD i default))) x.Points.length) x.Points.length rfl (show x.Points.length < 4294967296 by omega) (fun j hj => ?_) ?_).trans rfl
    · rw [bif_dpos (by simpa using hj), grd_p ⟨by simp, by simpa using hj⟩]
      simp only [Int.toNat_natCast, ref1_Point_e, ref1_Apply_e, Option.bind_some]
      rw [grd_p ⟨by simp [tab_len]; omega, by simp [tab_len, maxLen_eq]; omega⟩, wn (by omega), tab_succ]
    · rw [bif_dneg (by simp)]
theorem shape_Place_e (x : S_Shape) (p : S_Pose) : (shape_Place_C x p).o = some (placeV x p) := by
  show (shape_Place_T x p).run NN = _
  simp only [shape_Place_T, T.run, shape_Check_e, Option.bind_some, placeV]
  cases h : shapeOk x
  · rfl
  · have hl := shapeOk_len h
    simp only [Bool.not_true, cond_false, if_true]
    rw [grd_p ⟨by omega, by omega, by omega, by omega⟩, Int.toNat_natCast]
    refine (loop_to (fun j => (half (fun i => moveV p (pointV (x.Points.getD i default))) izv x.Points.length j, (j : Int))) (tab (fun i => moveV p (pointV (x.Points.getD i default))) x.Points.length) x.Points.length ?_ (show x.Points.length < 4294967296 by omega) (fun j hj => ?_) ?_).trans rfl
    · rw [half_zero]; rfl
    · rw [bif_dpos (by simpa using hj), grd_p ⟨by simp, by simpa using hj⟩]
      simp only [Int.toNat_natCast, matrix_Point_e, pose_Apply_e, Option.bind_some, half_len (show j ≤ x.Points.length by omega)]
      rw [grd_p ⟨by omega, by omega⟩, grd_p ⟨hj, by omega⟩, wn (by omega), ← half_set hj]
    · rw [bif_dneg (by simp)]; simp only [half_all]
def linkP (r : S_Robot) (b : List S_Interval) (k : Int) : S_Pose := if k = -1 then restV else lkP r b k.toNat
def pointsF (s : S_Scene) (b : List S_Interval) (i : Nat) : List IV3 := placeV (s.Shapes.getD i default) (linkP s.Robot b (s.Shapes.getD i default).Link)
def pointsV (s : S_Scene) (b : List S_Interval) : List (List IV3) := if sceneV s = 0 ∧ boxV s.Robot b = true then tab (pointsF s b) s.Shapes.length else nl
structure SceneOk (s : S_Scene) : Prop where
  robot : robotV s.Robot = 0
  len : s.Shapes.length ≤ 24
  shape : ∀ i, i < s.Shapes.length → shapeV s.Robot.Joints.length (s.Shapes.getD i default) = 0
  skips : s.Skips.length ≤ 64
theorem sceneV_ok {s : S_Scene} (h : sceneV s = 0) : SceneOk s := by
  unfold sceneV at h
  split at h
  · rename_i h1; exact absurd h h1
  · rename_i h1
    split at h
    · cases h
    · rename_i h2
      split at h
      · rename_i e he
        obtain ⟨j, -, -, h3, -⟩ := scan_some _ _ he
        unfold errS sw at h3
        cases hb : shapeV s.Robot.Joints.length (s.Shapes.getD j default) != 0 with
        | false => rw [hb] at h3; cases h3
        | true =>
          rw [hb] at h3; simp only [cond_true, Option.some.injEq] at h3
          simp only [bne_iff_ne] at hb
          rw [h3] at hb; exact absurd h hb
      · rename_i he
        split at h
        · cases h
        · rename_i h4
          refine ⟨by simpa using h1, by omega, fun i hi => ?_, by omega⟩
          have := (scan_none _ _).1 he i (Nat.zero_le _) (by omega)
          unfold errS sw at this
          cases hb : shapeV s.Robot.Joints.length (s.Shapes.getD i default) != 0 with
          | false => simpa using hb
          | true => rw [hb] at this; cases this
theorem shapeV_ok {n : Nat} {x : S_Shape} (h : shapeV n x = 0) : shapeOk x = true ∧ -1 ≤ x.Link ∧ x.Link < (n : Int) := by
  unfold shapeV at h
  split at h
  · cases h
  · rename_i h1
    split at h
    · rename_i h2
      have hb : (linkV n x.Link && betV x.Radius 1 1048576) = true := by
        cases hc : (linkV n x.Link && betV x.Radius 1 1048576) with
        | true => rfl
        | false => exact absurd (Or.inl hc) h1
      simp only [Bool.and_eq_true] at hb
      refine ⟨?_, ?_⟩
      · simp only [shapeOk, Bool.and_eq_true, decide_eq_true_eq]; exact ⟨⟨hb.2, by omega⟩, h2⟩
      · have := hb.1; simp only [linkV, Bool.and_eq_true, decide_eq_true_eq] at this; exact this
    · cases h
theorem ref10_Points_e (s : S_Scene) (b : List S_Interval) (hbl : b.length < 4294967296) : (ref10_Points_C s b).o = some (pointsV s b) := by
  show (ref10_Points_T s b).run NN = _
  simp only [ref10_Points_T, T.run, ref6_CheckScene_e, ref10_IsBox_e _ b hbl, Option.bind_some, pointsV]
  by_cases h : sceneV s = 0
  · rw [bif_nne h, andC_out]
    cases hb : boxV s.Robot b
    · rw [if_neg (fun h => by cases h.2)]; rfl
    · have so := sceneV_ok h
      rw [if_pos ⟨h, rfl⟩, Bool.not_true, cond_false, ref10_Links_e so.robot hb, Option.bind_some]
      refine (loop_to (fun j => (tab (pointsF s b) j, (j : Int))) (tab (pointsF s b) s.Shapes.length) s.Shapes.length rfl (show s.Shapes.length < 4294967296 by have := so.len; omega) (fun j hj => ?_) ?_).trans rfl
      · have so2 := so.len
        have sl := (shapeV_ok (so.shape j hj)).2
        rw [bif_dpos (by simpa using hj)]
        simp only [Int.toNat_natCast, ref1_Rest_e, Option.bind_some]
        rw [grd_p ⟨by omega, by omega⟩, wn (by omega), tab_succ]
        by_cases hp : (s.Shapes.getD j default).Link = -1
        · have e : pointsF s b j = placeV (s.Shapes.getD j default) restV := by unfold pointsF linkP; rw [if_pos hp]
          rw [bif_nne hp]
          simp only [andC_out]
          rw [grd_p ⟨by omega, by omega⟩]
          simp only [ref10_Place_e, Option.bind_some]
          rw [grd_p ⟨by simp [tab_len]; omega, by simp [tab_len, maxLen_eq]; omega⟩, e]
        · have e : pointsF s b j = placeV (s.Shapes.getD j default) ((tab (lkP s.Robot b) s.Robot.Joints.length).getD (s.Shapes.getD j default).Link.toNat default) := by
            unfold pointsF linkP; rw [if_neg hp, tab_get (by omega)]
          rw [bif_neq hp, grd_p ⟨by omega, by omega⟩, grd_p ⟨by omega, by rw [tab_len]; omega⟩]
          simp only [andC_out]
          rw [grd_p ⟨by omega, by omega⟩]
          simp only [ref10_Place_e, Option.bind_some]
          rw [grd_p ⟨by simp [tab_len]; omega, by simp [tab_len, maxLen_eq]; omega⟩, e]
      · rw [bif_dneg (by simp)]
  · rw [bif_neq h, andC_out, cond_true, if_neg (fun h' => h h'.1)]
theorem kinematics_Points_e (s : S_Scene) (b : List S_Interval) (hbl : b.length < 4294967296) : (kinematics_Points_C s b).o = some (pointsV s b) := by
  show (kinematics_Points_T s b).run NN = _
  simp only [kinematics_Points_T, T.run, scene_Check_e, kinematics_isBox_e _ b hbl, Option.bind_some, pointsV]
  cases hb : boxV s.Robot b
  · rw [if_neg (fun h => by cases h.2)]; rfl
  · simp only [Bool.not_true, cond_false, andC_out]
    by_cases h : sceneV s = 0
    · have so := sceneV_ok h
      have so2 := so.len
      rw [if_pos ⟨h, trivial⟩, bif_nne h, kinematics_links_e so.robot hb, Option.bind_some, grd_p ⟨by omega, by omega, by omega, by omega⟩, Int.toNat_natCast]
      refine (loop_to (fun j => (half (pointsF s b) nl s.Shapes.length j, (j : Int))) (tab (pointsF s b) s.Shapes.length) s.Shapes.length ?_ (show s.Shapes.length < 4294967296 by omega) (fun j hj => ?_) ?_).trans rfl
      · rw [half_zero]; rfl
      · have sl := (shapeV_ok (so.shape j hj)).2
        rw [bif_dpos (by simpa using hj), grd_p ⟨by simp, by simpa using hj⟩]
        simp only [Int.toNat_natCast, pose_Identity_e, Option.bind_some, half_len (show j ≤ s.Shapes.length by omega)]
        rw [wn (by omega), ← half_set hj]
        by_cases hp : (s.Shapes.getD j default).Link = -1
        · have e : pointsF s b j = placeV (s.Shapes.getD j default) restV := by unfold pointsF linkP; rw [if_pos hp]
          rw [bif_nne hp]
          simp only [andC_out, shape_Place_e, Option.bind_some]
          rw [grd_p ⟨by omega, by omega⟩, grd_p ⟨hj, by omega⟩, e]
        · have e : pointsF s b j = placeV (s.Shapes.getD j default) ((tab (lkP s.Robot b) s.Robot.Joints.length).getD (s.Shapes.getD j default).Link.toNat default) := by
            unfold pointsF linkP; rw [if_neg hp, tab_get (by omega)]
          rw [bif_neq hp, grd_p ⟨by omega, by rw [tab_len]; omega⟩]
          simp only [andC_out, shape_Place_e, Option.bind_some]
          rw [grd_p ⟨by omega, by omega⟩, grd_p ⟨hj, by omega⟩, e]
      · rw [bif_dneg (by simp)]; simp only [half_all]
    · rw [if_neg (fun h' => h h'.1), bif_neq h]
end Go.Abs
