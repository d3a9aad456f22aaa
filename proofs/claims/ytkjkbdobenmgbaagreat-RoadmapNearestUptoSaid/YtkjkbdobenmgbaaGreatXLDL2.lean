/-
  DL2 (a part of a claim: our own text).
-/
import Derived.Test.YtkjkbdobenmgbaaGreatXLDL1
namespace Go.Abs
open Go.Proofs
def eqV (a b : List Int) : Bool := decide (a = b)
theorem sameNums_e (a b : List Int) (h : a.length < 4294967296) : (ref19_SameNumbers_C a b).o = some (eqV a b) := by
  show (ref19_SameNumbers_T a b).run NN = _
  simp only [ref19_SameNumbers_T, T.run]
  unfold eqV
  by_cases e : a.length = b.length
  · rw [bif_nne (by omega)]
    refine (scanI (fun j => sw (a.getD j default != b.getD j default) false) a.length h (fun j hj => ?_) ?_).trans ?_
    · rw [bif_dpos (by omega), grd_p (by omega), grd_p (by omega), wn (by omega), Int.toNat_natCast, ← sw_fin]
    · rw [bif_dneg (by omega)]
    · rw [scan_sw]
      by_cases hn : noneB (fun j => a.getD j default != b.getD j default) a.length = true
      · rw [hn]
        have : a = b := getD_ext e fun i hi => by
          have := of_decide_eq_true hn i hi
          simpa using this
        rw [decide_eq_true this]; rfl
      · have hn' : noneB (fun j => a.getD j default != b.getD j default) a.length = false := by simpa using hn
        rw [hn']
        have : a ≠ b := fun h => hn (by subst h; exact decide_eq_true (fun i _ => by simp))
        rw [decide_eq_false this]; rfl
  · rw [bif_neq (by omega), decide_eq_false (fun h => e (by rw [h]))]
def memB (l : List (List Int)) (c : List Int) : Bool := decide (c ∈ l)
theorem pointOf_e (l : List (List Int)) (c : List Int) (hl : l.length < 4294967296) (hn : ∀ x ∈ l, x.length < 4294967296) : ∃ z, (ref23_PointOf_1_C l c).o = some z ∧ decide (z ≥ 0) = memB l c := by
  refine ⟨match scan (fun i => sw (eqV (l.getD i default) c) (i : Int)) l.length 0 with | some x => x | none => -1, ?_, ?_⟩
  · show (ref23_PointOf_1_T l c).run NN = _
    simp only [ref23_PointOf_1_T, T.run]
    refine (scanI (fun i => sw (eqV (l.getD i default) c) (i : Int)) l.length hl (fun j hj => ?_) ?_).trans ?_
    · rw [bif_dpos (by omega), grd_p (by omega), wn (by omega), Int.toNat_natCast, sameNums_e _ _ (hn _ (getD_mem hj))]
      simp only [Option.bind_some]
      rw [← sw_fin]
    · rw [bif_dneg (by omega)]
    · cases scan (fun i => sw (eqV (l.getD i default) c) (i : Int)) l.length 0 <;> rfl
  · refine (scan_ge (g := fun i => eqV (l.getD i default) c) (n := l.length)).trans ?_
    unfold memB noneB
    rw [Bool.eq_iff_iff]
    simp only [Bool.not_eq_true', decide_eq_false_iff_not, decide_eq_true_eq]
    constructor
    · intro h
      simp only [Classical.not_forall] at h
      obtain ⟨i, hi, he⟩ := h
      have he : l.getD i default = c := by simpa [eqV] using he
      rw [← he]; exact getD_mem hi
    · intro h h2
      obtain ⟨i, hi, rfl⟩ := List.getElem_of_mem h
      have := h2 i hi
      simp [eqV, List.getD_eq_getElem?_getD, hi] at this
abbrev K10 := Int × Int × Int × Int × Int × Int × Int × Int × Int × Int
def keyC (c : List Int) : K10 := ((if 0 < c.length then c.getD 0 default else 0), (if 1 < c.length then c.getD 1 default else 0), (if 2 < c.length then c.getD 2 default else 0), (if 3 < c.length then c.getD 3 default else 0), (if 4 < c.length then c.getD 4 default else 0), (if 5 < c.length then c.getD 5 default else 0), (if 6 < c.length then c.getD 6 default else 0), (if 7 < c.length then c.getD 7 default else 0), (if 8 < c.length then c.getD 8 default else 0), (if 9 < c.length then c.getD 9 default else 0))
theorem keyC_inj {a b : List Int} (hl : a.length = b.length) (h10 : a.length ≤ 10) (h : keyC a = keyC b) : a = b := by
  refine getD_ext hl fun i hi => ?_
  simp only [keyC, Prod.mk.injEq, ← hl] at h
  obtain ⟨h0, h1, h2, h3, h4, h5, h6, h7, h8, h9⟩ := h
  have hi10 : i < 10 := by omega
  match i, hi10 with
  | 0, _ => simpa [hi] using h0
  | 1, _ => simpa [hi] using h1
  | 2, _ => simpa [hi] using h2
  | 3, _ => simpa [hi] using h3
  | 4, _ => simpa [hi] using h4
  | 5, _ => simpa [hi] using h5
  | 6, _ => simpa [hi] using h6
  | 7, _ => simpa [hi] using h7
  | 8, _ => simpa [hi] using h8
  | 9, _ => simpa [hi] using h9
theorem key10 (a b : K10) : keyEq (cells_arr_10_int64 a) (cells_arr_10_int64 b) = true ↔ a = b := by
  obtain ⟨a0, a1, a2, a3, a4, a5, a6, a7, a8, a9⟩ := a
  obtain ⟨b0, b1, b2, b3, b4, b5, b6, b7, b8, b9⟩ := b
  simp only [keyEq, cells_arr_10_int64, cellsEq, if_true, Option.map_some]
  simp
def mapC (l : List (List Int)) : List (K10 × Bool) := (l.map fun c => (keyC c, true)).reverse
theorem mapC_get (l : List (List Int)) (c : List Int) : mgetB cells_arr_10_int64 (mapC l) (cells_arr_10_int64 (keyC c)) = true ↔ ∃ x ∈ l, keyC x = keyC c := by
  unfold mapC
  rw [← List.map_reverse]
  have : (∃ x ∈ l, keyC x = keyC c) ↔ ∃ x ∈ l.reverse, keyC x = keyC c := by simp
  rw [this]
  induction l.reverse with
  | nil => simp [mgetB]
  | cons a l ih =>
    simp only [List.map_cons, mgetB]
    by_cases e : keyEq (cells_arr_10_int64 (keyC c)) (cells_arr_10_int64 (keyC a)) = true
    · rw [if_pos e]
      exact ⟨fun _ => ⟨a, List.mem_cons_self .., ((key10 _ _).1 e).symm⟩, fun _ => rfl⟩
    · rw [if_neg e]
      refine Iff.trans ih ⟨fun ⟨x, h1, h2⟩ => ⟨x, List.mem_cons_of_mem _ h1, h2⟩, fun ⟨x, h1, h2⟩ => ?_⟩
      rcases List.mem_cons.1 h1 with rfl | h1
      · exact absurd ((key10 _ _).2 h2.symm) e
      · exact ⟨x, h1, h2⟩
def disL (r : S_Robot) (pts : List (List Int)) : Nat → List (List Int)
  | 0 => []
  | j + 1 => if insideV r (pts.getD j default) = true ∧ ¬ pts.getD j default ∈ disL r pts j then disL r pts j ++ [pts.getD j default] else disL r pts j
theorem disL_len (r : S_Robot) (pts : List (List Int)) : ∀ j, (disL r pts j).length ≤ j
  | 0 => Nat.le_refl _
  | j + 1 => by
    have := disL_len r pts j
    unfold disL
    split
    · simp; omega
    · omega
theorem disL_in (r : S_Robot) (pts : List (List Int)) : ∀ j x, x ∈ disL r pts j → insideV r x = true
  | 0, _, h => by cases h
  | j + 1, x, h => by
    unfold disL at h
    split at h
    · rename_i hc
      rcases List.mem_append.1 h with h | h
      · exact disL_in r pts j x h
      · simp at h; subst h; exact hc.1
    · exact disL_in r pts j x h
theorem clone_ints (l : List Int) (h : l.length < 4294967296) : (slices_Clone_int64_int64_C l).o = some l := by
  show (slices_Clone_int64_int64_T l).run NN = _
  cases l with
  | nil => rfl
  | cons a l =>
    simp only [slices_Clone_int64_int64_T, T.run]
    simp only [List.length_cons] at h
    rw [grd_p (by simp), grd_p ⟨by simp only [List.length_nil, List.length_cons]; omega, by simp only [List.length_nil, List.length_cons, maxLen_eq]; omega⟩]; rfl
theorem inside_len {r : S_Robot} {c : List Int} (h : insideV r c = true) : c.length = r.Joints.length ∧ c.length ≤ 10 := by
  unfold insideV at h
  simp only [Bool.and_eq_true, decide_eq_true_eq] at h
  have := (robotV_ok h.1).2.1
  omega
theorem distinct_e (r : S_Robot) (pts : List (List Int)) (hl : pts.length ≤ 1000) : (roadmap_distinct_C r pts).o = some (disL r pts pts.length) := by
  show (roadmap_distinct_T r pts).run NN = _
  have er : (⟨r.Joints, r.Masses⟩ : S_Robot) = r := rfl
  simp only [roadmap_distinct_T, T.run, er, config_Inside_e, Option.bind_some]
  refine (loop_to (fun j => (disL r pts j, mapC (disL r pts j), (j : Int))) (disL r pts pts.length) pts.length rfl (by show _ < 4294967296; omega) (fun j hj => ?_) ?_).trans rfl
  · have hlen := disL_len r pts j
    have hin := disL_in r pts j
    dsimp only
    rw [bif_dpos (by omega), grd_p (by omega), bif_ne (by omega), wn (by omega), Int.toNat_natCast]
    have hs : disL r pts (j + 1) = if insideV r (pts.getD j default) = true ∧ ¬ pts.getD j default ∈ disL r pts j then disL r pts j ++ [pts.getD j default] else disL r pts j := rfl
    rw [hs]
    generalize pts.getD j default = c at *
    cases hc : insideV r c with
    | false => simp only [Bool.not_false, cond_true, andC_out]; rw [if_neg (fun h => by cases h.1)]
    | true =>
      simp only [Bool.not_true, cond_false]
      have hcl := inside_len hc
      have hk := mapC_get (disL r pts j) c
      have hiff : (∃ x ∈ disL r pts j, keyC x = keyC c) ↔ c ∈ disL r pts j := ⟨fun ⟨x, h1, h2⟩ => by
        have hx := inside_len (hin x h1)
        have := keyC_inj (by omega) (by omega) h2
        rw [← this]; exact h1, fun h => ⟨c, h, rfl⟩⟩
      rw [hiff] at hk
      by_cases hm : c ∈ disL r pts j
      · have hk := hk.2 hm
        unfold keyC at hk
        rw [if_neg (c := True ∧ ¬ c ∈ disL r pts j) (fun h => h.2 hm)]
        simp only [hk]; rfl
      · have hk := Bool.eq_false_iff.2 (fun h => hm (hk.1 h))
        unfold keyC at hk
        rw [if_pos (c := True ∧ ¬ c ∈ disL r pts j) ⟨trivial, hm⟩]
        simp only [hk]
        simp only [Bool.not_false, cond_true]
        rw [clone_ints c (by omega)]
        simp only [Option.bind_some]
        rw [grd_p (by simp only [List.length_cons, List.length_nil, maxLen_eq]; omega), andC_out]
        have : mapC (disL r pts j ++ [c]) = (keyC c, true) :: mapC (disL r pts j) := by simp [mapC]
        rw [this]; rfl
  · dsimp only; rw [bif_dneg (by omega)]
theorem max_comm' (a b : Int) : max a b = max b a := by omega
def badD (r : S_Robot) (p q : List Int) : Bool := !(decide (p.length = r.Joints.length) && (decide (q.length = r.Joints.length) && (smallV p && (smallV q && decide (robotV r = 0)))))
def stepD (r : S_Robot) (p q : List Int) (a : Int) (j : Nat) : Int := IntKind.i64.wrap (a + IntKind.i64.wrap ((r.Joints.getD j default).Weight * max (IntKind.i64.wrap (q.getD j default - p.getD j default)) (IntKind.i64.wrap (p.getD j default - q.getD j default))))
def sumD (r : S_Robot) (p q : List Int) : Nat → Int
  | 0 => 0
  | n + 1 => stepD r p q (sumD r p q n) n
def dstV (r : S_Robot) (p q : List Int) : Int := bif badD r p q then 0 else sumD r p q r.Joints.length
theorem config_dist (r : S_Robot) (p q : List Int) (hp : p.length < 4294967296) (hq : q.length < 4294967296) : (config_Distance_C r p q).o = some (dstV r p q) := by
  show (config_Distance_T r p q).run NN = _
  have er : (⟨r.Joints, r.Masses⟩ : S_Robot) = r := rfl
  simp only [config_Distance_T, T.run, er, config_small_e p hp, config_small_e q hq, robot_Check_e, Option.bind_some]
  unfold dstV badD
  by_cases c1 : p.length = r.Joints.length
  · by_cases c2 : q.length = r.Joints.length
    · rw [bif_nne (by omega), bif_nne (by omega), decide_eq_true c1, decide_eq_true c2]
      simp only [bif_out, andC_out, Bool.true_and]
      cases smallV p with
      | false => rfl
      | true =>
        cases smallV q with
        | false => rfl
        | true =>
          by_cases c3 : robotV r = 0
          · have hr := (robotV_ok c3).2.1
            rw [decide_eq_true c3]
            simp only [Bool.not_true, cond_false, c3, bne_self_eq_false, Bool.and_self, Bool.not_true]
            refine (loop_to (fun j => (sumD r p q j, (j : Int))) (sumD r p q r.Joints.length) r.Joints.length rfl (by show _ < 4294967296; omega) (fun j hj => ?_) ?_).trans rfl
            · have g1 : 0 ≤ (j : Int) ∧ (j : Int) < (r.Joints.length : Int) := by omega
              have g2 : 0 ≤ (j : Int) ∧ (j : Int) < (p.length : Int) := by omega
              have g3 : 0 ≤ (j : Int) ∧ (j : Int) < (q.length : Int) := by omega
              rw [bif_dpos (by omega)]
              simp only [grd_p g1, grd_p g2, grd_p g3, wn (show j < 4294967296 by omega), Int.toNat_natCast]
              rfl
            · rw [bif_dneg (by omega)]
          · rw [decide_eq_false c3]
            have : (robotV r != 0) = true := by simpa using c3
            simp only [Bool.not_true, cond_false, this, Bool.and_false, Bool.not_false, cond_true]
    · rw [bif_nne (by omega), bif_neq (by omega), andC_out, decide_eq_false c2]; simp only [Bool.and_false, Bool.false_and, Bool.not_false, cond_true]
  · rw [bif_neq (by omega), andC_out, decide_eq_false c1]; simp only [Bool.and_false, Bool.false_and, Bool.not_false, cond_true]
theorem ref_dist (r : S_Robot) (p q : List Int) (hp : p.length < 4294967296) (hq : q.length < 4294967296) : (ref10_Distance_C r p q).o = some (dstV r p q) := by
  show (ref10_Distance_T r p q).run NN = _
  have er : (⟨r.Joints, r.Masses⟩ : S_Robot) = r := rfl
  simp only [ref10_Distance_T, T.run, er, ref10_small_e p hp, ref10_small_e q hq, ref6_CheckRobot_e, Option.bind_some]
  unfold dstV badD
  by_cases c3 : robotV r = 0
  · have hr := (robotV_ok c3).2.1
    rw [bif_nne c3, decide_eq_true c3]
    cases smallV p with
    | false => simp only [Bool.not_true, Bool.not_false, cond_true, cond_false, andC_out, Bool.and_false, Bool.false_and]
    | true =>
      cases smallV q with
      | false => simp only [Bool.not_true, Bool.not_false, cond_true, cond_false, andC_out, Bool.and_false, Bool.false_and]
      | true =>
        simp only [Bool.not_true, cond_false]
        by_cases c1 : p.length = r.Joints.length
        · rw [bif_nne (by omega)]
          by_cases c2 : q.length = r.Joints.length
          · have h1 : (((q.length : Nat) : Int) != ((p.length : Nat) : Int)) = false := by simp; omega
            rw [h1, andC_out, decide_eq_true c1, decide_eq_true c2]
            simp only [cond_false, Bool.and_self, Bool.not_true]
            refine (loop_to (fun j => (sumD r p q j, (j : Int))) (sumD r p q r.Joints.length) r.Joints.length rfl (by show _ < 4294967296; omega) (fun j hj => ?_) ?_).trans rfl
            · have g1 : 0 ≤ (j : Int) ∧ (j : Int) < (r.Joints.length : Int) := by omega
              have g2 : 0 ≤ (j : Int) ∧ (j : Int) < (p.length : Int) := by omega
              have g3 : 0 ≤ (j : Int) ∧ (j : Int) < (q.length : Int) := by omega
              rw [bif_dpos (by omega)]
              simp only [grd_p g1, grd_p g2, grd_p g3, wn (show j < 4294967296 by omega), Int.toNat_natCast]
              rw [max_comm']
              rfl
            · rw [bif_dneg (by omega)]
          · have h1 : (((q.length : Nat) : Int) != ((p.length : Nat) : Int)) = true := by simp; omega
            rw [h1, andC_out, decide_eq_false c2]; simp only [Bool.not_true, Bool.not_false, cond_true, cond_false, andC_out, Bool.and_false, Bool.false_and]
        · rw [bif_neq (by omega), andC_out, decide_eq_false c1]; simp only [Bool.not_true, Bool.not_false, cond_true, cond_false, andC_out, Bool.and_false, Bool.false_and]
  · rw [bif_neq c3, andC_out, decide_eq_false c3]; simp only [Bool.not_true, Bool.not_false, cond_true, cond_false, andC_out, Bool.and_false, Bool.false_and]
open Go.Proofs
def ltE (a b : S_RoadmapEdge) : Bool := decide (a.U < b.U ∨ (a.U = b.U ∧ a.V < b.V))
theorem cmpI (a b : Int) : (cmp_Compare_int_C a b).o = some (if a < b then -1 else if a > b then 1 else 0) := by
  have h : ∀ x, (cmp_isNaN_int_C x).o = some (x != x) := fun _ => rfl
  show (cmp_Compare_int_T a b).run NN = _
  simp only [cmp_Compare_int_T, T.run, h, Option.bind_some, bne_self_eq_false, cond_false]
  by_cases c1 : a < b
  · rw [bif_dpos c1, if_pos c1]
  · rw [bif_dneg c1, if_neg c1]
    by_cases c2 : a > b
    · rw [bif_dpos c2, if_pos c2]
    · rw [bif_dneg c2, if_neg c2]
theorem cmpOr2 (a b : Int) : (cmp_Or_int_C [a, b]).o = some (if a ≠ 0 then a else b) := by
  show (cmp_Or_int_T [a, b]).run NN = _
  simp only [cmp_Or_int_T, T.run]
  have hl : ([a, b] : List Int).length = 2 := rfl
  refine (scanI (fun j => sw (([a, b] : List Int).getD j default != 0) (([a, b] : List Int).getD j default)) 2 (by decide) (fun j hj => ?_) (by rw [bif_dneg (by simp)])).trans ?_
  · rw [bif_dpos (by rw [hl]; omega), grd_p (by rw [hl]; omega), wn (by omega), Int.toNat_natCast, ← sw_fin]
  · have e1 : ([a, b] : List Int).getD 0 default = a := rfl
    have e2 : ([a, b] : List Int).getD 1 default = b := rfl
    simp only [scan, e1, e2, sw]
    by_cases h1 : a = 0
    · subst h1
      by_cases h2 : b = 0
      · subst h2; rfl
      · have hb : (b != 0) = true := by simpa using h2
        rw [hb]; rfl
    · have ha : (a != 0) = true := by simpa using h1
      rw [ha, if_pos h1]; rfl
def cmpI' (a b : Int) : Int := if a < b then -1 else if a > b then 1 else 0
theorem wpred {n : Nat} (h1 : 1 ≤ n) (h : n < 4294967296) : IntKind.i64.wrap ((n : Int) - 1) = ((n - 1 : Nat) : Int) := by rw [w64 (by omega) (by omega)]; omega
open Go.Proofs
open Go.Proofs
def RoB (r : S_Robot) : Prop := 1 ≤ r.Joints.length ∧ r.Joints.length ≤ 3 ∧ ∀ j ∈ r.Joints, JB j
theorem make_Robot_x (l : List Int) (hl : l.length < 4294967296) : ∃ r, (make_Robot_C l).o = some r ∧ RoB r := by
  have ef : (make_From_C l).o = some (l, 0) := rfl
  obtain ⟨r, n', e, h, -⟩ := make_robot_x hl (n := 0) (by omega) (by omega)
  refine ⟨r, ?_, h⟩
  show (make_Robot_T l).run NN = _
  simp only [make_Robot_T, T.run, ef, Option.bind_some, e]
theorem make_Config_x (r : S_Robot) (m : List Int) (hm : m.length < 4294967296) (hr : RoB r) : ∃ p, (make_Config_C r m).o = some p ∧ p.length = r.Joints.length := by
  have ef : (make_From_C m).o = some (m, 0) := rfl
  obtain ⟨r1, r2, r3⟩ := hr
  show ∃ p, (make_Config_T r m).run NN = some p ∧ _
  simp only [make_Config_T, T.run, ef, Option.bind_some]
  refine loop_mf (P := fun p : List Int => p.length = r.Joints.length) (fun k (y : List Int × Int × List Int × Int) => ∃ j : Nat, y.1 = m ∧ (0 ≤ y.2.1 ∧ y.2.1 ≤ (m.length : Int)) ∧ y.2.2.2 = (j : Int) ∧ j + k = r.Joints.length ∧ y.2.2.1.length = j)
    (fun z : List Int => z.length = r.Joints.length) r.Joints.length ⟨0, rfl, ⟨by simp, by simp⟩, rfl, by omega, by simp [nl]⟩ (by omega) ?_ (fun z hz => ⟨_, rfl, hz⟩)
  rintro k ⟨l1, ix, p, y⟩ ⟨j, h1, ⟨h2, h3⟩, h4, h5, h6⟩
  simp only at h1 h2 h3 h4 h6 ⊢
  subst h1; subst h4
  cases k with
  | zero => exact .inr (.inl ⟨_, by rw [bif_dneg (by omega)], by omega⟩)
  | succ k =>
    have hj := r3 _ (getD_mem (show j < r.Joints.length by omega))
    unfold JB at hj
    rw [bif_dpos (by omega), grd_p (by omega), grd_p (by omega), Int.toNat_natCast, wn (by omega)]
    generalize r.Joints.getD j default = jt at hj ⊢
    obtain ⟨s1, x1, e1, a1, b1, c1, d1⟩ := Source_Next_x hm h2 h3 (k := 6) (by decide) (by decide)
    rw [e1]
    simp only [Option.bind_some]
    by_cases q1 : s1 = 0
    · rw [bif_eq q1, grd_p (by simp only [List.length_cons, List.length_nil, maxLen_eq]; omega), andC_out]
      exact .inl ⟨_, k, rfl, Nat.lt_succ_self k, j + 1, rfl, ⟨c1, d1⟩, rfl, by omega, by simp only [List.length_append, List.length_cons, List.length_nil]; omega⟩
    · rw [bif_ne q1]
      by_cases q2 : s1 = 1
      · rw [bif_eq q2, grd_p (by simp only [List.length_cons, List.length_nil, maxLen_eq]; omega), andC_out]
        exact .inl ⟨_, k, rfl, Nat.lt_succ_self k, j + 1, rfl, ⟨c1, d1⟩, rfl, by omega, by simp only [List.length_append, List.length_cons, List.length_nil]; omega⟩
      · rw [bif_ne q2]
        have hw : IntKind.i64.wrap (jt.Hi - jt.Lo) = jt.Hi - jt.Lo := w64 (by omega) (by omega)
        simp only [hw]
        have hw2 : IntKind.i64.wrap (jt.Hi - jt.Lo + 1) = jt.Hi - jt.Lo + 1 := w64 (by omega) (by omega)
        simp only [hw2]
        obtain ⟨s2, x2, e2, a2, b2, c2, d2⟩ := Source_Next_x hm c1 d1 (k := jt.Hi - jt.Lo + 1) (by omega) (by omega)
        rw [e2]
        simp only [Option.bind_some]
        rw [grd_p (by simp only [List.length_cons, List.length_nil, maxLen_eq]; omega), andC_out]
        exact .inl ⟨_, k, rfl, Nat.lt_succ_self k, j + 1, rfl, ⟨c2, d2⟩, rfl, by omega, by simp only [List.length_append, List.length_cons, List.length_nil]; omega⟩
theorem make_Configs_x (r : S_Robot) (n : Nat) (hn : n ≤ 1000) (m : List Int) (hm : m.length < 4294967296) (hr : RoB r) : ∃ p, (make_Configs_C r (n : Int) m).o = some p ∧ p.length = n ∧ ∀ c ∈ p, c.length = r.Joints.length := by
  have ef : (make_From_C m).o = some (m, 0) := rfl
  obtain ⟨r1, r2, r3⟩ := hr
  show ∃ p, (make_Configs_T r (n : Int) m).run NN = some p ∧ _
  simp only [make_Configs_T, T.run, ef, Option.bind_some]
  have hw : IntKind.i64.wrap (2 * (r.Joints.length : Int)) = ((2 * r.Joints.length : Nat) : Int) := by rw [w64 (by omega) (by omega)]; omega
  rw [hw]
  refine loop_mf (P := fun p : List (List Int) => p.length = n ∧ ∀ c ∈ p, c.length = r.Joints.length) (fun k (y : List Int × Int × List (List Int) × Int) => ∃ j : Nat, y.1 = m ∧ (0 ≤ y.2.1 ∧ y.2.1 ≤ (m.length : Int)) ∧ y.2.2.2 = (j : Int) ∧ j + k = n ∧ y.2.2.1.length = j ∧ ∀ c ∈ y.2.2.1, c.length = r.Joints.length)
    (fun z : List (List Int) => z.length = n ∧ ∀ c ∈ z, c.length = r.Joints.length) n ⟨0, rfl, ⟨by simp, by simp⟩, rfl, by omega, by simp [nl], fun c hc => by cases hc⟩ (by omega) ?_ (fun z hz => ⟨_, rfl, hz⟩)
  rintro k ⟨l1, ix, p, y⟩ ⟨j, h1, ⟨h2, h3⟩, h4, h5, h6, h7⟩
  simp only at h1 h2 h3 h4 h6 h7 ⊢
  subst h1; subst h4
  cases k with
  | zero => exact .inr (.inl ⟨_, by rw [bif_dneg (by omega)], by omega, h7⟩)
  | succ k =>
    rw [bif_dpos (by omega), wn (by omega)]
    suffices hi : ∃ s, _ = some s ∧ (∃ (ix' : Int) (c : List Int), s = Step3.next (l1, ix', p ++ [c], ((j + 1 : Nat) : Int)) ∧ (0 ≤ ix' ∧ ix' ≤ (l1.length : Int)) ∧ c.length = r.Joints.length) by
      obtain ⟨s, e, ix', c, rfl, k1, k2⟩ := hi
      refine .inl ⟨_, k, e, Nat.lt_succ_self k, j + 1, rfl, k1, rfl, by omega, by simp only [List.length_append, List.length_cons, List.length_nil]; omega, fun c' hc' => ?_⟩
      rcases List.mem_append.1 hc' with hc' | hc'
      · exact h7 c' hc'
      · simp at hc'; subst hc'; exact k2
    refine loop_mf (fun k (y : List Int × Int × List Int × Int) => ∃ i : Nat, y.1 = l1 ∧ (0 ≤ y.2.1 ∧ y.2.1 ≤ (l1.length : Int)) ∧ y.2.2.2 = (i : Int) ∧ i + k = 2 * r.Joints.length ∧ y.2.2.1.length = i)
      (fun z : List Int × Int × List Int => z.1 = l1 ∧ (0 ≤ z.2.1 ∧ z.2.1 ≤ (l1.length : Int)) ∧ z.2.2.length = 2 * r.Joints.length) (2 * r.Joints.length) ⟨0, rfl, ⟨h2, h3⟩, rfl, by omega, by simp [nl]⟩ (by omega) ?_ ?_
    · rintro k' ⟨l2, ix2, q, y2⟩ ⟨i, g1, ⟨g2, g3⟩, g4, g5, g6⟩
      simp only at g1 g2 g3 g4 g6 ⊢
      subst g1; subst g4
      cases k' with
      | zero => exact .inr (.inl ⟨_, by rw [bif_dneg (by omega)], rfl, ⟨g2, g3⟩, by simp only; omega⟩)
      | succ k' =>
        obtain ⟨s1, x1, e1, a1, b1, c1, d1⟩ := Source_Next_x hm g2 g3 (k := 1048576) (by decide) (by decide)
        rw [bif_dpos (by omega), e1]
        simp only [Option.bind_some]
        rw [grd_p (by simp only [List.length_cons, List.length_nil, maxLen_eq]; omega), wn (by omega)]
        exact .inl ⟨_, k', rfl, Nat.lt_succ_self k', i + 1, rfl, ⟨c1, d1⟩, rfl, by omega, by simp only [List.length_append, List.length_cons, List.length_nil]; omega⟩
    · rintro ⟨l2, ix2, q⟩ ⟨g1, g2, g3⟩
      simp only at g1 g2 g3 ⊢
      subst g1
      obtain ⟨c, ec, lc⟩ := make_Config_x r q (by omega) ⟨r1, r2, r3⟩
      rw [ec]
      simp only [Option.bind_some]
      rw [grd_p (by simp only [List.length_cons, List.length_nil, maxLen_eq]; omega)]
      exact ⟨_, rfl, ix2, c, rfl, g2, lc⟩
open Go.Proofs
def LtD (d : Nat → Int) (i j : Nat) : Prop := d i < d j ∨ (d i = d j ∧ i < j)
abbrev casts (l : List Nat) : List Int := l.map fun (i : Nat) => (i : Int)
theorem casts_get {l : List Nat} {i : Nat} (h : i < l.length) : (casts l).getD i default = ((l.getD i default : Nat) : Int) := by
  simp [List.getD_eq_getElem?_getD, List.getElem?_eq_getElem h]
def ixs (no : Int) (n : Nat) : List Nat := (List.range n).filter fun (i : Nat) => !((i : Int) == no)
theorem ixs_succ (no : Int) (n : Nat) : ixs no (n + 1) = if ((n : Int) == no) = true then ixs no n else ixs no n ++ [n] := by
  unfold ixs
  rw [List.range_succ, List.filter_append]
  cases h : ((n : Int) == no) <;> simp [h]
theorem ixs_lt {no : Int} {n i : Nat} (h : i ∈ ixs no n) : i < n := by
  unfold ixs at h
  exact List.mem_range.1 (List.mem_filter.1 h).1
def dQ (r : S_Robot) (pts : List (List Int)) (q : List Int) (i : Nat) : Int := dstV r (pts.getD i default) q
def OrdQ (d : Nat → Int) (no : Int) (n : Nat) (ns : List Nat) : Prop := ns.Perm (ixs no n) ∧ ns.Pairwise (LtD d)
theorem byDist_e (r : S_Robot) (pts : List (List Int)) (q : List Int) (no : Int) (hp : pts.length ≤ 1000) (hn : ∀ c ∈ pts, c.length < 4294967296) (hq : q.length < 4294967296) :
    ∃ l, (ref23_byDistance_C r pts q no).o = some l ∧ ∃ ns, l = casts ns ∧ OrdQ (dQ r pts q) no pts.length ns := by
  show ∃ l, (ref23_byDistance_T r pts q no).run NN = some l ∧ _
  simp only [ref23_byDistance_T, T.run]
  have hlen : ∀ {j : Nat} {ns : List Nat}, OrdQ (dQ r pts q) no j ns → ns.length ≤ j ∧ ∀ i ∈ ns, i < j := fun h => by
    have h1 := h.1.length_eq
    refine ⟨?_, fun i hi => ixs_lt (h.1.mem_iff.1 hi)⟩
    rw [h1]; unfold ixs; exact Nat.le_trans (List.length_filter_le _ _) (by simp)
  refine loop_mf (P := fun l : List Int => ∃ ns, l = casts ns ∧ OrdQ (dQ r pts q) no pts.length ns)
    (fun k (y : List Int × Int) => ∃ j : Nat, y.2 = (j : Int) ∧ j + k = pts.length ∧ ∃ ns, y.1 = casts ns ∧ OrdQ (dQ r pts q) no j ns)
    (fun l : List Int => ∃ ns, l = casts ns ∧ OrdQ (dQ r pts q) no pts.length ns) pts.length ⟨0, rfl, by omega, [], rfl, List.Perm.nil, List.Pairwise.nil⟩ (by omega) ?_ (fun z hz => ⟨_, rfl, hz⟩)
  rintro k ⟨l, y⟩ ⟨j, hj, hjk, ns, hns, ho⟩
  simp only at hj hns ⊢
  subst hj; subst hns
  cases k with
  | zero =>
    obtain rfl : j = pts.length := by omega
    exact .inr (.inl ⟨_, by rw [bif_dneg (by omega)], ns, rfl, ho⟩)
  | succ k =>
    obtain ⟨hl1, hl2⟩ := hlen ho
    rw [bif_dpos (by omega), wn (by omega)]
    by_cases c : (j : Int) = no
    · rw [bif_eq c, andC_out]
      refine .inl ⟨_, k, rfl, Nat.lt_succ_self k, j + 1, rfl, by omega, ns, rfl, ?_, ho.2⟩
      rw [ixs_succ, if_pos (by simpa using c)]; exact ho.1
    · have l1 := hn _ (getD_mem (show j < pts.length by omega))
      have hcl : (casts ns).length = ns.length := by simp
      rw [bif_ne c, grd_p (by simp only [List.length_cons, List.length_nil, maxLen_eq, hcl]; omega), grd_p (by omega), grd_p (by omega), Int.toNat_natCast, ref_dist r _ _ l1 hq]
      simp only [Option.bind_some]
      generalize hA : andK _ _ = A
      obtain ⟨s, e, l', rfl, h1⟩ : ∃ s, A = some s ∧ (∃ l' : List Int, s = Step3.out l' ∧ ∃ ns, l' = casts ns ∧ OrdQ (dQ r pts q) no (j + 1) ns) := by
        rw [← hA]
        refine loop_mf (fun k' (y : List Int × Int) => ∃ a b, y.2 = ((a.length : Nat) : Int) ∧ a.length ≤ k' ∧ ns = a ++ b ∧ y.1 = casts a ++ (j : Int) :: casts b ∧ ∀ x ∈ b, dQ r pts q j < dQ r pts q x)
          (fun l' : List Int => ∃ ns, l' = casts ns ∧ OrdQ (dQ r pts q) no (j + 1) ns) ns.length ⟨ns, [], by simp only [hcl], Nat.le_refl _, by simp, rfl, fun x hx => by cases hx⟩ (by omega) ?_ (fun z hz => ⟨_, rfl, z, rfl, hz⟩)
        rintro k' ⟨l2, y2⟩ ⟨a, b, hi, hik, hab, hl2', hb⟩
        simp only at hi hl2' ⊢
        subst hi; subst hl2'
        have hab' : ns.length = a.length + b.length := by rw [hab, List.length_append]
        have hll : (casts a ++ (j : Int) :: casts b).length = a.length + 1 + b.length := by simp; omega
        have fin1 : (∀ x ∈ a, dQ r pts q x ≤ dQ r pts q j) → ∃ ns', casts a ++ (j : Int) :: casts b = casts ns' ∧ OrdQ (dQ r pts q) no (j + 1) ns' := fun ha => by
          refine ⟨a ++ j :: b, by simp, ?_, ?_⟩
          · rw [ixs_succ, if_neg (by simpa using c)]
            have h1 := ho.1
            rw [hab] at h1
            exact List.perm_middle.trans ((List.Perm.cons j h1).trans (List.perm_append_singleton j _).symm)
          · have h2 := ho.2
            rw [hab] at h2
            obtain ⟨p1, p2, p3⟩ := List.pairwise_append.1 h2
            refine List.pairwise_append.2 ⟨p1, List.pairwise_cons.2 ⟨fun x hx => .inl (hb x hx), p2⟩, fun x hx y hy => ?_⟩
            rcases List.mem_cons.1 hy with rfl | hy
            · have := ha x hx
              have := hl2 x (by rw [hab]; exact List.mem_append_left _ hx)
              unfold LtD; omega
            · exact p3 x hx y hy
        by_cases h0 : a = []
        · subst h0
          rw [bif_dneg (by simp), andC_out]
          exact .inr (.inl ⟨_, rfl, fin1 fun x hx => by cases hx⟩)
        · obtain ⟨a', x, rfl⟩ : ∃ a' x, a = a' ++ [x] := ⟨a.dropLast, a.getLast h0, (List.dropLast_concat_getLast h0).symm⟩
          have hal : (a' ++ [x]).length = a'.length + 1 := by simp
          have hx := hl2 x (by rw [hab]; simp)
          have l2' := hn _ (getD_mem (show x < pts.length by omega))
          have hg : (casts (a' ++ [x]) ++ (j : Int) :: casts b).getD a'.length default = (x : Int) := by
            simp [List.getD_eq_getElem?_getD, List.getElem?_append]
          have hg2 : (casts (a' ++ [x]) ++ (j : Int) :: casts b).getD (a'.length + 1) default = (j : Int) := by
            simp [List.getD_eq_getElem?_getD, List.getElem?_append]
          rw [hal] at hll ⊢
          rw [bif_dpos (by omega), wpred (by omega) (by omega), Nat.add_sub_cancel, grd_p (by omega), Int.toNat_natCast, grd_p (by omega), hg, grd_p (by omega), Int.toNat_natCast, grd_p (by omega), ref_dist r _ _ l2' hq]
          simp only [Option.bind_some, andC_out]
          by_cases hd : dstV r (pts.getD j default) q < dstV r (pts.getD x default) q
          · rw [bif_dpos hd, grd_p (by omega), grd_p (by omega), grd_p (by omega), Int.toNat_natCast, grd_p (by omega), grd_p (by omega), grd_p (by omega), grd_p (by rw [List.length_set]; omega), grd_p (by rw [List.length_set]; omega), hg2]
            refine .inl ⟨_, a'.length, rfl, by omega, a', x :: b, rfl, Nat.le_refl _, by rw [hab]; simp, ?_, fun z hz => ?_⟩
            · simp
            · rcases List.mem_cons.1 hz with rfl | hz
              · exact hd
              · exact hb z hz
          · rw [bif_dneg hd]
            refine .inr (.inl ⟨_, rfl, fin1 fun z hz => ?_⟩)
            rcases List.mem_append.1 hz with hz | hz
            · have h2 := ho.2
              rw [hab, List.append_assoc] at h2
              have := (List.pairwise_append.1 h2).2.2 z hz x (by simp)
              unfold LtD at this
              unfold dQ at *
              omega
            · simp at hz; subst hz; unfold dQ; omega
      rw [e, andC_out]
      exact .inl ⟨_, k, rfl, Nat.lt_succ_self k, j + 1, rfl, by omega, h1⟩
def newE (r : S_Robot) (pts : List (List Int)) (u v : Int) : S_RoadmapEdge := ⟨u, v, dstV r (pts.getD u.toNat default) (pts.getD v.toNat default), 0, ⟨0, nl, ⟨0, 0, nl⟩, ⟨0, nl, nl⟩⟩⟩
def hitE (u v : Int) (e : S_RoadmapEdge) : Bool := bif decide (e.U > u) then true else bif e.U == u then decide (e.V ≥ v) else false
def othE (u v : Int) (e : S_RoadmapEdge) : Bool := bif e.U != u then true else e.V != v
def insF (n : S_RoadmapEdge) : List S_RoadmapEdge → List S_RoadmapEdge
  | [] => [n]
  | e :: t => bif hitE n.U n.V e then (bif othE n.U n.V e then n :: e :: t else e :: t) else e :: insF n t
theorem insF_len (n : S_RoadmapEdge) : ∀ l, (insF n l).length ≤ l.length + 1
  | [] => Nat.le_refl _
  | e :: t => by
    have := insF_len n t
    unfold insF
    cases hitE n.U n.V e <;> cases othE n.U n.V e <;> simp <;> omega
theorem insert_e (r : S_Robot) (pts : List (List Int)) (es : List S_RoadmapEdge) (u v : Int) (hn : ∀ c ∈ pts, c.length < 4294967296) (he : es.length ≤ 1000000) (hu : 0 ≤ u ∧ u < (pts.length : Int)) (hv : 0 ≤ v ∧ v < (pts.length : Int)) :
    (ref23_insert_C r pts es u v).o = some (insF (newE r pts (min u v) (max u v)) es) := by
  have la := hn _ (getD_mem (show (min u v).toNat < pts.length by omega))
  have lb := hn _ (getD_mem (show (max u v).toNat < pts.length by omega))
  obtain ⟨N, hN⟩ : ∃ N, N = newE r pts (min u v) (max u v) := ⟨_, rfl⟩
  have hN1 : (⟨min u v, max u v, dstV r (pts.getD (min u v).toNat default) (pts.getD (max u v).toNat default), 0, ⟨0, nl, ⟨0, 0, nl⟩, ⟨0, nl, nl⟩⟩⟩ : S_RoadmapEdge) = N := hN.symm
  have hU : N.U = min u v := by rw [hN]; rfl
  have hV : N.V = max u v := by rw [hN]; rfl
  have hil := insF_len N es
  have goal : ∃ x, (ref23_insert_T r pts es u v).run NN = some x ∧ x = insF N es := by
    simp only [ref23_insert_T, T.run, ref_dist r _ _ la lb, Option.bind_some, bif_out, andC_out, hN1]
    refine loop_mf (fun k (y : List S_RoadmapEdge × Bool × Int) => ∃ j : Nat, y.2.2 = (j : Int) ∧ j + k = es.length ∧ y.1 ++ (if y.2.1 = true then es.drop j else insF N (es.drop j)) = insF N es)
      (fun y : List S_RoadmapEdge × Bool => y.1 ++ (if y.2 = true then [] else [N]) = insF N es) es.length ⟨0, rfl, by omega, by simp [nl]⟩ (by omega) ?_ ?_
    · rintro k ⟨l, dn, y⟩ ⟨j, hj, hjk, hl⟩
      simp only at hj hl ⊢
      subst hj
      have hll : l.length ≤ 1000001 := by
        have := congrArg List.length hl
        rw [List.length_append] at this; omega
      cases k with
      | zero =>
        obtain rfl : j = es.length := by omega
        refine .inr (.inl ⟨_, by rw [bif_dneg (by omega)], ?_⟩)
        simp only
        rw [List.drop_length] at hl
        exact hl
      | succ k =>
        have hd : es.drop j = es.getD j default :: es.drop (j + 1) := by
          rw [List.drop_eq_getElem_cons (by omega), List.getD_eq_getElem?_getD, List.getElem?_eq_getElem (by omega), Option.getD_some]
        rw [hd] at hl
        rw [bif_dpos (by omega), grd_p (by omega), grd_p (by omega), Int.toNat_natCast, wn (by omega)]
        generalize es.getD j default = e at hl ⊢
        have hh : (bif decide (e.U > min u v) then true else bif e.U == min u v then decide (e.V ≥ max u v) else false) = hitE N.U N.V e := by rw [hU, hV]; rfl
        have ho : (bif e.U != min u v then true else e.V != max u v) = othE N.U N.V e := by rw [hU, hV]; rfl
        simp only [hh, ho]
        cases dn with
        | true =>
          simp only [Bool.not_true, cond_false, andC_out]
          rw [grd_p (by simp only [List.length_cons, List.length_nil, maxLen_eq]; omega)]
          refine .inl ⟨_, k, rfl, Nat.lt_succ_self k, j + 1, rfl, by omega, ?_⟩
          simp only [if_true, List.append_assoc] at hl ⊢
          exact hl
        | false =>
          simp only [Bool.not_false, cond_true]
          simp only [insF] at hl
          cases h1 : hitE N.U N.V e with
          | false =>
            rw [h1] at hl
            simp only [cond_false, andC_out]
            rw [grd_p (by simp only [List.length_cons, List.length_nil, maxLen_eq]; omega)]
            refine .inl ⟨_, k, rfl, Nat.lt_succ_self k, j + 1, rfl, by omega, ?_⟩
            simpa using hl
          | true =>
            rw [h1] at hl
            simp only [cond_true]
            cases h2 : othE N.U N.V e with
            | false =>
              rw [h2] at hl
              simp only [cond_false, andC_out]
              rw [grd_p (by simp only [List.length_cons, List.length_nil, maxLen_eq]; omega)]
              refine .inl ⟨_, k, rfl, Nat.lt_succ_self k, j + 1, rfl, by omega, ?_⟩
              simpa using hl
            | true =>
              rw [h2] at hl
              simp only [cond_true]
              rw [grd_p (by omega), grd_p (by omega), grd_p (by omega), grd_p (by omega), grd_p (by simp only [List.length_cons, List.length_nil, maxLen_eq]; omega), andC_out,
                grd_p (by simp only [List.length_append, List.length_cons, List.length_nil, maxLen_eq]; omega)]
              refine .inl ⟨_, k, rfl, Nat.lt_succ_self k, j + 1, rfl, by omega, ?_⟩
              simpa using hl
    · rintro ⟨l, dn⟩ hl
      simp only at hl ⊢
      have hll : l.length ≤ 1000001 := by
        have := congrArg List.length hl
        rw [List.length_append] at this; omega
      cases dn with
      | true =>
        simp only [Bool.not_true, cond_false, andC_out]
        exact ⟨_, rfl, by simpa using hl⟩
      | false =>
        simp only [Bool.not_false, cond_true]
        rw [grd_p (by omega), grd_p (by omega), grd_p (by omega), grd_p (by omega), grd_p (by simp only [List.length_cons, List.length_nil, maxLen_eq]; omega), andC_out]
        exact ⟨_, rfl, by simpa using hl⟩
  obtain ⟨x, h1, h2⟩ := goal
  rw [← hN, ← h2]; exact h1
open Go.Proofs
theorem ltE_iff {a b : S_RoadmapEdge} : ltE a b = true ↔ a.U < b.U ∨ (a.U = b.U ∧ a.V < b.V) := by unfold ltE; rw [decide_eq_true_eq]
theorem hitE_iff {n e : S_RoadmapEdge} : hitE n.U n.V e = true ↔ ¬ ltE e n = true := by
  rw [ltE_iff]; unfold hitE
  by_cases h1 : e.U > n.U
  · rw [bif_dpos h1]; simp; omega
  · rw [bif_dneg h1]
    by_cases h2 : e.U = n.U
    · rw [bif_eq h2, decide_eq_true_eq]; omega
    · rw [bif_ne h2]; simp; omega
theorem othE_iff {n e : S_RoadmapEdge} : othE n.U n.V e = true ↔ ¬ (e.U = n.U ∧ e.V = n.V) := by
  unfold othE
  by_cases h2 : e.U = n.U
  · rw [bif_nne h2]; simp [h2]
  · rw [bif_neq h2]; simp [h2]
abbrev SoE (l : List S_RoadmapEdge) : Prop := l.Pairwise fun a b => ltE a b = true
theorem insF_mem (n : S_RoadmapEdge) : ∀ l, SoE l → ∀ e, e ∈ insF n l ↔ e ∈ l ∨ (e = n ∧ ∀ x ∈ l, ¬ (x.U = n.U ∧ x.V = n.V))
  | [], _, e => by simp [insF]
  | x :: t, hs, e => by
    obtain ⟨h1, h2⟩ := List.pairwise_cons.1 hs
    have ih := insF_mem n t h2 e
    unfold insF
    cases hh : hitE n.U n.V x with
    | false =>
      have hx : ltE x n = true := by
        refine Classical.byContradiction fun h => ?_
        rw [hitE_iff.2 h] at hh; cases hh
      simp only [cond_false, List.mem_cons, ih]
      rw [ltE_iff] at hx
      constructor
      · rintro (h | h | ⟨h, h'⟩)
        · exact .inl (.inl h)
        · exact .inl (.inr h)
        · refine .inr ⟨h, fun y hy => ?_⟩
          rcases hy with rfl | hy
          · omega
          · exact h' y hy
      · rintro ((h | h) | ⟨h, h'⟩)
        · exact .inl h
        · exact .inr (.inl h)
        · exact .inr (.inr ⟨h, fun y hy => h' y (.inr hy)⟩)
    | true =>
      have hx := hitE_iff.1 hh
      cases ho : othE n.U n.V x with
      | false =>
        have ho' : x.U = n.U ∧ x.V = n.V := by
          refine Classical.byContradiction fun h => ?_
          rw [othE_iff.2 h] at ho; cases ho
        simp only [cond_true, cond_false]
        refine ⟨fun h => .inl h, fun h => ?_⟩
        rcases h with h | ⟨h, h'⟩
        · exact h
        · exact absurd ho' (h' x (List.mem_cons_self ..))
      | true =>
        have ho' := othE_iff.1 ho
        simp only [cond_true, List.mem_cons]
        constructor
        · rintro (h | h | h)
          · refine .inr ⟨h, fun y hy => ?_⟩
            rcases hy with rfl | hy
            · exact ho'
            · have := h1 y hy
              rw [ltE_iff] at this hx
              omega
          · exact .inl (.inl h)
          · exact .inl (.inr h)
        · rintro ((h | h) | ⟨h, -⟩)
          · exact .inr (.inl h)
          · exact .inr (.inr h)
          · exact .inl h
theorem insF_so (n : S_RoadmapEdge) : ∀ l, SoE l → SoE (insF n l)
  | [], _ => List.pairwise_singleton ..
  | x :: t, hs => by
    obtain ⟨h1, h2⟩ := List.pairwise_cons.1 hs
    have ih := insF_so n t h2
    have im := insF_mem n t h2
    unfold insF
    cases hh : hitE n.U n.V x with
    | false =>
      have hx : ltE x n = true := by
        refine Classical.byContradiction fun h => ?_
        rw [hitE_iff.2 h] at hh; cases hh
      simp only [cond_false]
      refine List.pairwise_cons.2 ⟨fun y hy => ?_, ih⟩
      rcases (im y).1 hy with hy | ⟨rfl, -⟩
      · exact h1 y hy
      · exact hx
    | true =>
      have hx := hitE_iff.1 hh
      cases ho : othE n.U n.V x with
      | false => exact hs
      | true =>
        have ho' := othE_iff.1 ho
        simp only [cond_true]
        have hnx : ltE n x = true := by rw [ltE_iff] at hx ⊢; omega
        refine List.pairwise_cons.2 ⟨fun y hy => ?_, hs⟩
        rcases List.mem_cons.1 hy with rfl | hy
        · exact hnx
        · have := h1 y hy
          rw [ltE_iff] at this hnx ⊢
          omega
def MapE (r : S_Robot) (P : List (List Int)) (S : Nat → Nat → Prop) (es : List S_RoadmapEdge) : Prop := SoE es ∧ ∀ e, e ∈ es ↔ ∃ a b : Nat, a < b ∧ b < P.length ∧ S a b ∧ e = newE r P a b
theorem MapE.congr {r : S_Robot} {P : List (List Int)} {S S' : Nat → Nat → Prop} {es : List S_RoadmapEdge} (h : MapE r P S es) (hs : ∀ a b, a < b → b < P.length → (S a b ↔ S' a b)) : MapE r P S' es :=
  ⟨h.1, fun e => (h.2 e).trans ⟨fun ⟨a, b, h1, h2, h3, h4⟩ => ⟨a, b, h1, h2, (hs a b h1 h2).1 h3, h4⟩, fun ⟨a, b, h1, h2, h3, h4⟩ => ⟨a, b, h1, h2, (hs a b h1 h2).2 h3, h4⟩⟩⟩
theorem MapE.nil (r : S_Robot) (P : List (List Int)) : MapE r P (fun _ _ => False) [] := ⟨List.Pairwise.nil, fun e => ⟨fun h => (by cases h), fun ⟨_, _, _, _, h, _⟩ => h.elim⟩⟩
theorem MapE.ins {r : S_Robot} {P : List (List Int)} {S : Nat → Nat → Prop} {es : List S_RoadmapEdge} (h : MapE r P S es) {x y : Nat} (hx : x < y) (hy : y < P.length) : MapE r P (fun a b => S a b ∨ (a = x ∧ b = y)) (insF (newE r P x y) es) := by
  refine ⟨insF_so _ _ h.1, fun e => (insF_mem _ _ h.1 e).trans ⟨?_, ?_⟩⟩
  · rintro (h1 | ⟨rfl, -⟩)
    · obtain ⟨a, b, h2, h3, h4, h5⟩ := (h.2 e).1 h1
      exact ⟨a, b, h2, h3, .inl h4, h5⟩
    · exact ⟨x, y, hx, hy, .inr ⟨rfl, rfl⟩, rfl⟩
  · rintro ⟨a, b, h2, h3, h4 | ⟨rfl, rfl⟩, h5⟩
    · exact .inl ((h.2 e).2 ⟨a, b, h2, h3, h4, h5⟩)
    · by_cases hs : S a b
      · exact .inl ((h.2 e).2 ⟨a, b, h2, h3, hs, h5⟩)
      · refine .inr ⟨h5, fun z hz hc => ?_⟩
        obtain ⟨a', b', k2, k3, k4, rfl⟩ := (h.2 z).1 hz
        simp only [newE] at hc
        have : a' = a ∧ b' = b := by omega
        rw [this.1, this.2] at k4
        exact hs k4
def cntD (d : Nat → Int) (no : Int) (n v : Nat) : Nat := ((ixs no n).filter fun w => decide (d w < d v ∨ (d w = d v ∧ w < v))).length
theorem mem_ixs {no : Int} {n v : Nat} : v ∈ ixs no n ↔ v < n ∧ (v : Int) ≠ no := by unfold ixs; simp
theorem ord_split {d : Nat → Int} {no : Int} {n : Nat} {ns : List Nat} (h : OrdQ d no n ns) {v : Nat} (hv : v ∈ ns) : ∃ a b, ns = a ++ v :: b ∧ a.length = cntD d no n v ∧ ¬ v ∈ a := by
  obtain ⟨a, b, rfl⟩ := List.append_of_mem hv
  obtain ⟨h1, h2⟩ := h
  obtain ⟨p1, p2, p3⟩ := List.pairwise_append.1 h2
  have p4 := (List.pairwise_cons.1 p2).1
  refine ⟨a, b, rfl, ?_, fun ha => ?_⟩
  · unfold cntD
    rw [← (h1.filter _).length_eq, List.filter_append, List.filter_cons]
    have e1 : a.filter (fun w => decide (d w < d v ∨ (d w = d v ∧ w < v))) = a := List.filter_eq_self.2 fun w hw => by
      have := p3 w hw v (List.mem_cons_self ..)
      exact decide_eq_true this
    have e2 : b.filter (fun w => decide (d w < d v ∨ (d w = d v ∧ w < v))) = [] := List.filter_eq_nil_iff.2 fun w hw => by
      have := p4 w hw
      unfold LtD at this
      rw [decide_eq_true_eq]; omega
    rw [e1, e2, if_neg (by simp)]; simp
  · have := p3 v ha v (List.mem_cons_self ..)
    unfold LtD at this; omega
theorem mem_take_ord {d : Nat → Int} {no : Int} {n : Nat} {ns : List Nat} (h : OrdQ d no n ns) {v i : Nat} : v ∈ ns.take i ↔ v ∈ ixs no n ∧ cntD d no n v < i := by
  constructor
  · intro hv
    have hv' := List.mem_of_mem_take hv
    refine ⟨h.1.mem_iff.1 hv', ?_⟩
    obtain ⟨a, b, rfl, h2, h3⟩ := ord_split h hv'
    rw [← h2]
    refine Classical.byContradiction fun hc => h3 ?_
    rw [List.take_append_of_le_length (by omega)] at hv
    exact List.mem_of_mem_take hv
  · rintro ⟨h1, h2⟩
    obtain ⟨a, b, rfl, h4, h5⟩ := ord_split h (h.1.mem_iff.2 h1)
    rw [List.take_append]
    obtain ⟨m, hm⟩ : ∃ m, i - a.length = m + 1 := ⟨i - a.length - 1, by omega⟩
    rw [hm, List.take_succ_cons]
    exact List.mem_append_right _ (List.mem_cons_self ..)
theorem cnt_lt {d : Nat → Int} {no : Int} {n : Nat} {ns : List Nat} (h : OrdQ d no n ns) {v : Nat} (hv : v ∈ ixs no n) : cntD d no n v < ns.length := by
  obtain ⟨a, b, rfl, h4, h5⟩ := ord_split h (h.1.mem_iff.2 hv)
  rw [List.length_append, List.length_cons]; omega
def NearP (r : S_Robot) (P : List (List Int)) (k : Int) (u v : Nat) : Prop := v ∈ ixs (u : Int) P.length ∧ (cntD (dQ r P (P.getD u default)) (u : Int) P.length v : Int) < k
def JoinP (r : S_Robot) (P : List (List Int)) (k : Int) (a b : Nat) : Prop := NearP r P k a b ∨ NearP r P k b a
theorem pointOf_v (l : List (List Int)) (c : List Int) (hl : l.length < 4294967296) (hn : ∀ x ∈ l, x.length < 4294967296) : ∃ z, (ref23_PointOf_C l c).o = some z ∧ decide (z < 0) = !memB l c := by
  obtain ⟨z, h1, h2⟩ := pointOf_e l c hl hn
  refine ⟨z, ?_, by rw [← h2, Bool.eq_iff_iff]; simp⟩
  rw [← h1]
  show (ref23_PointOf_T l c).run NN = (ref23_PointOf_1_T l c).run NN
  simp only [ref23_PointOf_T, ref23_PointOf_1_T, T.run]
  have : ∀ x : Int, 0 ≤ x ∧ x < (l.length : Int) → x.toNat < l.length := fun x hx => by omega
  refine congrArg (fun f => andK (iter f NN 0) fun _ => some (-1)) (funext fun x => ?_)
  by_cases h : x < (l.length : Int)
  · rw [bif_dpos h, bif_dpos h]
    by_cases h0 : 0 ≤ x ∧ x < (l.length : Int)
    · rw [grd_p h0, grd_p h0, grd_p (this x h0)]
    · unfold grd; rw [if_neg h0, if_neg h0]
  · rw [bif_dneg h, bif_dneg h]
theorem newMap_e (r : S_Robot) (pts : List (List Int)) (k : Int) (hp : pts.length ≤ 1000) (hn : ∀ c ∈ pts, c.length < 4294967296) :
    ∃ m, (ref23_NewMap_C r pts k).o = some m ∧ (robotV r ≠ 0 → m = ([], [])) ∧ (robotV r = 0 → m.1 = disL r pts pts.length ∧ ∃ es, m.2 = es.take 8192 ∧ es.length ≤ m.1.length * m.1.length ∧ MapE r m.1 (JoinP r m.1 k) es) := by
  show ∃ m, (ref23_NewMap_T r pts k).run NN = some m ∧ _
  have er : (⟨r.Joints, r.Masses⟩ : S_Robot) = r := rfl
  simp only [ref23_NewMap_T, T.run, er, ref6_CheckRobot_e, ref10_Inside_e, Option.bind_some]
  by_cases hr : robotV r ≠ 0
  · rw [bif_neq hr]
    exact ⟨_, rfl, fun _ => rfl, fun h => absurd h hr⟩
  have hr : robotV r = 0 := Classical.not_not.1 hr
  rw [bif_nne hr]
  refine loop_mf (x := ((nl : List (List Int)), (0 : Int))) (P := fun m : List (List Int) × List S_RoadmapEdge => (robotV r ≠ 0 → m = ([], [])) ∧ (robotV r = 0 → m.1 = disL r pts pts.length ∧ ∃ es, m.2 = es.take 8192 ∧ es.length ≤ m.1.length * m.1.length ∧ MapE r m.1 (JoinP r m.1 k) es))
    (fun m (y : List (List Int) × Int) => ∃ j : Nat, y.2 = (j : Int) ∧ j + m = pts.length ∧ y.1 = disL r pts j) (fun z : List (List Int) => z = disL r pts pts.length) pts.length ⟨0, rfl, by omega, rfl⟩ (by omega) ?_ ?_
  · rintro m ⟨l, y⟩ ⟨j, hj, hjm, hl⟩
    simp only at hj hl ⊢
    subst hj; subst hl
    have hlen := disL_len r pts j
    cases m with
    | zero =>
      obtain rfl : j = pts.length := by omega
      rw [bif_dneg (by omega), andC_out]
      exact .inr (.inl ⟨_, rfl, rfl⟩)
    | succ m =>
      have hin := disL_in r pts j
      have hs : disL r pts (j + 1) = if insideV r (pts.getD j default) = true ∧ ¬ pts.getD j default ∈ disL r pts j then disL r pts j ++ [pts.getD j default] else disL r pts j := rfl
      have hc := hn _ (getD_mem (show j < pts.length by omega))
      rw [bif_dpos (by omega), decide_eq_true (p := ((disL r pts j).length : Int) < 1024) (by omega), andC_out]
      simp only [cond_true]
      rw [grd_p (by omega), wn (by omega), Int.toNat_natCast]
      generalize pts.getD j default = c at hs hc ⊢
      cases h1 : insideV r c with
      | false =>
        simp only [cond_false, andC_out]
        refine .inl ⟨_, m, rfl, Nat.lt_succ_self m, j + 1, rfl, by omega, ?_⟩
        rw [hs, if_neg (fun h => by rw [h1] at h; cases h.1)]
      | true =>
        obtain ⟨z, z1, z2⟩ := pointOf_v (disL r pts j) c (by omega) (fun x hx => by have := inside_len (hin x hx); omega)
        simp only [cond_true]
        rw [grd_p (by omega), z1]
        simp only [Option.bind_some, andC_out, z2]
        by_cases hm : c ∈ disL r pts j
        · have : memB (disL r pts j) c = true := decide_eq_true hm
          rw [this]
          simp only [Bool.not_true, cond_false, andC_out]
          refine .inl ⟨_, m, rfl, Nat.lt_succ_self m, j + 1, rfl, by omega, ?_⟩
          rw [hs, if_neg (fun h => h.2 hm)]
        · have : memB (disL r pts j) c = false := decide_eq_false hm
          rw [this]
          simp only [Bool.not_false, cond_true]
          rw [grd_p (by omega), grd_p (by rw [maxLen_eq]; omega), grd_p (by simp only [List.length_cons, List.length_nil, maxLen_eq]; omega), andC_out]
          refine .inl ⟨_, m, rfl, Nat.lt_succ_self m, j + 1, rfl, by omega, ?_⟩
          rw [hs, if_pos ⟨h1, hm⟩]
  · rintro P hP
    have hPl : P.length ≤ 1000 := by have := disL_len r pts pts.length; rw [hP]; omega
    have hPn : ∀ c ∈ P, c.length < 4294967296 := fun c hc => by rw [hP] at hc; have := inside_len (disL_in r pts _ c hc); omega
    refine loop_mf (x := ((nl : List S_RoadmapEdge), (0 : Int))) (P := fun m : List (List Int) × List S_RoadmapEdge => (robotV r ≠ 0 → m = ([], [])) ∧ (robotV r = 0 → m.1 = disL r pts pts.length ∧ ∃ es, m.2 = es.take 8192 ∧ es.length ≤ m.1.length * m.1.length ∧ MapE r m.1 (JoinP r m.1 k) es))
      (fun m (y : List S_RoadmapEdge × Int) => ∃ u : Nat, y.2 = (u : Int) ∧ u + m = P.length ∧ y.1.length ≤ P.length * u ∧ MapE r P (fun a b => (a < u ∧ NearP r P k a b) ∨ (b < u ∧ NearP r P k b a)) y.1)
      (fun es : List S_RoadmapEdge => es.length ≤ P.length * P.length ∧ MapE r P (JoinP r P k) es) P.length ⟨0, rfl, by omega, by simp [nl], (MapE.nil r P).congr fun a b _ _ => by simp⟩ (by omega) ?_ ?_
    · rintro m ⟨es, y⟩ ⟨u, hu, hum, hel, hes⟩
      simp only at hu hel hes ⊢
      subst hu
      cases m with
      | zero =>
        obtain rfl : u = P.length := by omega
        rw [bif_dneg (by omega)]
        exact .inr (.inl ⟨_, rfl, hel, hes.congr fun a b h1 h2 => by unfold JoinP; constructor <;> rintro (h | h) <;> first | exact .inl h.2 | exact .inr h.2 | exact .inl ⟨by omega, h⟩ | exact .inr ⟨by omega, h⟩⟩)
      | succ m =>
        rw [bif_dpos (by omega), grd_p (by omega), Int.toNat_natCast, grd_p (by omega), wn (by omega)]
        obtain ⟨l, e1, ns, rfl, ho⟩ := byDist_e r P (P.getD u default) (u : Int) hPl hPn (hPn _ (getD_mem (by omega)))
        rw [e1]
        simp only [Option.bind_some]
        have hnl : ns.length ≤ P.length := by
          rw [ho.1.length_eq]; unfold ixs; exact Nat.le_trans (List.length_filter_le _ _) (by simp)
        suffices hi : ∃ s, _ = some s ∧ (∃ es' : List S_RoadmapEdge, s = Step3.next (es', ((u + 1 : Nat) : Int)) ∧ es'.length ≤ P.length * (u + 1) ∧ MapE r P (fun a b => (a < u + 1 ∧ NearP r P k a b) ∨ (b < u + 1 ∧ NearP r P k b a)) es') by
          obtain ⟨s, e, es', rfl, k1, k2⟩ := hi
          exact .inl ⟨_, m, e, Nat.lt_succ_self m, u + 1, rfl, by omega, k1, k2⟩
        refine loop_mf (fun m' (y : List S_RoadmapEdge × Int) => ∃ i : Nat, y.2 = (i : Int) ∧ i + m' = ns.length ∧ ((i : Int) ≤ k ∨ i = 0) ∧ y.1.length ≤ P.length * u + i ∧ MapE r P (fun a b => ((a < u ∧ NearP r P k a b) ∨ (b < u ∧ NearP r P k b a)) ∨ (a = u ∧ b ∈ ns.take i) ∨ (b = u ∧ a ∈ ns.take i)) y.1)
          (fun es' : List S_RoadmapEdge => es'.length ≤ P.length * (u + 1) ∧ MapE r P (fun a b => (a < u + 1 ∧ NearP r P k a b) ∨ (b < u + 1 ∧ NearP r P k b a)) es') ns.length ⟨0, rfl, by omega, .inr rfl, by simp only; omega, hes.congr fun a b _ _ => by simp⟩ (by omega) ?_ (fun z hz => ⟨_, rfl, z, rfl, hz⟩)
        rintro m' ⟨es2, y2⟩ ⟨i, hi, him, hik, hel2, hes2⟩
        simp only at hi hel2 hes2 ⊢
        subst hi
        have hcl : (casts ns).length = ns.length := by simp
        have hsq : P.length * u ≤ 1000 * 990 + 10000 - 1000 := by
          have h1 : P.length * u ≤ P.length * (P.length - 1) := Nat.mul_le_mul_left _ (by omega)
          have h2 : P.length * (P.length - 1) ≤ 1000 * 999 := Nat.mul_le_mul hPl (by omega)
          omega
        have stop : (i = ns.length ∨ k ≤ (i : Int)) → es2.length ≤ P.length * (u + 1) ∧ MapE r P (fun a b => (a < u + 1 ∧ NearP r P k a b) ∨ (b < u + 1 ∧ NearP r P k b a)) es2 := fun hs => by
          have key : ∀ v, v ∈ ns.take i ↔ NearP r P k u v := fun v => by
            rw [mem_take_ord ho]
            unfold NearP
            constructor
            · rintro ⟨h1, h2⟩; exact ⟨h1, by omega⟩
            · rintro ⟨h1, h2⟩
              have := cnt_lt ho h1
              exact ⟨h1, by omega⟩
          refine ⟨by rw [Nat.mul_succ]; omega, hes2.congr fun a b h1 h2 => ?_⟩
          rw [key, key]
          constructor
          · rintro ((h | h) | ⟨rfl, h⟩ | ⟨rfl, h⟩)
            · exact .inl ⟨by omega, h.2⟩
            · exact .inr ⟨by omega, h.2⟩
            · exact .inl ⟨by omega, h⟩
            · exact .inr ⟨by omega, h⟩
          · rintro (⟨h, h'⟩ | ⟨h, h'⟩)
            · by_cases e : a = u
              · subst e; exact .inr (.inl ⟨rfl, h'⟩)
              · exact .inl (.inl ⟨by omega, h'⟩)
            · by_cases e : b = u
              · subst e; exact .inr (.inr ⟨rfl, h'⟩)
              · exact .inl (.inr ⟨by omega, h'⟩)
        by_cases c1 : i < ns.length
        · by_cases c2 : (i : Int) < k
          · have hv := getD_mem c1
            have hvx := mem_ixs.1 (ho.1.mem_iff.1 hv)
            have hg := casts_get c1
            rw [bif_dpos (by omega), decide_eq_true c2, andC_out]
            simp only [cond_true]
            rw [grd_p (by omega), Int.toNat_natCast, hg, insert_e r P es2 u _ hPn (by omega) (by omega) (by omega), wn (by omega)]
            simp only [Option.bind_some]
            have hil := insF_len (newE r P (min (u : Int) ((ns.getD i default : Nat) : Int)) (max (u : Int) ((ns.getD i default : Nat) : Int))) es2
            have ht : ns.take (i + 1) = ns.take i ++ [ns.getD i default] := take_snoc c1
            refine .inl ⟨_, m' - 1, rfl, by omega, i + 1, rfl, by omega, .inl (by omega), by simp only; omega, ?_⟩
            simp only
            rw [ht]
            generalize ns.getD i default = v at *
            have hmn : min (u : Int) (v : Int) = ((min u v : Nat) : Int) := by omega
            have hmx : max (u : Int) (v : Int) = ((max u v : Nat) : Int) := by omega
            rw [hmn, hmx]
            refine (hes2.ins (x := min u v) (y := max u v) (by omega) (by omega)).congr fun a b h1 h2 => ?_
            simp only [List.mem_append, List.mem_singleton]
            constructor
            · rintro ((h | ⟨rfl, h⟩ | ⟨rfl, h⟩) | h)
              · exact .inl h
              · exact .inr (.inl ⟨rfl, .inl h⟩)
              · exact .inr (.inr ⟨rfl, .inl h⟩)
              · by_cases huv : u < v
                · exact .inr (.inl ⟨by omega, .inr (by omega)⟩)
                · exact .inr (.inr ⟨by omega, .inr (by omega)⟩)
            · rintro (h | ⟨rfl, h | h⟩ | ⟨rfl, h | h⟩)
              · exact .inl (.inl h)
              · exact .inl (.inr (.inl ⟨rfl, h⟩))
              · exact .inr (by omega)
              · exact .inl (.inr (.inr ⟨rfl, h⟩))
              · exact .inr (by omega)
          · rw [bif_dpos (by omega), decide_eq_false c2, andC_out]
            exact .inr (.inl ⟨_, rfl, stop (.inr (by omega))⟩)
        · rw [bif_dneg (by omega), andC_out]
          exact .inr (.inl ⟨_, rfl, stop (.inl (by omega))⟩)
    · rintro es ⟨hel, hes⟩
      by_cases h : ((es.length : Nat) : Int) > 8192
      · rw [bif_dpos h, grd_p (by omega), andC_out]
        exact ⟨_, rfl, fun h => absurd hr h, fun _ => ⟨hP, es, rfl, hel, hes⟩⟩
      · rw [bif_dneg h, andC_out]
        exact ⟨_, rfl, fun h => absurd hr h, fun _ => ⟨hP, es, (List.take_of_length_le (by simp only; omega)).symm, hel, hes⟩⟩
open Go.Proofs
theorem disL_nodup (r : S_Robot) (pts : List (List Int)) : ∀ j, (disL r pts j).Nodup
  | 0 => List.nodup_nil
  | j + 1 => by
    have := disL_nodup r pts j
    unfold disL
    split
    · rename_i hc
      refine List.nodup_append.2 ⟨this, by simp, fun a ha b hb => ?_⟩
      simp at hb; subst hb
      intro e; subst e; exact hc.2 ha
    · exact this
open Go.Proofs
end Go.Abs
