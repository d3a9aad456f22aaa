/-
  DL3 (a part of a claim: our own text).
-/
import Derived.Test.YtkjkbdobenmgbaaGreatXJDL2
namespace Go.Abs
open Go.Proofs
def eqV (a b : List Int) : Bool := decide (a = b)
theorem sameNums_e (a b : List Int) (h : a.length < 4294967296) : (ref19_SameNumbers_C a b).o = some (eqV a b) := by
  show (ref19_SameNumbers_T a b).run NN = _
  simp only [ref19_SameNumbers_T, T.run]
  unfold eqV
  by_cases e : a.length = b.length
  · rw [bif_nne (by omega)]
    refine (scanI (fun j => sw (a.getD j default != b.getD j default) false) a.length h (fun j hj => ?_) ?_).trans ?_
    · rw [bif_dpos (by omega), grd_p (by omega), grd_p (by omega), wn (by omega), Int.toNat_natCast, ← sw_fin]
    · rw [bif_dneg (by omega)]
    · rw [scan_sw]
      by_cases hn : noneB (fun j => a.getD j default != b.getD j default) a.length = true
      · rw [hn]
        have : a = b := getD_ext e fun i hi => by
          have := of_decide_eq_true hn i hi
          simpa using this
        rw [decide_eq_true this]; rfl
      · have hn' : noneB (fun j => a.getD j default != b.getD j default) a.length = false := by simpa using hn
        rw [hn']
        have : a ≠ b := fun h => hn (by subst h; exact decide_eq_true (fun i _ => by simp))
        rw [decide_eq_false this]; rfl
  · rw [bif_neq (by omega), decide_eq_false (fun h => e (by rw [h]))]
def memB (l : List (List Int)) (c : List Int) : Bool := decide (c ∈ l)
theorem pointOf_e (l : List (List Int)) (c : List Int) (hl : l.length < 4294967296) (hn : ∀ x ∈ l, x.length < 4294967296) : ∃ z, (ref23_PointOf_1_C l c).o = some z ∧ decide (z ≥ 0) = memB l c := by
  refine ⟨match scan (fun i => sw (eqV (l.getD i default) c) (i : Int)) l.length 0 with | some x => x | none => -1, ?_, ?_⟩
  · show (ref23_PointOf_1_T l c).run NN = _
    simp only [ref23_PointOf_1_T, T.run]
    refine (scanI (fun i => sw (eqV (l.getD i default) c) (i : Int)) l.length hl (fun j hj => ?_) ?_).trans ?_
    · rw [bif_dpos (by omega), grd_p (by omega), wn (by omega), Int.toNat_natCast, sameNums_e _ _ (hn _ (getD_mem hj))]
      simp only [Option.bind_some]
      rw [← sw_fin]
    · rw [bif_dneg (by omega)]
    · cases scan (fun i => sw (eqV (l.getD i default) c) (i : Int)) l.length 0 <;> rfl
  · refine (scan_ge (g := fun i => eqV (l.getD i default) c) (n := l.length)).trans ?_
    unfold memB noneB
    rw [Bool.eq_iff_iff]
    simp only [Bool.not_eq_true', decide_eq_false_iff_not, decide_eq_true_eq]
    constructor
    · intro h
      simp only [Classical.not_forall] at h
      obtain ⟨i, hi, he⟩ := h
      have he : l.getD i default = c := by simpa [eqV] using he
      rw [← he]; exact getD_mem hi
    · intro h h2
      obtain ⟨i, hi, rfl⟩ := List.getElem_of_mem h
      have := h2 i hi
      simp [eqV, List.getD_eq_getElem?_getD, hi] at this
abbrev K10 := Int × Int × Int × Int × Int × Int × Int × Int × Int × Int
def keyC (c : List Int) : K10 := ((if 0 < c.length then c.getD 0 default else 0), (if 1 < c.length then c.getD 1 default else 0), (if 2 < c.length then c.getD 2 default else 0), (if 3 < c.length then c.getD 3 default else 0), (if 4 < c.length then c.getD 4 default else 0), (if 5 < c.length then c.getD 5 default else 0), (if 6 < c.length then c.getD 6 default else 0), (if 7 < c.length then c.getD 7 default else 0), (if 8 < c.length then c.getD 8 default else 0), (if 9 < c.length then c.getD 9 default else 0))
theorem keyC_inj {a b : List Int} (hl : a.length = b.length) (h10 : a.length ≤ 10) (h : keyC a = keyC b) : a = b := by
  refine getD_ext hl fun i hi => ?_
  simp only [keyC, Prod.mk.injEq, ← hl] at h
  obtain ⟨h0, h1, h2, h3, h4, h5, h6, h7, h8, h9⟩ := h
  have hi10 : i < 10 := by omega
  match i, hi10 with
  | 0, _ => simpa [hi] using h0
  | 1, _ => simpa [hi] using h1
  | 2, _ => simpa [hi] using h2
  | 3, _ => simpa [hi] using h3
  | 4, _ => simpa [hi] using h4
  | 5, _ => simpa [hi] using h5
  | 6, _ => simpa [hi] using h6
  | 7, _ => simpa [hi] using h7
  | 8, _ => simpa [hi] using h8
  | 9, _ => simpa [hi] using h9
theorem key10 (a b : K10) : keyEq (cells_arr_10_int64 a) (cells_arr_10_int64 b) = true ↔ a = b := by
  obtain ⟨a0, a1, a2, a3, a4, a5, a6, a7, a8, a9⟩ := a
  obtain ⟨b0, b1, b2, b3, b4, b5, b6, b7, b8, b9⟩ := b
  simp only [keyEq, cells_arr_10_int64, cellsEq, if_true, Option.map_some]
  simp
def mapC (l : List (List Int)) : List (K10 × Bool) := (l.map fun c => (keyC c, true)).reverse
theorem mapC_get (l : List (List Int)) (c : List Int) : mgetB cells_arr_10_int64 (mapC l) (cells_arr_10_int64 (keyC c)) = true ↔ ∃ x ∈ l, keyC x = keyC c := by
  unfold mapC
  rw [← List.map_reverse]
  have : (∃ x ∈ l, keyC x = keyC c) ↔ ∃ x ∈ l.reverse, keyC x = keyC c := by simp
  rw [this]
  induction l.reverse with
  | nil => simp [mgetB]
  | cons a l ih =>
    simp only [List.map_cons, mgetB]
    by_cases e : keyEq (cells_arr_10_int64 (keyC c)) (cells_arr_10_int64 (keyC a)) = true
    · rw [if_pos e]
      exact ⟨fun _ => ⟨a, List.mem_cons_self .., ((key10 _ _).1 e).symm⟩, fun _ => rfl⟩
    · rw [if_neg e]
      refine Iff.trans ih ⟨fun ⟨x, h1, h2⟩ => ⟨x, List.mem_cons_of_mem _ h1, h2⟩, fun ⟨x, h1, h2⟩ => ?_⟩
      rcases List.mem_cons.1 h1 with rfl | h1
      · exact absurd ((key10 _ _).2 h2.symm) e
      · exact ⟨x, h1, h2⟩
def disL (r : S_Robot) (pts : List (List Int)) : Nat → List (List Int)
  | 0 => []
  | j + 1 => if insideV r (pts.getD j default) = true ∧ ¬ pts.getD j default ∈ disL r pts j then disL r pts j ++ [pts.getD j default] else disL r pts j
theorem disL_len (r : S_Robot) (pts : List (List Int)) : ∀ j, (disL r pts j).length ≤ j
  | 0 => Nat.le_refl _
  | j + 1 => by
    have := disL_len r pts j
    unfold disL
    split
    · simp; omega
    · omega
theorem disL_in (r : S_Robot) (pts : List (List Int)) : ∀ j x, x ∈ disL r pts j → insideV r x = true
  | 0, _, h => by cases h
  | j + 1, x, h => by
    unfold disL at h
    split at h
    · rename_i hc
      rcases List.mem_append.1 h with h | h
      · exact disL_in r pts j x h
      · simp at h; subst h; exact hc.1
    · exact disL_in r pts j x h
theorem disL_full (r : S_Robot) (pts : List (List Int)) : ∀ j, j ≤ pts.length → ((disL r pts j).length = j ↔ ∀ i, i < j → insideV r (pts.getD i default) = true ∧ ¬ pts.getD i default ∈ pts.take i) ∧ ((disL r pts j).length = j → disL r pts j = pts.take j)
  | 0, _ => ⟨⟨fun _ i hi => by omega, fun _ => rfl⟩, fun _ => by simp [disL]⟩
  | j + 1, hj => by
    obtain ⟨h1, h2⟩ := disL_full r pts j (by omega)
    have hl := disL_len r pts j
    have key : (disL r pts (j + 1)).length = j + 1 → (disL r pts j).length = j ∧ insideV r (pts.getD j default) = true ∧ ¬ pts.getD j default ∈ disL r pts j := by
      intro h
      unfold disL at h
      split at h
      · rename_i hc
        simp at h
        exact ⟨by omega, hc⟩
      · omega
    refine ⟨⟨fun h i hi => ?_, fun h => ?_⟩, fun h => ?_⟩
    · obtain ⟨k1, k2, k3⟩ := key h
      by_cases e : i = j
      · subst e; rw [h2 k1] at k3; exact ⟨k2, k3⟩
      · exact h1.1 k1 i (by omega)
    · have k1 := h1.2 fun i hi => h i (by omega)
      obtain ⟨k2, k3⟩ := h j (by omega)
      unfold disL
      rw [if_pos ⟨k2, by rw [h2 k1]; exact k3⟩]
      simp; omega
    · obtain ⟨k1, k2, k3⟩ := key h
      unfold disL
      rw [if_pos ⟨k2, k3⟩, h2 k1, ← take_snoc (by omega)]
theorem clone_ints (l : List Int) (h : l.length < 4294967296) : (slices_Clone_int64_int64_C l).o = some l := by
  show (slices_Clone_int64_int64_T l).run NN = _
  cases l with
  | nil => rfl
  | cons a l =>
    simp only [slices_Clone_int64_int64_T, T.run]
    simp only [List.length_cons] at h
    rw [grd_p (by simp), grd_p ⟨by simp only [List.length_nil, List.length_cons]; omega, by simp only [List.length_nil, List.length_cons, maxLen_eq]; omega⟩]; rfl
theorem inside_len {r : S_Robot} {c : List Int} (h : insideV r c = true) : c.length = r.Joints.length ∧ c.length ≤ 10 := by
  unfold insideV at h
  simp only [Bool.and_eq_true, decide_eq_true_eq] at h
  have := (robotV_ok h.1).2.1
  omega
theorem distinct_e (r : S_Robot) (pts : List (List Int)) (hl : pts.length ≤ 1000) : (roadmap_distinct_C r pts).o = some (disL r pts pts.length) := by
  show (roadmap_distinct_T r pts).run NN = _
  have er : (⟨r.Joints, r.Masses⟩ : S_Robot) = r := rfl
  simp only [roadmap_distinct_T, T.run, er, config_Inside_e, Option.bind_some]
  refine (loop_to (fun j => (disL r pts j, mapC (disL r pts j), (j : Int))) (disL r pts pts.length) pts.length rfl (by show _ < 4294967296; omega) (fun j hj => ?_) ?_).trans rfl
  · have hlen := disL_len r pts j
    have hin := disL_in r pts j
    dsimp only
    rw [bif_dpos (by omega), grd_p (by omega), bif_ne (by omega), wn (by omega), Int.toNat_natCast]
    have hs : disL r pts (j + 1) = if insideV r (pts.getD j default) = true ∧ ¬ pts.getD j default ∈ disL r pts j then disL r pts j ++ [pts.getD j default] else disL r pts j := rfl
    rw [hs]
    generalize pts.getD j default = c at *
    cases hc : insideV r c with
    | false => simp only [Bool.not_false, cond_true, andC_out]; rw [if_neg (fun h => by cases h.1)]
    | true =>
      simp only [Bool.not_true, cond_false]
      have hcl := inside_len hc
      have hk := mapC_get (disL r pts j) c
      have hiff : (∃ x ∈ disL r pts j, keyC x = keyC c) ↔ c ∈ disL r pts j := ⟨fun ⟨x, h1, h2⟩ => by
        have hx := inside_len (hin x h1)
        have := keyC_inj (by omega) (by omega) h2
        rw [← this]; exact h1, fun h => ⟨c, h, rfl⟩⟩
      rw [hiff] at hk
      by_cases hm : c ∈ disL r pts j
      · have hk := hk.2 hm
        unfold keyC at hk
        rw [if_neg (c := True ∧ ¬ c ∈ disL r pts j) (fun h => h.2 hm)]
        simp only [hk]; rfl
      · have hk := Bool.eq_false_iff.2 (fun h => hm (hk.1 h))
        unfold keyC at hk
        rw [if_pos (c := True ∧ ¬ c ∈ disL r pts j) ⟨trivial, hm⟩]
        simp only [hk]
        simp only [Bool.not_false, cond_true]
        rw [clone_ints c (by omega)]
        simp only [Option.bind_some]
        rw [grd_p (by simp only [List.length_cons, List.length_nil, maxLen_eq]; omega), andC_out]
        have : mapC (disL r pts j ++ [c]) = (keyC c, true) :: mapC (disL r pts j) := by simp [mapC]
        rw [this]; rfl
  · dsimp only; rw [bif_dneg (by omega)]
theorem max_comm' (a b : Int) : max a b = max b a := by omega
def badD (r : S_Robot) (p q : List Int) : Bool := !(decide (p.length = r.Joints.length) && (decide (q.length = r.Joints.length) && (smallV p && (smallV q && decide (robotV r = 0)))))
def stepD (r : S_Robot) (p q : List Int) (a : Int) (j : Nat) : Int := IntKind.i64.wrap (a + IntKind.i64.wrap ((r.Joints.getD j default).Weight * max (IntKind.i64.wrap (q.getD j default - p.getD j default)) (IntKind.i64.wrap (p.getD j default - q.getD j default))))
def sumD (r : S_Robot) (p q : List Int) : Nat → Int
  | 0 => 0
  | n + 1 => stepD r p q (sumD r p q n) n
def dstV (r : S_Robot) (p q : List Int) : Int := bif badD r p q then 0 else sumD r p q r.Joints.length
theorem config_dist (r : S_Robot) (p q : List Int) (hp : p.length < 4294967296) (hq : q.length < 4294967296) : (config_Distance_C r p q).o = some (dstV r p q) := by
  show (config_Distance_T r p q).run NN = _
  have er : (⟨r.Joints, r.Masses⟩ : S_Robot) = r := rfl
  simp only [config_Distance_T, T.run, er, config_small_e p hp, config_small_e q hq, robot_Check_e, Option.bind_some]
  unfold dstV badD
  by_cases c1 : p.length = r.Joints.length
  · by_cases c2 : q.length = r.Joints.length
    · rw [bif_nne (by omega), bif_nne (by omega), decide_eq_true c1, decide_eq_true c2]
      simp only [bif_out, andC_out, Bool.true_and]
      cases smallV p with
      | false => rfl
      | true =>
        cases smallV q with
        | false => rfl
        | true =>
          by_cases c3 : robotV r = 0
          · have hr := (robotV_ok c3).2.1
            rw [decide_eq_true c3]
            simp only [Bool.not_true, cond_false, c3, bne_self_eq_false, Bool.and_self, Bool.not_true]
            refine (loop_to (fun j => (sumD r p q j, (j : Int))) (sumD r p q r.Joints.length) r.Joints.length rfl (by show _ < 4294967296; omega) (fun j hj => ?_) ?_).trans rfl
            · have g1 : 0 ≤ (j : Int) ∧ (j : Int) < (r.Joints.length : Int) := by omega
              have g2 : 0 ≤ (j : Int) ∧ (j : Int) < (p.length : Int) := by omega
              have g3 : 0 ≤ (j : Int) ∧ (j : Int) < (q.length : Int) := by omega
              rw [bif_dpos (by omega)]
              simp only [grd_p g1, grd_p g2, grd_p g3, wn (show j < 4294967296 by omega), Int.toNat_natCast]
              rfl
            · rw [bif_dneg (by omega)]
          · rw [decide_eq_false c3]
            have : (robotV r != 0) = true := by simpa using c3
            simp only [Bool.not_true, cond_false, this, Bool.and_false, Bool.not_false, cond_true]
    · rw [bif_nne (by omega), bif_neq (by omega), andC_out, decide_eq_false c2]; simp only [Bool.and_false, Bool.false_and, Bool.not_false, cond_true]
  · rw [bif_neq (by omega), andC_out, decide_eq_false c1]; simp only [Bool.and_false, Bool.false_and, Bool.not_false, cond_true]
theorem ref_dist (r : S_Robot) (p q : List Int) (hp : p.length < 4294967296) (hq : q.length < 4294967296) : (ref10_Distance_C r p q).o = some (dstV r p q) := by
  show (ref10_Distance_T r p q).run NN = _
  have er : (⟨r.Joints, r.Masses⟩ : S_Robot) = r := rfl
  simp only [ref10_Distance_T, T.run, er, ref10_small_e p hp, ref10_small_e q hq, ref6_CheckRobot_e, Option.bind_some]
  unfold dstV badD
  by_cases c3 : robotV r = 0
  · have hr := (robotV_ok c3).2.1
    rw [bif_nne c3, decide_eq_true c3]
    cases smallV p with
    | false => simp only [Bool.not_true, Bool.not_false, cond_true, cond_false, andC_out, Bool.and_false, Bool.false_and]
    | true =>
      cases smallV q with
      | false => simp only [Bool.not_true, Bool.not_false, cond_true, cond_false, andC_out, Bool.and_false, Bool.false_and]
      | true =>
        simp only [Bool.not_true, cond_false]
        by_cases c1 : p.length = r.Joints.length
        · rw [bif_nne (by omega)]
          by_cases c2 : q.length = r.Joints.length
          · have h1 : (((q.length : Nat) : Int) != ((p.length : Nat) : Int)) = false := by simp; omega
            rw [h1, andC_out, decide_eq_true c1, decide_eq_true c2]
            simp only [cond_false, Bool.and_self, Bool.not_true]
            refine (loop_to (fun j => (sumD r p q j, (j : Int))) (sumD r p q r.Joints.length) r.Joints.length rfl (by show _ < 4294967296; omega) (fun j hj => ?_) ?_).trans rfl
            · have g1 : 0 ≤ (j : Int) ∧ (j : Int) < (r.Joints.length : Int) := by omega
              have g2 : 0 ≤ (j : Int) ∧ (j : Int) < (p.length : Int) := by omega
              have g3 : 0 ≤ (j : Int) ∧ (j : Int) < (q.length : Int) := by omega
              rw [bif_dpos (by omega)]
              simp only [grd_p g1, grd_p g2, grd_p g3, wn (show j < 4294967296 by omega), Int.toNat_natCast]
              rw [max_comm']
              rfl
            · rw [bif_dneg (by omega)]
          · have h1 : (((q.length : Nat) : Int) != ((p.length : Nat) : Int)) = true := by simp; omega
            rw [h1, andC_out, decide_eq_false c2]; simp only [Bool.not_true, Bool.not_false, cond_true, cond_false, andC_out, Bool.and_false, Bool.false_and]
        · rw [bif_neq (by omega), andC_out, decide_eq_false c1]; simp only [Bool.not_true, Bool.not_false, cond_true, cond_false, andC_out, Bool.and_false, Bool.false_and]
  · rw [bif_neq c3, andC_out, decide_eq_false c3]; simp only [Bool.not_true, Bool.not_false, cond_true, cond_false, andC_out, Bool.and_false, Bool.false_and]
open Go.Proofs
def ltE (a b : S_RoadmapEdge) : Bool := decide (a.U < b.U ∨ (a.U = b.U ∧ a.V < b.V))
theorem cmpI (a b : Int) : (cmp_Compare_int_C a b).o = some (if a < b then -1 else if a > b then 1 else 0) := by
  have h : ∀ x, (cmp_isNaN_int_C x).o = some (x != x) := fun _ => rfl
  show (cmp_Compare_int_T a b).run NN = _
  simp only [cmp_Compare_int_T, T.run, h, Option.bind_some, bne_self_eq_false, cond_false]
  by_cases c1 : a < b
  · rw [bif_dpos c1, if_pos c1]
  · rw [bif_dneg c1, if_neg c1]
    by_cases c2 : a > b
    · rw [bif_dpos c2, if_pos c2]
    · rw [bif_dneg c2, if_neg c2]
theorem cmpOr2 (a b : Int) : (cmp_Or_int_C [a, b]).o = some (if a ≠ 0 then a else b) := by
  show (cmp_Or_int_T [a, b]).run NN = _
  simp only [cmp_Or_int_T, T.run]
  have hl : ([a, b] : List Int).length = 2 := rfl
  refine (scanI (fun j => sw (([a, b] : List Int).getD j default != 0) (([a, b] : List Int).getD j default)) 2 (by decide) (fun j hj => ?_) (by rw [bif_dneg (by simp)])).trans ?_
  · rw [bif_dpos (by rw [hl]; omega), grd_p (by rw [hl]; omega), wn (by omega), Int.toNat_natCast, ← sw_fin]
  · have e1 : ([a, b] : List Int).getD 0 default = a := rfl
    have e2 : ([a, b] : List Int).getD 1 default = b := rfl
    simp only [scan, e1, e2, sw]
    by_cases h1 : a = 0
    · subst h1
      by_cases h2 : b = 0
      · subst h2; rfl
      · have hb : (b != 0) = true := by simpa using h2
        rw [hb]; rfl
    · have ha : (a != 0) = true := by simpa using h1
      rw [ha, if_pos h1]; rfl
def cmpI' (a b : Int) : Int := if a < b then -1 else if a > b then 1 else 0
def cmpE (a b : S_RoadmapEdge) : Int := if cmpI' a.U b.U ≠ 0 then cmpI' a.U b.U else cmpI' a.V b.V
theorem compare_e (a b : S_RoadmapEdge) : ∃ z, (roadmap_compare_C a b).o = some z ∧ decide (z ≥ 0) = !ltE a b := by
  refine ⟨cmpE a b, ?_, ?_⟩
  · show (roadmap_compare_T a b).run NN = _
    simp only [roadmap_compare_T, T.run, cmpI, cmpOr2, Option.bind_some]; rfl
  · unfold ltE cmpE cmpI'
    rw [Bool.eq_iff_iff]
    simp only [decide_eq_true_eq, Bool.not_eq_true', decide_eq_false_iff_not]
    by_cases c1 : a.U < b.U
    · simp [c1]
    · by_cases c2 : a.U > b.U
      · simp [c1, c2]; omega
      · by_cases c3 : a.V < b.V
        · simp [c1, c2, c3]; omega
        · by_cases c4 : a.V > b.V
          · simp [c1, c2, c3, c4]
          · simp [c1, c2, c3, c4]
def kindV (s : Int) : Int := bif s == 1 then 1 else bif s == 2 then 2 else 0
theorem kind_e (s : Int) : (roadmap_kind_C s).o = some (kindV s) := by
  show (roadmap_kind_T s).run NN = _
  simp only [roadmap_kind_T, T.run, bif_some]; rfl
theorem kindOf_e (s : Int) : (ref23_kindOf_C s).o = some (kindV s) := by
  show (ref23_kindOf_T s).run NN = _
  simp only [ref23_kindOf_T, T.run, bif_some]; rfl
def zeroV (x : S_EdgeResult) : Bool := (x.Kind == 0) && ((((x.Pieces.length : Nat) : Int) == 0) && ((x.At.Depth == 0) && ((x.At.Index == 0) && ((((x.At.Normals.length : Nat) : Int) == 0) && ((x.Witness.Pair == 0) && ((((x.Witness.Left.length : Nat) : Int) == 0) && (((x.Witness.Right.length : Nat) : Int) == 0)))))))
theorem isEmpty_e (x : S_EdgeResult) : (roadmap_isEmpty_C x).o = some (zeroV x) := by
  show (roadmap_isEmpty_T x).run NN = _
  simp only [roadmap_isEmpty_T, T.run, bif_some, bif_bf]; rfl
theorem zeroEdge_e (x : S_EdgeResult) : (ref23_zeroEdge_C x).o = some (zeroV x) := by
  show (ref23_zeroEdge_T x).run NN = _
  simp only [ref23_zeroEdge_T, T.run, bif_some, bif_bf]; rfl
def StV (e : S_RoadmapEdge) : Prop := (0 ≤ e.State ∧ e.State ≤ 3) ∧ e.Proof.Kind = kindV e.State ∧ (e.State = 0 → zeroV e.Proof = true)
def EdV (r : S_Robot) (m : S_Roadmap) (e : S_RoadmapEdge) : Prop := (endsV m e = true ∧ e.U < e.V) ∧ e.Cost = dstV r (m.Points.getD e.U.toNat default) (m.Points.getD e.V.toNat default) ∧ StV e
def PtB (m : S_Roadmap) : Prop := m.Points.length ≤ 1000 ∧ m.Edges.length ≤ 1000 ∧ ∀ c ∈ m.Points, c.length < 4294967296
theorem endsV_iff {m : S_Roadmap} {e : S_RoadmapEdge} : endsV m e = true ↔ (0 ≤ e.U ∧ e.U < (m.Points.length : Int) ∧ 0 ≤ e.V ∧ e.V < (m.Points.length : Int)) := by unfold endsV; rw [decide_eq_true_eq]
theorem validEdge_e (r : S_Robot) (m : S_Roadmap) (e : S_RoadmapEdge) (hm : PtB m) : ∃ b, (roadmap_validEdge_C r m e).o = some b ∧ (b = true ↔ EdV r m e) := by
  show ∃ b, (roadmap_validEdge_T r m e).run NN = some b ∧ _
  simp only [roadmap_validEdge_T, T.run, hasEnds_e, kind_e, isEmpty_e, Option.bind_some]
  cases h1 : endsV m e with
  | false =>
    refine ⟨false, rfl, ⟨fun h => (by cases h), fun h => ?_⟩⟩
    rw [h.1.1] at h1; cases h1
  | true =>
    obtain ⟨a1, a2, a3, a4⟩ := endsV_iff.1 h1
    simp only [Bool.not_true, cond_false]
    by_cases h2 : e.U < e.V
    · have l1 := hm.2.2 _ (getD_mem (show e.U.toNat < m.Points.length by omega))
      have l2 := hm.2.2 _ (getD_mem (show e.V.toNat < m.Points.length by omega))
      rw [bif_dneg (by omega), grd_p (by omega), grd_p (by omega), config_dist r _ _ l1 l2]
      simp only [Option.bind_some, andC_out]
      by_cases h3 : e.Cost = dstV r (m.Points.getD e.U.toNat default) (m.Points.getD e.V.toNat default)
      · rw [bif_nne h3]
        by_cases h4 : e.State < 0
        · rw [bif_dpos h4, andC_out]
          exact ⟨false, rfl, ⟨fun h => (by cases h), fun h => by have := h.2.2.1; omega⟩⟩
        · rw [bif_dneg h4]
          by_cases h5 : e.State > 3
          · rw [bif_dpos h5, andC_out]
            exact ⟨false, rfl, ⟨fun h => (by cases h), fun h => by have := h.2.2.1; omega⟩⟩
          · rw [bif_dneg h5, andC_out]
            by_cases h6 : e.Proof.Kind = kindV e.State
            · rw [bif_nne h6]
              by_cases h7 : e.State = 0
              · rw [bif_nne h7]
                refine ⟨_, rfl, ⟨fun h => ⟨⟨h1, h2⟩, h3, by omega, h6, fun _ => h⟩, fun h => h.2.2.2.2 h7⟩⟩
              · rw [bif_neq h7]
                exact ⟨true, rfl, ⟨fun _ => ⟨⟨h1, h2⟩, h3, by omega, h6, fun h => absurd h h7⟩, fun _ => rfl⟩⟩
            · rw [bif_neq h6]
              exact ⟨false, rfl, ⟨fun h => (by cases h), fun h => absurd h.2.2.2.1 h6⟩⟩
      · rw [bif_neq h3]
        exact ⟨false, rfl, ⟨fun h => (by cases h), fun h => absurd h.2.1 h3⟩⟩
    · rw [bif_dpos (by omega), andC_out]
      exact ⟨false, rfl, ⟨fun h => (by cases h), fun h => absurd h.1.2 h2⟩⟩
def VaP (r : S_Robot) (m : S_Roadmap) : Prop := robotV r = 0 ∧ (∀ i, i < m.Points.length → insideV r (m.Points.getD i default) = true ∧ ¬ m.Points.getD i default ∈ m.Points.take i) ∧
  ∀ i, i < m.Edges.length → EdV r m (m.Edges.getD i default) ∧ (0 < i → ltE (m.Edges.getD (i - 1) default) (m.Edges.getD i default) = true)
theorem wpred {n : Nat} (h1 : 1 ≤ n) (h : n < 4294967296) : IntKind.i64.wrap ((n : Int) - 1) = ((n - 1 : Nat) : Int) := by rw [w64 (by omega) (by omega)]; omega
theorem scan_all {f : Int → Option (Step3 Int U0 Bool)} (p : Nat → Prop) (n : Nat) (hn : n < 4294967296)
    (hs : ∀ j, j < n → (∃ b, f (j : Int) = (bif b then some (.fin false) else some (.next ((j + 1 : Nat) : Int))) ∧ (b = true ↔ ¬ p j))) (he : f (n : Int) = some (.out .u)) :
    (∃ b, iter f NN 0 = some (.inr b) ∧ b = false ∧ ¬ ∀ j, j < n → p j) ∨ (iter f NN 0 = some (.inl .u) ∧ ∀ j, j < n → p j) := by
  classical
  have key := fun (k : U0 → Option Bool) => scanI (f := f) (k := k) (fun j => if p j then none else some false) n hn (fun j hj => by
    obtain ⟨b, h1, h2⟩ := hs j hj
    rw [h1]
    by_cases hp : p j
    · have hb : b = false := by
        cases b with
        | false => rfl
        | true => exact absurd hp (h2.1 rfl)
      rw [hb, if_pos hp]; rfl
    · rw [h2.2 hp, if_neg hp]; rfl) he
  by_cases ha : ∀ j, j < n → p j
  · refine .inr ⟨?_, ha⟩
    have hsn : scan (fun j => if p j then none else some false) n 0 = none := (scan_none _ _).2 fun j _ hj => if_pos (ha j (by omega))
    have k1 := key (fun _ => some true)
    have k2 := key (fun _ => none)
    rw [hsn] at k1 k2
    simp only at k1 k2
    cases hi : iter f NN 0 with
    | none => rw [hi] at k1; cases k1
    | some x =>
      cases x with
      | inl t => cases t; rfl
      | inr r => rw [hi] at k2; cases k2
  · refine .inl ?_
    have hsn : ∃ r, scan (fun j => if p j then none else some false) n 0 = some r := by
      cases hh : scan (fun j => if p j then none else some false) n 0 with
      | some r => exact ⟨r, rfl⟩
      | none =>
        refine absurd (fun j hj => ?_) ha
        have := (scan_none _ _).1 hh j (Nat.zero_le _) (by omega)
        by_cases hp : p j
        · exact hp
        · rw [if_neg hp] at this; cases this
    obtain ⟨r, hr⟩ := hsn
    have hrf : r = false := by
      obtain ⟨j, -, -, h3, -⟩ := scan_some _ _ hr
      split at h3
      · cases h3
      · simpa using h3.symm
    have k2 := key (fun _ => none)
    rw [hr, hrf] at k2
    simp only at k2
    cases hi : iter f NN 0 with
    | none => rw [hi] at k2; cases k2
    | some x =>
      cases x with
      | inl t => rw [hi] at k2; cases k2
      | inr b => rw [hi] at k2; exact ⟨b, rfl, by simpa [andK] using k2, ha⟩
theorem scan_then {f : Int → Option (Step3 Int U0 Bool)} {k : U0 → Option Bool} {q : Prop} (p : Nat → Prop) (n : Nat) (hn : n < 4294967296)
    (hs : ∀ j, j < n → (∃ b, f (j : Int) = (bif b then some (.fin false) else some (.next ((j + 1 : Nat) : Int))) ∧ (b = true ↔ ¬ p j))) (he : f (n : Int) = some (.out .u))
    (hk : (∀ j, j < n → p j) → ∃ b, k .u = some b ∧ (b = true ↔ q)) : ∃ b, andK (iter f NN 0) k = some b ∧ (b = true ↔ (∀ j, j < n → p j) ∧ q) := by
  rcases scan_all p n hn hs he with ⟨b, h1, rfl, h3⟩ | ⟨h1, h2⟩
  · rw [h1]; exact ⟨false, rfl, ⟨fun h => (by cases h), fun h => absurd h.1 h3⟩⟩
  · rw [h1]
    obtain ⟨b, k1, k2⟩ := hk h2
    exact ⟨b, k1, k2.trans ⟨fun h => ⟨h2, h⟩, fun h => h.2⟩⟩
theorem valid_e (r : S_Robot) (m : S_Roadmap) (hm : PtB m) : ∃ b, (roadmap_Valid_C r m).o = some b ∧ (b = true ↔ VaP r m) := by
  obtain ⟨p1, p2, p3⟩ := hm
  show ∃ b, (roadmap_Valid_T r m).run NN = some b ∧ _
  have er : (⟨r.Joints, r.Masses⟩ : S_Robot) = r := rfl
  have em : (⟨m.Points, m.Edges⟩ : S_Roadmap) = m := rfl
  simp only [roadmap_Valid_T, T.run, er, em, robot_Check_e, distinct_e r m.Points p1, Option.bind_some]
  by_cases h1 : robotV r = 0
  · rw [bif_nne h1, bif_dneg (by omega), andC_out]
    have h2 : decide (((m.Edges.length : Nat) : Int) > 8192) = false := decide_eq_false (by omega)
    rw [h2]
    simp only [cond_false]
    have hd := (disL_full r m.Points m.Points.length (Nat.le_refl _)).1
    by_cases h3 : (disL r m.Points m.Points.length).length = m.Points.length
    · rw [bif_nne (by omega)]
      refine Exists.imp (fun b hb => ⟨hb.1, hb.2.trans ⟨fun h => ⟨h1, hd.1 h3, h.1⟩, fun h => ⟨h.2.2, trivial⟩⟩⟩) (scan_then (k := fun _ => some true) (q := True) (fun i => EdV r m (m.Edges.getD i default) ∧ (0 < i → ltE (m.Edges.getD (i - 1) default) (m.Edges.getD i default) = true)) m.Edges.length (by omega) (fun j hj => ?_) ?_ (fun _ => ⟨true, rfl, by simp⟩))
      · rw [bif_dpos (by omega), grd_p (by omega), wn (by omega), Int.toNat_natCast]
        obtain ⟨b, e1, e2⟩ := validEdge_e r m (m.Edges.getD j default) ⟨p1, p2, p3⟩
        rw [e1]
        simp only [Option.bind_some]
        cases b with
        | false => exact ⟨true, rfl, ⟨fun _ h => (by have := e2.2 h.1; cases this), fun _ => rfl⟩⟩
        | true =>
          have e3 := e2.1 rfl
          simp only [Bool.not_true, cond_false]
          by_cases h0 : 0 < j
          · rw [bif_dpos (by omega), wpred (by omega) (by omega), grd_p (by omega), Int.toNat_natCast]
            obtain ⟨z, z1, z2⟩ := compare_e (m.Edges.getD (j - 1) default) (m.Edges.getD j default)
            rw [z1]
            simp only [Option.bind_some, andC_out, z2]
            exact ⟨_, rfl, ⟨fun h h' => (by rw [h'.2 h0] at h; cases h), fun h => by
              cases hl : ltE (m.Edges.getD (j - 1) default) (m.Edges.getD j default) with
              | false => rfl
              | true => exact absurd ⟨e3, fun _ => hl⟩ h⟩⟩
          · rw [bif_dneg (by omega), andC_out]
            exact ⟨false, rfl, ⟨fun h => (by cases h), fun h => absurd ⟨e3, fun h' => absurd h' h0⟩ h⟩⟩
      · rw [bif_dneg (by omega)]
    · rw [bif_neq (by omega)]
      exact ⟨false, rfl, ⟨fun h => (by cases h), fun h => absurd (hd.2 h.2.1) h3⟩⟩
  · rw [bif_neq h1, andC_out]
    exact ⟨false, rfl, ⟨fun h => (by cases h), fun h => absurd h.1 h1⟩⟩
open Go.Proofs
def OrP (m : S_Roadmap) (i : Nat) : Prop := (endsV m (m.Edges.getD i default) = true ∧ (m.Edges.getD i default).U < (m.Edges.getD i default).V) ∧ (0 < i → ltE (m.Edges.getD (i - 1) default) (m.Edges.getD i default) = true)
theorem ordered_e (m : S_Roadmap) (hm : PtB m) : ∃ b, (ref23_ordered_C m).o = some b ∧ (b = true ↔ ∀ i, i < m.Edges.length → OrP m i) := by
  obtain ⟨p1, p2, p3⟩ := hm
  show ∃ b, (ref23_ordered_T m).run NN = some b ∧ _
  simp only [ref23_ordered_T, T.run]
  have hfin : (bif decide (((m.Points.length : Nat) : Int) ≤ 1024) then some (decide (((m.Edges.length : Nat) : Int) ≤ 8192)) else some false) = some true := by
    rw [bif_dpos (by omega), decide_eq_true (by omega)]
  refine Exists.imp (fun b hb => ⟨hb.1, hb.2.trans ⟨fun h => h.1, fun h => ⟨h, trivial⟩⟩⟩) (scan_then (q := True) (OrP m) m.Edges.length (by omega) (fun j hj => ?_) ?_ (fun _ => ⟨true, hfin, by simp⟩))
  · rw [bif_dpos (by omega), grd_p (by omega), wn (by omega), Int.toNat_natCast]
    unfold OrP
    generalize m.Edges.getD j default = e
    by_cases c1 : endsV m e = true ∧ e.U < e.V
    · obtain ⟨a1, a2, a3, a4⟩ := endsV_iff.1 c1.1
      rw [bif_dneg (by omega), bif_dneg (by omega), decide_eq_false (p := e.V ≥ (m.Points.length : Int)) (by omega), andC_out]
      simp only [cond_false]
      by_cases h0 : 0 < j
      · rw [bif_dpos (by omega), wpred (by omega) (by omega), grd_p (by omega), Int.toNat_natCast]
        generalize m.Edges.getD (j - 1) default = d
        by_cases c2 : d.U > e.U
        · rw [bif_dpos c2, andC_out]
          refine ⟨true, rfl, ⟨fun _ h => ?_, fun _ => rfl⟩⟩
          have := h.2 h0
          unfold ltE at this
          simp at this; omega
        · rw [bif_dneg c2, grd_p (by omega)]
          by_cases c3 : d.U = e.U
          · rw [bif_eq c3, grd_p (by omega), andC_out]
            refine ⟨_, rfl, ?_⟩
            rw [decide_eq_true_eq]
            unfold ltE
            constructor
            · intro h h'
              have := h'.2 h0
              simp at this; omega
            · intro h
              refine Classical.byContradiction fun h2 => h ⟨c1, fun _ => ?_⟩
              simp; omega
          · rw [bif_ne c3, andC_out]
            refine ⟨false, rfl, ⟨fun h => (by cases h), fun h => absurd ⟨c1, fun _ => ?_⟩ h⟩⟩
            unfold ltE
            simp; omega
      · rw [bif_dneg (by omega), andC_out]
        exact ⟨false, rfl, ⟨fun h => (by cases h), fun h => absurd ⟨c1, fun h' => absurd h' h0⟩ h⟩⟩
    · refine ⟨true, ?_, ⟨fun _ h => c1 h.1, fun _ => rfl⟩⟩
      by_cases c2 : e.U < 0
      · rw [bif_dpos c2, andC_out]; rfl
      · rw [bif_dneg c2]
        by_cases c3 : e.U ≥ e.V
        · rw [bif_dpos c3, andC_out]; rfl
        · rw [bif_dneg c3]
          have c4 : e.V ≥ (m.Points.length : Int) := by
            refine Classical.byContradiction fun h => c1 ⟨endsV_iff.2 (by omega), by omega⟩
          rw [decide_eq_true c4, andC_out]; rfl
  · rw [bif_dneg (by omega)]
theorem refValid_e (r : S_Robot) (m : S_Roadmap) (hm : PtB m) : ∃ b, (ref23_ValidMap_C r m).o = some b ∧ (b = true ↔ VaP r m) := by
  obtain ⟨bo, o1, o2⟩ := ordered_e m hm
  obtain ⟨p1, p2, p3⟩ := hm
  show ∃ b, (ref23_ValidMap_T r m).run NN = some b ∧ _
  have er : (⟨r.Joints, r.Masses⟩ : S_Robot) = r := rfl
  have z0 : (0 : Int).toNat = 0 := rfl
  simp only [ref23_ValidMap_T, T.run, er, ref6_CheckRobot_e, ref10_Inside_e, kindOf_e, zeroEdge_e, o1, Option.bind_some, z0, Nat.sub_zero, List.drop_zero]
  by_cases h1 : robotV r = 0
  · rw [bif_nne h1, andC_out]
    cases bo with
    | false =>
      refine ⟨false, rfl, ⟨fun h => (by cases h), fun h => ?_⟩⟩
      have := o2.2 fun i hi => ⟨(h.2.2 i hi).1.1, (h.2.2 i hi).2⟩
      cases this
    | true =>
      have ho := o2.1 rfl
      simp only [Bool.not_true, cond_false]
      refine Exists.imp (fun b hb => ⟨hb.1, hb.2.trans ⟨fun h => ⟨h1, h.1, fun i hi => ⟨⟨(ho i hi).1, h.2 i hi⟩, (ho i hi).2⟩⟩, fun h => ⟨h.2.1, fun i hi => (h.2.2 i hi).1.2⟩⟩⟩) (scan_then (q := ∀ i, i < m.Edges.length → (m.Edges.getD i default).Cost = dstV r (m.Points.getD (m.Edges.getD i default).U.toNat default) (m.Points.getD (m.Edges.getD i default).V.toNat default) ∧ StV (m.Edges.getD i default))
        (fun i => insideV r (m.Points.getD i default) = true ∧ ¬ m.Points.getD i default ∈ m.Points.take i) m.Points.length (by omega) (fun j hj => ?_) ?_ (fun _ => ?_))
      · rw [bif_dpos (by omega), grd_p (by omega), wn (by omega), Int.toNat_natCast]
        cases hin : insideV r (m.Points.getD j default) with
        | false =>
          simp only [Bool.not_false, cond_true, andC_out]
          exact ⟨true, rfl, ⟨fun _ h => (by cases h.1), fun _ => rfl⟩⟩
        | true =>
          simp only [Bool.not_true, cond_false]
          obtain ⟨z, z1, z2⟩ := pointOf_e (m.Points.take j) (m.Points.getD j default) (by rw [List.length_take]; omega) (fun x hx => p3 x (List.mem_of_mem_take hx))
          rw [grd_p (by omega), grd_p (by omega), z1]
          simp only [Option.bind_some, andC_out, z2]
          unfold memB
          refine ⟨_, rfl, ?_⟩
          rw [decide_eq_true_eq]
          exact ⟨fun h h' => h'.2 h, fun h => Classical.byContradiction fun h2 => h ⟨trivial, h2⟩⟩
      · rw [bif_dneg (by omega)]
      · refine Exists.imp (fun b hb => ⟨hb.1, hb.2.trans ⟨fun h => h.1, fun h => ⟨h, trivial⟩⟩⟩) (scan_then (k := fun _ => some true) (q := True) (fun i => (m.Edges.getD i default).Cost = dstV r (m.Points.getD (m.Edges.getD i default).U.toNat default) (m.Points.getD (m.Edges.getD i default).V.toNat default) ∧ StV (m.Edges.getD i default)) m.Edges.length (by omega) (fun j hj => ?_) ?_ (fun _ => ⟨true, rfl, by simp⟩))
        · obtain ⟨⟨e1, e2⟩, -⟩ := ho j hj
          rw [bif_dpos (by omega), grd_p (by omega), wn (by omega), Int.toNat_natCast]
          generalize m.Edges.getD j default = e at e1 e2 ⊢
          obtain ⟨a1, a2, a3, a4⟩ := endsV_iff.1 e1
          have l1 := p3 _ (getD_mem (show e.U.toNat < m.Points.length by omega))
          have l2 := p3 _ (getD_mem (show e.V.toNat < m.Points.length by omega))
          rw [grd_p (by omega), grd_p (by omega), ref_dist r _ _ l1 l2]
          simp only [Option.bind_some]
          by_cases h3 : e.Cost = dstV r (m.Points.getD e.U.toNat default) (m.Points.getD e.V.toNat default)
          · rw [bif_nne h3]
            by_cases h4 : e.State < 0
            · rw [bif_dpos h4, andC_out]
              exact ⟨true, rfl, ⟨fun _ h => (by have := h.2.1; omega), fun _ => rfl⟩⟩
            · rw [bif_dneg h4]
              by_cases h5 : e.State > 3
              · rw [bif_dpos h5, andC_out]
                exact ⟨true, rfl, ⟨fun _ h => (by have := h.2.1; omega), fun _ => rfl⟩⟩
              · rw [bif_dneg h5]
                by_cases h6 : e.Proof.Kind = kindV e.State
                · rw [bif_nne h6]
                  by_cases h7 : e.State = 0
                  · rw [bif_eq h7, andC_out]
                    refine ⟨_, rfl, ?_⟩
                    constructor
                    · intro h h'
                      rw [h'.2.2.2 h7] at h; cases h
                    · intro h
                      cases hz : zeroV e.Proof with
                      | false => rfl
                      | true => exact absurd ⟨h3, by omega, h6, fun _ => hz⟩ h
                  · rw [bif_ne h7, andC_out]
                    exact ⟨false, rfl, ⟨fun h => (by cases h), fun h => absurd ⟨h3, by omega, h6, fun h => absurd h h7⟩ h⟩⟩
                · rw [bif_neq h6, andC_out]
                  exact ⟨true, rfl, ⟨fun _ h => absurd h.2.2.1 h6, fun _ => rfl⟩⟩
          · rw [bif_neq h3, andC_out]
            exact ⟨true, rfl, ⟨fun _ h => absurd h.1 h3, fun _ => rfl⟩⟩
        · rw [bif_dneg (by omega)]
  · rw [bif_neq h1, andC_out]
    exact ⟨false, rfl, ⟨fun h => (by cases h), fun h => absurd h.1 h1⟩⟩
open Go.Proofs
def RoB (r : S_Robot) : Prop := 1 ≤ r.Joints.length ∧ r.Joints.length ≤ 3 ∧ ∀ j ∈ r.Joints, JB j
theorem make_Robot_x (l : List Int) (hl : l.length < 4294967296) : ∃ r, (make_Robot_C l).o = some r ∧ RoB r := by
  have ef : (make_From_C l).o = some (l, 0) := rfl
  obtain ⟨r, n', e, h, -⟩ := make_robot_x hl (n := 0) (by omega) (by omega)
  refine ⟨r, ?_, h⟩
  show (make_Robot_T l).run NN = _
  simp only [make_Robot_T, T.run, ef, Option.bind_some, e]
theorem make_Config_x (r : S_Robot) (m : List Int) (hm : m.length < 4294967296) (hr : RoB r) : ∃ p, (make_Config_C r m).o = some p ∧ p.length = r.Joints.length := by
  have ef : (make_From_C m).o = some (m, 0) := rfl
  obtain ⟨r1, r2, r3⟩ := hr
  show ∃ p, (make_Config_T r m).run NN = some p ∧ _
  simp only [make_Config_T, T.run, ef, Option.bind_some]
  refine loop_mf (P := fun p : List Int => p.length = r.Joints.length) (fun k (y : List Int × Int × List Int × Int) => ∃ j : Nat, y.1 = m ∧ (0 ≤ y.2.1 ∧ y.2.1 ≤ (m.length : Int)) ∧ y.2.2.2 = (j : Int) ∧ j + k = r.Joints.length ∧ y.2.2.1.length = j)
    (fun z : List Int => z.length = r.Joints.length) r.Joints.length ⟨0, rfl, ⟨by simp, by simp⟩, rfl, by omega, by simp [nl]⟩ (by omega) ?_ (fun z hz => ⟨_, rfl, hz⟩)
  rintro k ⟨l1, ix, p, y⟩ ⟨j, h1, ⟨h2, h3⟩, h4, h5, h6⟩
  simp only at h1 h2 h3 h4 h6 ⊢
  subst h1; subst h4
  cases k with
  | zero => exact .inr (.inl ⟨_, by rw [bif_dneg (by omega)], by omega⟩)
  | succ k =>
    have hj := r3 _ (getD_mem (show j < r.Joints.length by omega))
    unfold JB at hj
    rw [bif_dpos (by omega), grd_p (by omega), grd_p (by omega), Int.toNat_natCast, wn (by omega)]
    generalize r.Joints.getD j default = jt at hj ⊢
    obtain ⟨s1, x1, e1, a1, b1, c1, d1⟩ := Source_Next_x hm h2 h3 (k := 6) (by decide) (by decide)
    rw [e1]
    simp only [Option.bind_some]
    by_cases q1 : s1 = 0
    · rw [bif_eq q1, grd_p (by simp only [List.length_cons, List.length_nil, maxLen_eq]; omega), andC_out]
      exact .inl ⟨_, k, rfl, Nat.lt_succ_self k, j + 1, rfl, ⟨c1, d1⟩, rfl, by omega, by simp only [List.length_append, List.length_cons, List.length_nil]; omega⟩
    · rw [bif_ne q1]
      by_cases q2 : s1 = 1
      · rw [bif_eq q2, grd_p (by simp only [List.length_cons, List.length_nil, maxLen_eq]; omega), andC_out]
        exact .inl ⟨_, k, rfl, Nat.lt_succ_self k, j + 1, rfl, ⟨c1, d1⟩, rfl, by omega, by simp only [List.length_append, List.length_cons, List.length_nil]; omega⟩
      · rw [bif_ne q2]
        have hw : IntKind.i64.wrap (jt.Hi - jt.Lo) = jt.Hi - jt.Lo := w64 (by omega) (by omega)
        simp only [hw]
        have hw2 : IntKind.i64.wrap (jt.Hi - jt.Lo + 1) = jt.Hi - jt.Lo + 1 := w64 (by omega) (by omega)
        simp only [hw2]
        obtain ⟨s2, x2, e2, a2, b2, c2, d2⟩ := Source_Next_x hm c1 d1 (k := jt.Hi - jt.Lo + 1) (by omega) (by omega)
        rw [e2]
        simp only [Option.bind_some]
        rw [grd_p (by simp only [List.length_cons, List.length_nil, maxLen_eq]; omega), andC_out]
        exact .inl ⟨_, k, rfl, Nat.lt_succ_self k, j + 1, rfl, ⟨c2, d2⟩, rfl, by omega, by simp only [List.length_append, List.length_cons, List.length_nil]; omega⟩
theorem make_Configs_x (r : S_Robot) (n : Nat) (hn : n ≤ 1000) (m : List Int) (hm : m.length < 4294967296) (hr : RoB r) : ∃ p, (make_Configs_C r (n : Int) m).o = some p ∧ p.length = n ∧ ∀ c ∈ p, c.length = r.Joints.length := by
  have ef : (make_From_C m).o = some (m, 0) := rfl
  obtain ⟨r1, r2, r3⟩ := hr
  show ∃ p, (make_Configs_T r (n : Int) m).run NN = some p ∧ _
  simp only [make_Configs_T, T.run, ef, Option.bind_some]
  have hw : IntKind.i64.wrap (2 * (r.Joints.length : Int)) = ((2 * r.Joints.length : Nat) : Int) := by rw [w64 (by omega) (by omega)]; omega
  rw [hw]
  refine loop_mf (P := fun p : List (List Int) => p.length = n ∧ ∀ c ∈ p, c.length = r.Joints.length) (fun k (y : List Int × Int × List (List Int) × Int) => ∃ j : Nat, y.1 = m ∧ (0 ≤ y.2.1 ∧ y.2.1 ≤ (m.length : Int)) ∧ y.2.2.2 = (j : Int) ∧ j + k = n ∧ y.2.2.1.length = j ∧ ∀ c ∈ y.2.2.1, c.length = r.Joints.length)
    (fun z : List (List Int) => z.length = n ∧ ∀ c ∈ z, c.length = r.Joints.length) n ⟨0, rfl, ⟨by simp, by simp⟩, rfl, by omega, by simp [nl], fun c hc => by cases hc⟩ (by omega) ?_ (fun z hz => ⟨_, rfl, hz⟩)
  rintro k ⟨l1, ix, p, y⟩ ⟨j, h1, ⟨h2, h3⟩, h4, h5, h6, h7⟩
  simp only at h1 h2 h3 h4 h6 h7 ⊢
  subst h1; subst h4
  cases k with
  | zero => exact .inr (.inl ⟨_, by rw [bif_dneg (by omega)], by omega, h7⟩)
  | succ k =>
    rw [bif_dpos (by omega), wn (by omega)]
    suffices hi : ∃ s, _ = some s ∧ (∃ (ix' : Int) (c : List Int), s = Step3.next (l1, ix', p ++ [c], ((j + 1 : Nat) : Int)) ∧ (0 ≤ ix' ∧ ix' ≤ (l1.length : Int)) ∧ c.length = r.Joints.length) by
      obtain ⟨s, e, ix', c, rfl, k1, k2⟩ := hi
      refine .inl ⟨_, k, e, Nat.lt_succ_self k, j + 1, rfl, k1, rfl, by omega, by simp only [List.length_append, List.length_cons, List.length_nil]; omega, fun c' hc' => ?_⟩
      rcases List.mem_append.1 hc' with hc' | hc'
      · exact h7 c' hc'
      · simp at hc'; subst hc'; exact k2
    refine loop_mf (fun k (y : List Int × Int × List Int × Int) => ∃ i : Nat, y.1 = l1 ∧ (0 ≤ y.2.1 ∧ y.2.1 ≤ (l1.length : Int)) ∧ y.2.2.2 = (i : Int) ∧ i + k = 2 * r.Joints.length ∧ y.2.2.1.length = i)
      (fun z : List Int × Int × List Int => z.1 = l1 ∧ (0 ≤ z.2.1 ∧ z.2.1 ≤ (l1.length : Int)) ∧ z.2.2.length = 2 * r.Joints.length) (2 * r.Joints.length) ⟨0, rfl, ⟨h2, h3⟩, rfl, by omega, by simp [nl]⟩ (by omega) ?_ ?_
    · rintro k' ⟨l2, ix2, q, y2⟩ ⟨i, g1, ⟨g2, g3⟩, g4, g5, g6⟩
      simp only at g1 g2 g3 g4 g6 ⊢
      subst g1; subst g4
      cases k' with
      | zero => exact .inr (.inl ⟨_, by rw [bif_dneg (by omega)], rfl, ⟨g2, g3⟩, by simp only; omega⟩)
      | succ k' =>
        obtain ⟨s1, x1, e1, a1, b1, c1, d1⟩ := Source_Next_x hm g2 g3 (k := 1048576) (by decide) (by decide)
        rw [bif_dpos (by omega), e1]
        simp only [Option.bind_some]
        rw [grd_p (by simp only [List.length_cons, List.length_nil, maxLen_eq]; omega), wn (by omega)]
        exact .inl ⟨_, k', rfl, Nat.lt_succ_self k', i + 1, rfl, ⟨c1, d1⟩, rfl, by omega, by simp only [List.length_append, List.length_cons, List.length_nil]; omega⟩
    · rintro ⟨l2, ix2, q⟩ ⟨g1, g2, g3⟩
      simp only at g1 g2 g3 ⊢
      subst g1
      obtain ⟨c, ec, lc⟩ := make_Config_x r q (by omega) ⟨r1, r2, r3⟩
      rw [ec]
      simp only [Option.bind_some]
      rw [grd_p (by simp only [List.length_cons, List.length_nil, maxLen_eq]; omega)]
      exact ⟨_, rfl, ix2, c, rfl, g2, lc⟩
end Go.Abs
