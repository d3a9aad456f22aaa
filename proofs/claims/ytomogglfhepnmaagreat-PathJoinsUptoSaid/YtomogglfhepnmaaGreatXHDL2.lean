/-
  DL2 (a part of a claim: our own text).
-/
import Derived.Test.YtomogglfhepnmaaGreatXHDL1
namespace Go.Abs
def rng (x : S_Interval) : Bool := !(decide (x.Lo < -268435456) || (decide (x.Lo > x.Hi) || decide (x.Hi > 268435456)))
theorem rng_iff {x : S_Interval} : rng x = true ↔ -268435456 ≤ x.Lo ∧ x.Lo ≤ x.Hi ∧ x.Hi ≤ 268435456 := by
  simp only [rng, Bool.not_eq_true', Bool.or_eq_false_iff, decide_eq_false_iff_not]; omega
def reachedV (v : IV3) : Bool := rng v.1 && (rng v.2.1 && rng v.2.2)
def farL (l : List IV3) (i : Nat) : Bool := !reachedV (l.getD i default)
def placedV (l : List IV3) : Bool := decide (1 ≤ l.length ∧ l.length ≤ 8) && noneB (farL l) l.length
theorem placed_get {l : List IV3} (h : placedV l = true) {i : Nat} (hi : i < l.length) : reachedV (l.getD i default) = true := by
  simp only [placedV, Bool.and_eq_true] at h
  have := noneB_iff.1 h.2 i hi
  simpa [farL] using this
theorem placed_len {l : List IV3} (h : placedV l = true) : 1 ≤ l.length ∧ l.length ≤ 8 := by
  simp only [placedV, Bool.and_eq_true, decide_eq_true_eq] at h; exact h.1
theorem ref10_reached_e (v : IV3) : (ref10_reached_C v).o = some (reachedV v) := by
  show (ref10_reached_T v).run NN = _
  simp only [ref10_reached_T, T.run, T.ix, bif_out, andC_out, bif_tb, reachedV, rng]
  cases decide (v.1.Lo < -268435456) || (decide (v.1.Lo > v.1.Hi) || decide (v.1.Hi > 268435456)) <;> cases decide (v.2.1.Lo < -268435456) || (decide (v.2.1.Lo > v.2.1.Hi) || decide (v.2.1.Hi > 268435456)) <;>
    cases decide (v.2.2.Lo < -268435456) || (decide (v.2.2.Lo > v.2.2.Hi) || decide (v.2.2.Hi > 268435456)) <;> rfl
theorem shape_Placed_e (l : List IV3) : (shape_Placed_C l).o = some (placedV l) := by
  show (shape_Placed_T l).run NN = _
  simp only [shape_Placed_T, T.run, T.ix, bif_out, andC_out, bif_tb, placedV]
  by_cases h : 1 ≤ l.length ∧ l.length ≤ 8
  · rw [decide_eq_true h, decide_eq_false (p := (l.length : Int) < 1) (by omega), decide_eq_false (p := (l.length : Int) > 8) (by omega)]
    simp only [Bool.or_self, cond_false, Bool.true_and]
    refine (scanI (fun i => sw (farL l i) false) l.length (by omega) (fun j hj => ?_) ?_).trans ?_
    · rw [bif_dpos (by omega), grd_p (by omega), wn (by omega), Int.toNat_natCast, ← sw_fin]
      unfold farL reachedV rng
      generalize l.getD j default = v
      cases decide (v.1.Lo < -268435456) || (decide (v.1.Lo > v.1.Hi) || decide (v.1.Hi > 268435456)) <;> cases decide (v.2.1.Lo < -268435456) || (decide (v.2.1.Lo > v.2.1.Hi) || decide (v.2.1.Hi > 268435456)) <;>
        cases decide (v.2.2.Lo < -268435456) || (decide (v.2.2.Lo > v.2.2.Hi) || decide (v.2.2.Hi > 268435456)) <;> rfl
    · rw [bif_dneg (by omega)]
    · rw [scan_sw]; cases noneB (farL l) l.length <;> rfl
  · rw [decide_eq_false h]
    by_cases h1 : (l.length : Int) < 1
    · rw [decide_eq_true h1]; rfl
    · rw [decide_eq_false h1, decide_eq_true (p := (l.length : Int) > 8) (by omega)]; rfl
theorem ref10_Placed_e (l : List IV3) : (ref10_Placed_C l).o = some (placedV l) := by
  show (ref10_Placed_T l).run NN = _
  simp only [ref10_Placed_T, T.run, bif_out, andC_out, ref10_reached_e, Option.bind_some]
  refine (scanI (fun i => sw (farL l i) false) (min l.length 9) (by omega) (fun j hj => ?_) ?_).trans ?_
  · have e : (bif decide ((j : Int) < (l.length : Int)) then decide ((j : Int) ≤ 8) else false) = true := by rw [bif_dpos (by omega), decide_eq_true (p := (j : Int) ≤ 8) (by omega)]
    rw [e, cond_true, grd_p (by omega), wn (by omega), Int.toNat_natCast, ← sw_fin]; rfl
  · have e : (bif decide (((min l.length 9 : Nat) : Int) < (l.length : Int)) then decide (((min l.length 9 : Nat) : Int) ≤ 8) else false) = false := by
      by_cases hl : l.length ≤ 8
      · rw [bif_dneg (by omega)]
      · by_cases h9 : ((min l.length 9 : Nat) : Int) < (l.length : Int)
        · rw [bif_dpos h9, decide_eq_false (p := ((min l.length 9 : Nat) : Int) ≤ 8) (by omega)]
        · rw [bif_dneg h9]
    rw [e, cond_false]
  · rw [scan_sw]
    unfold placedV
    by_cases h : 1 ≤ l.length ∧ l.length ≤ 8
    · rw [decide_eq_true h, Nat.min_eq_left (by omega), Bool.true_and]
      cases noneB (farL l) l.length
      · rfl
      · show (bif decide ((l.length : Int) ≥ 1) then _ else _) = _
        rw [bif_dpos (by omega), decide_eq_true (p := (l.length : Int) ≤ 8) (by omega)]
    · rw [decide_eq_false h, Bool.false_and]
      cases noneB (farL l) (min l.length 9)
      · rfl
      · show (bif decide ((l.length : Int) ≥ 1) then _ else _) = _
        by_cases h1 : (l.length : Int) ≥ 1
        · rw [bif_dpos h1, decide_eq_false (p := (l.length : Int) ≤ 8) (by omega)]
        · rw [bif_dneg h1]
def dLo (n : V3) (v : IV3) : Int := min (n.1 * v.1.Lo) (n.1 * v.1.Hi) + min (n.2.1 * v.2.1.Lo) (n.2.1 * v.2.1.Hi) + min (n.2.2 * v.2.2.Lo) (n.2.2 * v.2.2.Hi)
def dHi (n : V3) (v : IV3) : Int := max (n.1 * v.1.Lo) (n.1 * v.1.Hi) + max (n.2.1 * v.2.1.Lo) (n.2.1 * v.2.1.Hi) + max (n.2.2 * v.2.2.Lo) (n.2.2 * v.2.2.Hi)
theorem mul42 {a b : Int} (ha : -16384 ≤ a ∧ a ≤ 16384) (hb : -268435456 ≤ b ∧ b ≤ 268435456) : -4398046511104 ≤ a * b ∧ a * b ≤ 4398046511104 := by
  have h : (a * b).natAbs ≤ 16384 * 268435456 := by rw [Int.natAbs_mul]; exact Nat.mul_le_mul (by omega) (by omega)
  omega
theorem dot_in {n : V3} {v : IV3} (hn : usableV n = true) (hv : reachedV v = true) :
    IntKind.i64.wrap (IntKind.i64.wrap (IntKind.i64.wrap (0 + min (IntKind.i64.wrap (n.1 * v.1.Lo)) (IntKind.i64.wrap (n.1 * v.1.Hi))) + min (IntKind.i64.wrap (n.2.1 * v.2.1.Lo)) (IntKind.i64.wrap (n.2.1 * v.2.1.Hi))) + min (IntKind.i64.wrap (n.2.2 * v.2.2.Lo)) (IntKind.i64.wrap (n.2.2 * v.2.2.Hi))) = dLo n v ∧
    IntKind.i64.wrap (IntKind.i64.wrap (IntKind.i64.wrap (0 + max (IntKind.i64.wrap (n.1 * v.1.Lo)) (IntKind.i64.wrap (n.1 * v.1.Hi))) + max (IntKind.i64.wrap (n.2.1 * v.2.1.Lo)) (IntKind.i64.wrap (n.2.1 * v.2.1.Hi))) + max (IntKind.i64.wrap (n.2.2 * v.2.2.Lo)) (IntKind.i64.wrap (n.2.2 * v.2.2.Hi))) = dHi n v ∧
    (-13194139533312 ≤ dLo n v ∧ dLo n v ≤ 13194139533312) ∧ (-13194139533312 ≤ dHi n v ∧ dHi n v ≤ 13194139533312) := by
  obtain ⟨⟨b1, b2, b3⟩, -⟩ := usable_bd hn
  simp only [reachedV, Bool.and_eq_true, rng_iff] at hv
  obtain ⟨v1, v2, v3⟩ := hv
  have p1 := mul42 b1 (show -268435456 ≤ v.1.Lo ∧ v.1.Lo ≤ 268435456 by omega)
  have p2 := mul42 b1 (show -268435456 ≤ v.1.Hi ∧ v.1.Hi ≤ 268435456 by omega)
  have p3 := mul42 b2 (show -268435456 ≤ v.2.1.Lo ∧ v.2.1.Lo ≤ 268435456 by omega)
  have p4 := mul42 b2 (show -268435456 ≤ v.2.1.Hi ∧ v.2.1.Hi ≤ 268435456 by omega)
  have p5 := mul42 b3 (show -268435456 ≤ v.2.2.Lo ∧ v.2.2.Lo ≤ 268435456 by omega)
  have p6 := mul42 b3 (show -268435456 ≤ v.2.2.Hi ∧ v.2.2.Hi ≤ 268435456 by omega)
  unfold dLo dHi
  generalize n.1 * v.1.Lo = x1 at *
  generalize n.1 * v.1.Hi = x2 at *
  generalize n.2.1 * v.2.1.Lo = x3 at *
  generalize n.2.1 * v.2.1.Hi = x4 at *
  generalize n.2.2 * v.2.2.Lo = x5 at *
  generalize n.2.2 * v.2.2.Hi = x6 at *
  rw [w64 (x := x1) (by omega) (by omega), w64 (x := x2) (by omega) (by omega), w64 (x := x3) (by omega) (by omega), w64 (x := x4) (by omega) (by omega), w64 (x := x5) (by omega) (by omega), w64 (x := x6) (by omega) (by omega)]
  rw [w64 (x := 0 + min x1 x2) (by omega) (by omega), w64 (x := 0 + max x1 x2) (by omega) (by omega), w64 (x := 0 + min x1 x2 + min x3 x4) (by omega) (by omega), w64 (x := 0 + max x1 x2 + max x3 x4) (by omega) (by omega), w64 (by omega) (by omega), w64 (by omega) (by omega)]
  refine ⟨by omega, by omega, ⟨by omega, by omega⟩, ⟨by omega, by omega⟩⟩
theorem support_dot_e {n : V3} {v : IV3} (hn : usableV n = true) (hv : reachedV v = true) : (support_dot_C n v).o = some (dLo n v, dHi n v) := by
  have h := dot_in hn hv
  show (support_dot_T n v).run NN = _
  simp only [support_dot_T, T.run, T.ix, h.1, h.2.1]
def bst (c : Int → Int → Bool) (f : Nat → Int) : Nat → Int × Int
  | 0 => (0, 0)
  | j + 1 => if decide (j = 0) || c (f j) (bst c f j).1 then (f j, (j : Int)) else bst c f j
def ltB (a b : Int) : Bool := decide (a < b)
def gtB (a b : Int) : Bool := decide (a > b)
def leastV (n : V3) (l : List IV3) : Int × Int := bst ltB (fun i => dLo n (l.getD i default)) l.length
def greatV (n : V3) (l : List IV3) : Int × Int := bst gtB (fun i => dHi n (l.getD i default)) l.length
section
variable {n : V3} {l : List IV3} (hn : usableV n = true) (hl : placedV l = true)
include hn hl
theorem direction_best_e : (direction_best_C n.1 n.2.1 n.2.2 l).o = some ((leastV n l).1, (leastV n l).2, n.1, n.2.1, n.2.2) := by
  have hlen := placed_len hl
  show (direction_best_T n.1 n.2.1 n.2.2 l).run NN = _
  simp only [direction_best_T, T.run]
  refine (loop_to (fun j => (n.1, n.2.1, n.2.2, (bst ltB (fun i => dLo n (l.getD i default)) j).1, (bst ltB (fun i => dLo n (l.getD i default)) j).2, (j : Int))) (n.1, n.2.1, n.2.2, (leastV n l).1, (leastV n l).2) l.length rfl (show l.length < 4294967296 by omega) (fun j hj => ?_) ?_).trans rfl
  · rw [bif_dpos (by simpa using hj), grd_p ⟨by simp, by simpa using hj⟩]
    have e1 : (support_downward_1_C (l.getD j default) n.1 n.2.1 n.2.2).o = some (dLo n (l.getD j default), n.1, n.2.1, n.2.2) := by
      show (support_downward_1_T (l.getD j default) n.1 n.2.1 n.2.2).run NN = _
      simp only [support_downward_1_T, T.run, support_dot_e (n := (n.1, n.2.1, n.2.2)) hn (placed_get hl hj), Option.bind_some]
    have e2 : ∀ a b, (support_downward_2_C a b).o = some (ltB a b) := fun a b => rfl
    simp only [Int.toNat_natCast, e1, e2, Option.bind_some]
    rw [wn (by omega)]
    simp only [bif_out, andC_out, bst]
    have e : ((j : Int) == 0) = decide (j = 0) := by rw [Bool.eq_iff_iff]; simp
    rw [e, bif_tb]
    cases decide (j = 0) || ltB (dLo n (l.getD j default)) (bst ltB (fun i => dLo n (l.getD i default)) j).1 <;> rfl
  · rw [bif_dneg (by simp)]; rfl
theorem direction_best_1_e : (direction_best_1_C n.1 n.2.1 n.2.2 l).o = some ((greatV n l).1, (greatV n l).2, n.1, n.2.1, n.2.2) := by
  have hlen := placed_len hl
  show (direction_best_1_T n.1 n.2.1 n.2.2 l).run NN = _
  simp only [direction_best_1_T, T.run]
  refine (loop_to (fun j => (n.1, n.2.1, n.2.2, (bst gtB (fun i => dHi n (l.getD i default)) j).1, (bst gtB (fun i => dHi n (l.getD i default)) j).2, (j : Int))) (n.1, n.2.1, n.2.2, (greatV n l).1, (greatV n l).2) l.length rfl (show l.length < 4294967296 by omega) (fun j hj => ?_) ?_).trans rfl
  · rw [bif_dpos (by simpa using hj), grd_p ⟨by simp, by simpa using hj⟩]
    have e1 : (support_upward_1_C (l.getD j default) n.1 n.2.1 n.2.2).o = some (dHi n (l.getD j default), n.1, n.2.1, n.2.2) := by
      show (support_upward_1_T (l.getD j default) n.1 n.2.1 n.2.2).run NN = _
      simp only [support_upward_1_T, T.run, support_dot_e (n := (n.1, n.2.1, n.2.2)) hn (placed_get hl hj), Option.bind_some]
    have e2 : ∀ a b, (support_upward_2_C a b).o = some (gtB a b) := fun a b => rfl
    simp only [Int.toNat_natCast, e1, e2, Option.bind_some]
    rw [wn (by omega)]
    simp only [bif_out, andC_out, bst]
    have e : ((j : Int) == 0) = decide (j = 0) := by rw [Bool.eq_iff_iff]; simp
    rw [e, bif_tb]
    cases decide (j = 0) || gtB (dHi n (l.getD j default)) (bst gtB (fun i => dHi n (l.getD i default)) j).1 <;> rfl
  · rw [bif_dneg (by simp)]; rfl
end
def leastO (n : V3) (l : List IV3) : Int × Int × Bool := bif usableV n && placedV l then ((leastV n l).1, (leastV n l).2, true) else (0, 0, false)
def greatO (n : V3) (l : List IV3) : Int × Int × Bool := bif usableV n && placedV l then ((greatV n l).1, (greatV n l).2, true) else (0, 0, false)
theorem support_Least_e (n : V3) (l : List IV3) : (support_Least_C n l).o = some (leastO n l) := by
  show (support_Least_T n l).run NN = _
  have e1 : (support_downward_C (n.1, n.2.1, n.2.2)).o = some (n.1, n.2.1, n.2.2) := rfl
  simp only [support_Least_T, T.run, support_Usable_e, shape_Placed_e, Option.bind_some, leastO, e1]
  cases hn : usableV n
  · rfl
  · cases hl : placedV l
    · rfl
    · simp only [Bool.not_true, cond_false, andC_out, direction_best_e hn hl, Option.bind_some, Bool.and_self, cond_true]
theorem support_Greatest_e (n : V3) (l : List IV3) : (support_Greatest_C n l).o = some (greatO n l) := by
  show (support_Greatest_T n l).run NN = _
  have e1 : (support_upward_C (n.1, n.2.1, n.2.2)).o = some (n.1, n.2.1, n.2.2) := rfl
  simp only [support_Greatest_T, T.run, support_Usable_e, shape_Placed_e, Option.bind_some, greatO, e1]
  cases hn : usableV n
  · rfl
  · cases hl : placedV l
    · rfl
    · simp only [Bool.not_true, cond_false, andC_out, direction_best_1_e hn hl, Option.bind_some, Bool.and_self, cond_true]
def radV (r : Int) : Bool := decide (0 ≤ r) && decide (r ≤ 1048576)
noncomputable def marginV (n : V3) (a : List IV3) (ra : Int) (b : List IV3) (rb : Int) : Int :=
  IntKind.i64.wrap (IntKind.i64.wrap ((leastV n a).1 - (greatV n b).1) - IntKind.i64.wrap (normV n * IntKind.i64.wrap (ra + rb)))
def sepOk (n : V3) (a : List IV3) (ra : Int) (b : List IV3) (rb : Int) : Bool := usableV n && (placedV a && (placedV b && (radV ra && radV rb)))
noncomputable def sepV (n : V3) (a : List IV3) (ra : Int) (b : List IV3) (rb : Int) : Bool := sepOk n a ra b rb && decide (marginV n a ra b rb > 0)
theorem ref14_radius_e (r : Int) : (ref14_radius_C r).o = some (radV r) := by
  show (ref14_radius_T r).run NN = _
  simp only [ref14_radius_T, T.run, bif_some, bif_bf, radV, ge_iff_le]
theorem side_valid_e (x : S_plane_side) : (side_valid_C x).o = some (placedV x.points && radV x.radius) := by
  show (side_valid_T x).run NN = _
  simp only [side_valid_T, T.run, shape_Placed_e, Option.bind_some, radV]
  cases placedV x.points <;> cases decide (0 ≤ x.radius) <;> rfl
theorem plane_Separates_e (n : V3) (a : List IV3) (ra : Int) (b : List IV3) (rb : Int) : (plane_Separates_C n a ra b rb).o = some (sepV n a ra b rb) := by
  have e1 : (plane_both_C a ra b rb).o = some ⟨⟨a, ra⟩, ⟨b, rb⟩⟩ := rfl
  have e2 : (sides_margin_C ⟨⟨a, ra⟩, ⟨b, rb⟩⟩ n).o = some (bif sepOk n a ra b rb then (marginV n a ra b rb, true) else (0, false)) := by
    show (sides_margin_T ⟨⟨a, ra⟩, ⟨b, rb⟩⟩ n).run NN = _
    simp only [sides_margin_T, T.run, side_valid_e, support_Least_e, support_Greatest_e, support_Norm_e, Option.bind_some, leastO, greatO, sepOk, marginV]
    cases usableV n <;> cases placedV a <;> cases placedV b <;> cases radV ra <;> cases radV rb <;> rfl
  have e3 : (sides_separates_C ⟨⟨a, ra⟩, ⟨b, rb⟩⟩ n).o = some (sepV n a ra b rb) := by
    show (sides_separates_T ⟨⟨a, ra⟩, ⟨b, rb⟩⟩ n).run NN = _
    simp only [sides_separates_T, T.run, e2, Option.bind_some, sepV]
    cases sepOk n a ra b rb <;> rfl
  show (plane_Separates_T n a ra b rb).run NN = _
  simp only [plane_Separates_T, T.run, e1, e3, Option.bind_some]
theorem pin_mem {c : Nat → Nat → Bool} {L : List S_Pair} {i : Nat} {x : S_Pair} : ∀ {m : Nat}, x ∈ pin c L i m → x ∈ L ∨ ∃ k, k < m ∧ x = ⟨(i : Int), ((i + 1 + k : Nat) : Int)⟩
  | 0, h => Or.inl h
  | m + 1, h => by
    simp only [pin] at h
    split at h
    · rcases List.mem_append.1 h with h | h
      · rcases pin_mem h with h | ⟨k, h1, h2⟩
        · exact Or.inl h
        · exact Or.inr ⟨k, by omega, h2⟩
      · exact Or.inr ⟨m, by omega, List.mem_singleton.1 h⟩
    · rcases pin_mem h with h | ⟨k, h1, h2⟩
      · exact Or.inl h
      · exact Or.inr ⟨k, by omega, h2⟩
theorem pou_mem {c : Nat → Nat → Bool} {n : Nat} {x : S_Pair} : ∀ {i : Nat}, i ≤ n → x ∈ pou c n i → 0 ≤ x.A ∧ x.A < (n : Int) ∧ 0 ≤ x.B ∧ x.B < (n : Int)
  | 0, _, h => by simp [pou, nl] at h
  | i + 1, hi, h => by
    simp only [pou] at h
    rcases pin_mem h with h | ⟨k, h1, h2⟩
    · exact pou_mem (by omega) h
    · subst h2; simp only; omega
theorem getD_mem {α : Type} [Inhabited α] {l : List α} {i : Nat} (h : i < l.length) : l.getD i default ∈ l := by
  rw [List.getD_eq_getElem?_getD, List.getElem?_eq_getElem h, Option.getD_some]; exact List.getElem_mem h
theorem pairs_in {s : S_Scene} (h : sceneV s = 0) {k : Nat} (hk : k < (pairsV s).length) : (0 ≤ ((pairsV s).getD k default).A ∧ ((pairsV s).getD k default).A < (s.Shapes.length : Int)) ∧ (0 ≤ ((pairsV s).getD k default).B ∧ ((pairsV s).getD k default).B < (s.Shapes.length : Int)) := by
  have hm := getD_mem hk
  generalize (pairsV s).getD k default = x at hm ⊢
  unfold pairsV at hm
  rw [if_pos h] at hm
  have := pou_mem (Nat.le_refl _) hm
  omega
theorem pairs_len (s : S_Scene) : (pairsV s).length ≤ 576 := by
  unfold pairsV
  split
  · rename_i h
    have h1 := (sceneV_ok h).len
    have h2 := pou_len (pairB s) (n := s.Shapes.length) s.Shapes.length
    have h3 : s.Shapes.length * s.Shapes.length ≤ 24 * 24 := Nat.mul_le_mul h1 h1
    omega
  · simp [nl]
def pA (s : S_Scene) (k : Nat) : Nat := ((pairsV s).getD k default).A.toNat
def pB (s : S_Scene) (k : Nat) : Nat := ((pairsV s).getD k default).B.toNat
def radOf (s : S_Scene) (i : Nat) : Int := (s.Shapes.getD i default).Radius
noncomputable def sepK (s : S_Scene) (b : List S_Interval) (ns : List V3) (k : Nat) : Bool := !sepV (ns.getD k default) (pointsF s b (pA s k)) (radOf s (pA s k)) (pointsF s b (pB s k)) (radOf s (pB s k))
noncomputable def freeV (s : S_Scene) (b : List S_Interval) (ns : List V3) : Bool :=
  decide (sceneV s = 0) && (boxV s.Robot b && (decide (ns.length = (pairsV s).length) && noneB (sepK s b ns) (pairsV s).length))
theorem pointsV_get {s : S_Scene} {b : List S_Interval} (h : sceneV s = 0) (hb : boxV s.Robot b = true) : pointsV s b = tab (pointsF s b) s.Shapes.length := by unfold pointsV; rw [if_pos ⟨h, hb⟩]
theorem classify_place_e (s : S_Scene) (b : List S_Interval) (hbl : b.length < 4294967296) : (classify_place_C s b).o = some (if sceneV s = 0 ∧ boxV s.Robot b = true then (⟨s.Shapes, pairsV s, pointsV s b⟩, true) else (⟨nl, nl, nl⟩, false)) := by
  show (classify_place_T s b).run NN = _
  simp only [classify_place_T, T.run, scene_Check_e, Option.bind_some]
  by_cases h : sceneV s = 0
  · rw [bif_nne h, andC_out]
    by_cases hl : b.length = s.Robot.Joints.length
    · rw [bif_nne (by omega)]
      refine (scanI (fun i => sw (notV b i) ((⟨nl, nl, nl⟩ : S_classify_body), false)) b.length hbl (fun j hj => ?_) ?_).trans ?_
      · rw [bif_dpos (by omega), grd_p (by omega), wn (by omega), Int.toNat_natCast, ← sw_fin]
        simp only [interval_Valid_e, Option.bind_some]; rfl
      · rw [bif_dneg (by omega)]
      · rw [scan_sw]
        have : boxV s.Robot b = noneB (notV b) b.length := by unfold boxV; rw [decide_eq_true hl, Bool.true_and]
        rw [this]
        cases noneB (notV b) b.length
        · rw [if_neg (fun h => by cases h.2)]; rfl
        · rw [if_pos ⟨h, rfl⟩]
          simp only [sw, Bool.not_true, cond_false, scene_Pairs_e, kinematics_Points_e s b hbl, Option.bind_some]
    · rw [bif_neq (by omega), if_neg]
      rintro ⟨-, hb⟩
      simp only [boxV, Bool.and_eq_true, decide_eq_true_eq] at hb
      exact hl hb.1
  · rw [bif_neq h, andC_out, if_neg (fun h' => h h'.1)]; rfl
theorem classify_CheckFree_e (s : S_Scene) (b : List S_Interval) (ns : List V3) (hbl : b.length < 4294967296) : (classify_CheckFree_C s b ns).o = some (freeV s b ns) := by
  have hpl := pairs_len s
  have ep := classify_place_e s b hbl
  show (classify_CheckFree_T s b ns).run NN = _
  have e2 : (classify_holds_C s b ⟨ns⟩).o = some (freeV s b ns) := by
    show (classify_holds_T s b ⟨ns⟩).run NN = _
    simp only [classify_holds_T, T.run, ep, Option.bind_some]
    by_cases h : sceneV s = 0 ∧ boxV s.Robot b = true
    · rw [if_pos h]
      simp only [cond_true]
      have e3 : (separation_holds_C ⟨ns⟩ ⟨s.Shapes, pairsV s, pointsV s b⟩).o = some (decide (ns.length = (pairsV s).length) && noneB (sepK s b ns) (pairsV s).length) := by
        show (separation_holds_T ⟨ns⟩ ⟨s.Shapes, pairsV s, pointsV s b⟩).run NN = _
        simp only [separation_holds_T, T.run]
        by_cases hl : ns.length = (pairsV s).length
        · rw [bif_nne (by omega), decide_eq_true hl, Bool.true_and]
          refine (scanI (fun i => sw (sepK s b ns i) false) ns.length (by omega) (fun j hj => ?_) ?_).trans ?_
          · have hp := pairs_in h.1 (show j < (pairsV s).length by omega)
            have ec : (body_couple_C ⟨s.Shapes, pairsV s, pointsV s b⟩ (j : Int)).o = some ⟨pointsF s b (pA s j), pointsF s b (pB s j), radOf s (pA s j), radOf s (pB s j)⟩ := by
              show (body_couple_T ⟨s.Shapes, pairsV s, pointsV s b⟩ (j : Int)).run NN = _
              simp only [body_couple_T, T.run, Int.toNat_natCast, pointsV_get h.1 h.2, tab_len]
              rw [grd_p ⟨by omega, by omega⟩, grd_p hp.1, grd_p hp.1, grd_p hp.2, grd_p hp.2, tab_get (by omega), tab_get (by omega)]; rfl
            rw [bif_dpos (by omega), grd_p (by omega), wn (by omega), Int.toNat_natCast, ← sw_fin]
            simp only [ec, plane_Separates_e, Option.bind_some]; rfl
          · rw [bif_dneg (by omega)]
          · rw [scan_sw, hl]; cases noneB (sepK s b ns) (pairsV s).length <;> rfl
        · rw [bif_neq (by omega), decide_eq_false hl]; rfl
      simp only [e3, Option.bind_some, freeV, h.2, decide_eq_true h.1, Bool.true_and]
    · rw [if_neg h]
      have : freeV s b ns = false := by
        unfold freeV
        by_cases h1 : sceneV s = 0
        · have h2 : boxV s.Robot b = false := by cases hb : boxV s.Robot b with
            | false => rfl
            | true => exact absurd ⟨h1, hb⟩ h
          rw [h2, Bool.false_and, Bool.and_false]
        · rw [decide_eq_false h1, Bool.false_and]
      rw [this]; rfl
  simp only [classify_CheckFree_T, T.run, e2, Option.bind_some]
def begV (x : S_Piece) : Option (Int × Int) := if (0 ≤ x.Depth ∧ x.Depth ≤ 20) ∧ 0 ≤ x.Index ∧ x.Index < 2 ^ x.Depth.toNat then some (x.Index * 2 ^ (20 - x.Depth.toNat), 2 ^ (20 - x.Depth.toNat)) else none
theorem begV_bd {x : S_Piece} {f n : Int} (h : begV x = some (f, n)) : 0 ≤ f ∧ f < 1048576 ∧ 0 < n ∧ n ≤ 1048576 := by
  unfold begV at h
  split at h
  · rename_i hc
    simp only [Option.some.injEq, Prod.mk.injEq] at h
    obtain ⟨rfl, rfl⟩ := h
    have p1 := two_pow_pos (20 - x.Depth.toNat)
    have p2 := pow20 (show 20 - x.Depth.toNat ≤ 20 by omega)
    refine ⟨Int.mul_nonneg hc.2.1 (by omega), ?_, p1, p2⟩
    have h1 : (x.Index + 1) * 2 ^ (20 - x.Depth.toNat) ≤ 2 ^ x.Depth.toNat * 2 ^ (20 - x.Depth.toNat) := Int.mul_le_mul_of_nonneg_right (by omega) (by omega)
    rw [← Int.pow_add, show x.Depth.toNat + (20 - x.Depth.toNat) = 20 by omega, Int.add_mul, Int.one_mul] at h1
    have e : (2 : Int) ^ 20 = 1048576 := by decide
    omega
  · cases h
def plc (l : List S_Piece) : Nat → Int
  | 0 => 0
  | j + 1 => match begV (l.getD j default) with
    | some (f, n) => f + n
    | none => 0
def badT (l : List S_Piece) (j : Nat) : Bool := match begV (l.getD j default) with
  | some (f, _) => f != plc l j
  | none => true
theorem plc_bd (l : List S_Piece) : ∀ j, 0 ≤ plc l j ∧ plc l j ≤ 2097152
  | 0 => by simp [plc]
  | j + 1 => by
    simp only [plc]
    split
    · rename_i f n h; have := begV_bd h; omega
    · omega
theorem iter_scanF {σ τ R : Type} {f : σ → Option (Step3 σ τ R)} (st : Nat → σ) (g : Nat → Option R) (r : R) :
    ∀ (n i N : Nat), n < N → (∀ j, i ≤ j → j < i + n → f (st j) = match g j with | some r => some (.fin r) | none => some (.next (st (j + 1)))) → f (st (i + n)) = some (.fin r) →
      iter f N (st i) = some (.inr (match scan g n i with | some r' => r' | none => r))
  | 0, i, 0, h, _, _ => by omega
  | 0, i, N + 1, _, _, h => by simp only [Nat.add_zero] at h; simp [iter, h, scan]
  | n + 1, i, 0, h, _, _ => by omega
  | n + 1, i, N + 1, h0, hs, he => by
    have h1 := hs i (by omega) (by omega)
    simp only [scan]
    cases hg : g i with
    | some r => rw [hg] at h1; simp [iter, h1]
    | none =>
      rw [hg] at h1
      simp only [iter, h1]
      exact iter_scanF st g r n (i + 1) N (by omega) (fun j a b => hs j (by omega) (by omega)) (by rw [← he]; congr 2; omega)
theorem loop_scanF {σ τ R : Type} {f : σ → Option (Step3 σ τ R)} {k : τ → Option R} {x : σ} (st : Nat → σ) (g : Nat → Option R) (r : R) (n : Nat) (hx : x = st 0) (hn : n < NN)
    (hs : ∀ j, j < n → f (st j) = match g j with | some r => some (.fin r) | none => some (.next (st (j + 1)))) (he : f (st n) = some (.fin r)) :
    andK (iter f NN x) k = some (match scan g n 0 with | some r' => r' | none => r) := by
  rw [hx, iter_scanF st g r n 0 NN hn (fun j _ h => hs j (by omega)) (by rw [Nat.zero_add]; exact he)]; rfl
def coverV (l : List S_Piece) : Int × Bool :=
  if l.length ≤ 4096 then (match scan (fun j => sw (badT l j) ((j : Int), false)) l.length 0 with | some r => r | none => ((l.length : Int), plc l l.length == 1048576))
  else (match scan (fun j => sw (badT l j) ((j : Int), false)) 4096 0 with | some r => r | none => (4096, false))
theorem tile_step (l : List S_Piece) {j : Nat} (hj : j < 4096) {σ τ R : Type} (r : R) (x : Int → σ) : ∀ y : S_Piece, y = l.getD j default →
    (andC (bif ((j : Int) == 4096) then some (.out true) else bif decide (y.Depth < 0) then some (.out true) else some (.out (decide (y.Depth > 20))) : Option (Step3 Unit Bool (Step3 σ τ R))) fun z1 =>
      bif z1 then some (.fin r) else andC (bif decide (y.Index < 0) then some (.out true) else grd (0 ≤ y.Depth) (some (.out (decide (y.Index ≥ IntKind.i64.wrap (1 * 2 ^ min y.Depth.toNat 64))))) : Option (Step3 Unit Bool (Step3 σ τ R))) fun z2 =>
      bif z2 then some (.fin r) else grd (0 ≤ y.Depth) (bif IntKind.i64.wrap (y.Index * (1048576 : Int).fdiv (2 ^ min y.Depth.toNat 64)) != plc l j then some (.fin r) else some (.next (x (IntKind.i64.wrap (plc l j + (1048576 : Int).fdiv (2 ^ min y.Depth.toNat 64))))))) =
      match sw (badT l j) r with | some r => some (.fin r) | none => some (.next (x (plc l (j + 1)))) := by
  intro y hy
  rw [bif_ne (by omega)]
  unfold badT
  by_cases h1 : y.Depth < 0
  · have : begV (l.getD j default) = none := by rw [← hy]; unfold begV; rw [if_neg (by omega)]
    rw [bif_dpos h1, andC_out, this]; rfl
  · rw [bif_dneg h1, andC_out]
    by_cases h2 : y.Depth > 20
    · have : begV (l.getD j default) = none := by rw [← hy]; unfold begV; rw [if_neg (by omega)]
      rw [bif_dpos h2, this]; rfl
    · rw [bif_dneg h2]
      by_cases h3 : y.Index < 0
      · have : begV (l.getD j default) = none := by rw [← hy]; unfold begV; rw [if_neg (by omega)]
        rw [bif_dpos h3, andC_out, this]; rfl
      · rw [bif_dneg h3, grd_p (by omega), andC_out, Nat.min_eq_left (by omega), w2k (by omega)]
        by_cases h4 : y.Index ≥ 2 ^ y.Depth.toNat
        · have : begV (l.getD j default) = none := by rw [← hy]; unfold begV; rw [if_neg (by omega)]
          rw [bif_dpos h4, this]; rfl
        · have hb : begV (l.getD j default) = some (y.Index * 2 ^ (20 - y.Depth.toNat), 2 ^ (20 - y.Depth.toNat)) := by rw [← hy]; unfold begV; rw [if_pos ⟨⟨by omega, by omega⟩, by omega, by omega⟩]
          have hr := begV_bd hb
          have hq : (1048576 : Int).fdiv (2 ^ y.Depth.toNat) = 2 ^ (20 - y.Depth.toNat) := by
            rw [fdiv_pow]
            have e : (1048576 : Int) = 2 ^ y.Depth.toNat * 2 ^ (20 - y.Depth.toNat) := by
              rw [← Int.pow_add, show y.Depth.toNat + (20 - y.Depth.toNat) = 20 by omega]; decide
            rw [e, Int.mul_ediv_cancel_left _ (by have := two_pow_pos y.Depth.toNat; omega)]
          have hp := plc_bd l j
          rw [bif_dneg h4, grd_p (by omega), hq, w64 (x := y.Index * _) (by omega) (by omega), w64 (x := plc l j + _) (by omega) (by omega)]
          simp only [hb]
          by_cases h : y.Index * 2 ^ (20 - y.Depth.toNat) = plc l j
          · have e1 : (y.Index * 2 ^ (20 - y.Depth.toNat) != plc l j) = false := by simpa using h
            have e2 : plc l (j + 1) = plc l j + 2 ^ (20 - y.Depth.toNat) := by rw [← h]; simp only [plc, hb]
            rw [bif_nne h, e1, e2]; rfl
          · have e1 : (y.Index * 2 ^ (20 - y.Depth.toNat) != plc l j) = true := by simpa using h
            rw [bif_neq h, e1]; rfl
theorem scan_map {R S : Type} {g : Nat → Bool} {r : Nat → R} {f : R → S} : ∀ (n i : Nat), scan (fun j => sw (g j) (f (r j))) n i = (scan (fun j => sw (g j) (r j)) n i).map f
  | 0, _ => rfl
  | n + 1, i => by
    simp only [scan]
    cases g i with
    | true => rfl
    | false => exact scan_map n (i + 1)
def tileV (l : List S_Piece) : Int × Int := bif (coverV l).2 then (0, 0) else ((coverV l).1, 2001)
theorem scan_snd {g : Nat → Bool} {n : Nat} {r : Int × Bool} (h : scan (fun j => sw (g j) ((j : Int), false)) n 0 = some r) : r.2 = false := by
  obtain ⟨j, -, -, h3, -⟩ := scan_some _ _ h
  cases hb : g j with
  | false => rw [hb] at h3; cases h3
  | true => rw [hb] at h3; simp only [sw, cond_true, Option.some.injEq] at h3; rw [← h3]
theorem replay_tiling_e (x : S_edgecheck_replay) : (replay_tiling_C x).o = some (tileV x.pieces) := by
  show (replay_tiling_T x).run NN = _
  generalize hl : x.pieces = l
  simp only [replay_tiling_T, T.run, hl, tileV, coverV]
  have em : ∀ n, scan (fun j => sw (badT l j) ((j : Int), (2001 : Int))) n 0 = (scan (fun j => sw (badT l j) ((j : Int), false)) n 0).map fun r => (r.1, 2001) := fun n => scan_map (r := fun j => ((j : Int), false)) (f := fun r => (r.1, (2001 : Int))) n 0
  by_cases h : l.length ≤ 4096
  · rw [if_pos h]
    refine (loop_scan (fun j => (plc l j, (j : Int))) (fun j => sw (badT l j) ((j : Int), 2001)) (plc l l.length) l.length rfl (show l.length < 4294967296 by omega) (fun j hj => ?_) ?_).trans ?_
    · rw [bif_dpos (by simpa using hj), grd_p ⟨by simp, by simpa using hj⟩]
      simp only [Int.toNat_natCast]
      rw [wn (by omega)]
      exact tile_step l (by omega) ((j : Int), 2001) (fun z => (z, ((j + 1 : Nat) : Int))) _ rfl
    · rw [bif_dneg (by simp)]
    · rw [em]
      cases hs : scan (fun j => sw (badT l j) ((j : Int), false)) l.length 0 with
      | none =>
        simp only [Option.map_none]
        by_cases hp : plc l l.length = 1048576
        · rw [bif_nne hp]; simp only [hp]; rfl
        · have e : (plc l l.length == 1048576) = false := by simpa using hp
          rw [bif_neq hp]; simp only [e]; rfl
      | some r => simp only [Option.map_some, scan_snd hs, cond_false]
  · rw [if_neg h]
    refine (loop_scanF (fun j => (plc l j, (j : Int))) (fun j => sw (badT l j) ((j : Int), 2001)) (4096, 2001) 4096 rfl (show 4096 < 4294967296 by omega) (fun j hj => ?_) ?_).trans ?_
    · rw [bif_dpos (by simp; omega), grd_p ⟨by simp, by simp; omega⟩]
      simp only [Int.toNat_natCast]
      rw [wn (by omega)]
      exact tile_step l (by omega) ((j : Int), 2001) (fun z => (z, ((j + 1 : Nat) : Int))) _ rfl
    · rw [bif_dpos (by simp; omega), grd_p ⟨by simp, by simp; omega⟩]; rfl
    · rw [em]
      cases hs : scan (fun j => sw (badT l j) ((j : Int), false)) 4096 0 with
      | none => rfl
      | some r => simp only [Option.map_some, scan_snd hs, cond_false]
theorem cover_ok {l : List S_Piece} (h : (coverV l).2 = true) : l.length ≤ 4096 ∧ ∀ j, j < l.length → begV (l.getD j default) ≠ none := by
  unfold coverV at h
  split at h
  · rename_i hl
    refine ⟨hl, fun j hj hn => ?_⟩
    split at h
    · rename_i hs; rw [scan_snd hs] at h; cases h
    · rename_i hs
      have := (scan_none _ _).1 hs j (Nat.zero_le _) (by omega)
      have hb : badT l j = true := by unfold badT; rw [hn]
      rw [hb] at this; cases this
  · split at h
    · rename_i hs; rw [scan_snd hs] at h; cases h
    · cases h
theorem inside_small {r : S_Robot} {c : List Int} (h : insideV r c = true) : smallV c = true ∧ c.length = r.Joints.length ∧ r.Joints.length ≤ 10 ∧ robotV r = 0 := by
  simp only [insideV, Bool.and_eq_true, decide_eq_true_eq] at h
  obtain ⟨h1, h2, h3⟩ := h
  refine ⟨noneB_iff.2 fun i hi => ?_, h2, (robotV_ok h1).2.1, h1⟩
  have := noneB_iff.1 h3 i hi
  have jo := robot_joint h1 (show i < r.Joints.length by omega)
  have rb := reach_bd (r.Joints.getD i default).Kind
  have jl := jo.lim
  simp only [outJ, Bool.or_eq_false_iff, decide_eq_false_iff_not] at this
  simp only [big1, Bool.or_eq_false_iff, decide_eq_false_iff_not]
  omega
theorem piece_ok {r : S_Robot} {p q : List Int} (hp : insideV r p = true) (hq : insideV r q = true) {x : S_Piece} (hx : begV x ≠ none) : pieceV p q x.Depth x.Index = (tab (pieceI p q x.Depth.toNat x.Index) p.length, true) := by
  have h1 := inside_small hp
  have h2 := inside_small hq
  unfold begV at hx
  split at hx
  · rename_i hc
    unfold pieceV
    rw [if_pos ⟨motionV_iff.2 ⟨h1.1, h2.1, by omega, by omega, by omega⟩, by omega, by omega⟩]
  · exact absurd rfl hx
theorem piece_len (p q : List Int) (d i : Int) (hp : p.length < 4294967296) : (pieceV p q d i).1.length < 4294967296 := by
  unfold pieceV; split
  · simp only [tab_len]; exact hp
  · simp [nl]
noncomputable def notF (s : S_Scene) (p q : List Int) (l : List S_Piece) (j : Nat) : Bool := !freeV s (pieceV p q (l.getD j default).Depth (l.getD j default).Index).1 (l.getD j default).Normals
noncomputable def checkV (s : S_Scene) (p q : List Int) (l : List S_Piece) : Int × Int :=
  if sceneV s ≠ 0 then (0, 904) else if (insideV s.Robot p && insideV s.Robot q) = false then (0, 1201) else if (coverV l).2 = false then ((coverV l).1, 2001) else
  match scan (fun j => sw (notF s p q l j) ((j : Int), (2002 : Int))) l.length 0 with | some r => r | none => (0, 0)
section
variable (s : S_Scene) (p q : List Int) (l : List S_Piece) (hp : p.length < 4294967296) (hq : q.length < 4294967296)
include hp hq
theorem edgecheck_Check_e : (edgecheck_Check_C s p q l).o = some (checkV s p q l) := by
  show (edgecheck_Check_T s p q l).run NN = _
  have e1 : (replay_valid_C ⟨s, p, q, l⟩).o = some (0, if sceneV s = 0 then 0 else 904) := by
    show (replay_valid_T ⟨s, p, q, l⟩).run NN = _
    simp only [replay_valid_T, T.run, scene_Check_e, Option.bind_some]
    by_cases h : sceneV s = 0
    · rw [bif_nne h, if_pos h]
    · rw [bif_neq h, if_neg h]
  have e2 : (replay_inside_C ⟨s, p, q, l⟩).o = some (0, bif insideV s.Robot p && insideV s.Robot q then 0 else 1201) := by
    show (replay_inside_T ⟨s, p, q, l⟩).run NN = _
    simp only [replay_inside_T, T.run, config_Inside_e, Option.bind_some, bif_out, andC_out]
    cases insideV s.Robot p <;> cases insideV s.Robot q <;> rfl
  simp only [edgecheck_Check_T, T.run, e1, Option.bind_some, checkV]
  rw [grd_p (by decide), grd_p (by decide), grd_p (by decide), grd_p (by decide)]
  by_cases h : sceneV s = 0
  · rw [if_pos h, if_neg (by simpa using h), bif_nne rfl, e2, Option.bind_some]
    cases hi : insideV s.Robot p && insideV s.Robot q
    · rfl
    · simp only [cond_true, Bool.true_eq_false, if_false, replay_tiling_e, Option.bind_some, tileV]
      rw [bif_nne rfl]
      cases hc : (coverV l).2
      · rfl
      · have hl := cover_ok hc
        simp only [Bool.and_eq_true] at hi
        simp only [cond_true, Bool.true_eq_false, if_false]
        rw [bif_nne rfl]
        have e3 : (replay_separated_C ⟨s, p, q, l⟩).o = some (match scan (fun j => sw (notF s p q l j) ((j : Int), (2002 : Int))) l.length 0 with | some r => r | none => (0, 0)) := by
          show (replay_separated_T ⟨s, p, q, l⟩).run NN = _
          simp only [replay_separated_T, T.run]
          refine (scanI (fun j => sw (notF s p q l j) ((j : Int), (2002 : Int))) l.length (by omega) (fun j hj => ?_) ?_).trans ?_
          · have ho := piece_ok hi.1 hi.2 (hl.2 j hj)
            rw [bif_dpos (by omega), grd_p (by omega), wn (by omega), Int.toNat_natCast, ← sw_fin]
            simp only [config_Piece_e p q _ _ hp hq, Option.bind_some]
            have ho2 : (pieceV p q (l.getD j default).Depth (l.getD j default).Index).2 = true := by rw [ho]
            rw [ho2]
            simp only [Bool.not_true, cond_false, classify_CheckFree_e s _ _ (piece_len p q _ _ hp), Option.bind_some, andC_out]; rfl
          · rw [bif_dneg (by omega)]
          · cases scan (fun j => sw (notF s p q l j) ((j : Int), (2002 : Int))) l.length 0 <;> rfl
        simp only [e3, Option.bind_some]
        cases hs : scan (fun j => sw (notF s p q l j) ((j : Int), (2002 : Int))) l.length 0 with
        | none => rfl
        | some r =>
          obtain ⟨j, -, -, h3, -⟩ := scan_some _ _ hs
          cases hb : notF s p q l j with
          | false => rw [hb] at h3; cases h3
          | true => rw [hb] at h3; simp only [sw, cond_true, Option.some.injEq] at h3; rw [← h3]; rfl
  · rw [if_neg h, if_pos h]; rfl
end
theorem checkV_ok {s : S_Scene} {p q : List Int} {l : List S_Piece} (h : (checkV s p q l).2 = 0) : sceneV s = 0 ∧ insideV s.Robot p = true ∧ insideV s.Robot q = true ∧ l.length ≤ 4096 := by
  unfold checkV at h
  split at h
  · cases h
  · rename_i h1
    split at h
    · cases h
    · rename_i h2
      split at h
      · cases h
      · rename_i h3
        simp only [Bool.not_eq_false, Bool.and_eq_true] at h2 h3
        exact ⟨by simpa using h1, h2.1, h2.2, (cover_ok h3).1⟩
section
variable (J : S_Piece → S_Piece → Option S_Piece)
def pushR : List S_Piece → S_Piece → List S_Piece
  | [], x => [x]
  | a :: rs, x => match J a x with
    | some w => pushR rs w
    | none => x :: a :: rs
def mergeL (l : List S_Piece) : List S_Piece := (l.foldl (pushR J) []).reverse
end
section
variable {J : S_Piece → S_Piece → Option S_Piece}
theorem getD_lt {α : Type} [Inhabited α] {l : List α} {i : Nat} (h : i < l.length) : l.getD i default = l[i] := by
  rw [List.getD_eq_getElem?_getD, List.getElem?_eq_getElem h]; rfl
end
noncomputable def joinV (s : S_Scene) (p q : List Int) (a b : S_Piece) : Option S_Piece :=
  if a.Depth ≠ b.Depth ∨ a.Depth ≤ 0 ∨ a.Index.tmod 2 ≠ 0 ∨ b.Index ≠ IntKind.i64.wrap (a.Index + 1) then none else
  if (pieceV p q (IntKind.i64.wrap (a.Depth - 1)) (IntKind.i64.wrap (a.Index.tdiv 2))).2 = false then none else
  if freeV s (pieceV p q (IntKind.i64.wrap (a.Depth - 1)) (IntKind.i64.wrap (a.Index.tdiv 2))).1 a.Normals then some ⟨IntKind.i64.wrap (a.Depth - 1), IntKind.i64.wrap (a.Index.tdiv 2), a.Normals⟩ else
  if freeV s (pieceV p q (IntKind.i64.wrap (a.Depth - 1)) (IntKind.i64.wrap (a.Index.tdiv 2))).1 b.Normals then some ⟨IntKind.i64.wrap (a.Depth - 1), IntKind.i64.wrap (a.Index.tdiv 2), b.Normals⟩ else none
section
variable (s : S_Scene) {p q : List Int} (hp : p.length < 4294967296) (hq : q.length < 4294967296) (a b : S_Piece)
include hp hq
theorem compact_join_e : (compact_join_C s p q a b).o = some (match joinV s p q a b with | some x => (x, true) | none => (⟨0, 0, nl⟩, false)) := by
  show (compact_join_T s p q a b).run NN = _
  simp only [compact_join_T, T.run, joinV, config_Piece_e p q _ _ hp hq, classify_CheckFree_e s _ _ (piece_len p q _ _ hp), Option.bind_some]
  by_cases h1 : a.Depth = b.Depth
  · rw [bif_nne h1]
    by_cases h2 : a.Depth ≤ 0
    · rw [bif_dpos h2, andC_out, if_pos (Or.inr (Or.inl h2))]; rfl
    · rw [bif_dneg h2]
      by_cases h3 : a.Index.tmod 2 = 0
      · rw [bif_nne h3, andC_out]
        by_cases h4 : b.Index = IntKind.i64.wrap (a.Index + 1)
        · rw [bif_nne h4, if_neg (fun h => by rcases h with h | h | h | h; · exact h h1
                                              · exact h2 h
                                              · exact h h3
                                              · exact h h4)]
          generalize pieceV p q (IntKind.i64.wrap (a.Depth - 1)) (IntKind.i64.wrap (a.Index.tdiv 2)) = B
          cases hB : B.2
          · rfl
          · simp only [Bool.not_true, cond_false, Bool.true_eq_false, if_false]
            refine (scanI (fun i => sw (freeV s B.1 (([a, b] : List S_Piece).getD i default).Normals) ((⟨IntKind.i64.wrap (a.Depth - 1), IntKind.i64.wrap (a.Index.tdiv 2), (([a, b] : List S_Piece).getD i default).Normals⟩ : S_Piece), true)) 2 (by decide) (fun j hj => ?_) ?_).trans ?_
            · rw [bif_dpos (by simp; omega), grd_p ⟨by omega, by simp; omega⟩, Int.toNat_natCast, grd_p (by simpa using hj), wn (by omega), ← sw_fin]
            · rfl
            · simp only [scan, List.getD_cons_zero, List.getD_cons_succ, sw]
              cases freeV s B.1 a.Normals <;> cases freeV s B.1 b.Normals <;> rfl
        · rw [bif_neq h4, if_pos (Or.inr (Or.inr (Or.inr h4)))]
      · rw [bif_neq h3, andC_out, if_pos (Or.inr (Or.inr (Or.inl h3)))]; rfl
  · rw [bif_neq h1, andC_out, if_pos (Or.inl h1)]; rfl
end
theorem joinV_norm {s : S_Scene} {p q : List Int} {a b w : S_Piece} (h : joinV s p q a b = some w) : w.Normals = a.Normals ∨ w.Normals = b.Normals := by
  unfold joinV at h
  split at h
  · cases h
  · split at h
    · cases h
    · split at h
      · cases h; exact Or.inl rfl
      · split at h
        · cases h; exact Or.inr rfl
        · cases h
theorem clone_vec (l : List V3) (h : l.length < 4294967296) : (slices_Clone_api_Vec_api_Vec_C l).o = some l := by
  show (slices_Clone_api_Vec_api_Vec_T l).run NN = _
  cases l with
  | nil => rfl
  | cons a l =>
    simp only [slices_Clone_api_Vec_api_Vec_T, T.run]
    simp only [List.length_cons] at h
    rw [grd_p (by simp), grd_p ⟨by simp only [List.length_nil, List.length_cons]; omega, by simp only [List.length_nil, List.length_cons, maxLen_eq]; omega⟩]; rfl
theorem clone_piece (l : List S_Piece) (h : l.length < 4294967296) : (slices_Clone_api_Piece_api_Piece_C l).o = some l := by
  show (slices_Clone_api_Piece_api_Piece_T l).run NN = _
  cases l with
  | nil => rfl
  | cons a l =>
    simp only [slices_Clone_api_Piece_api_Piece_T, T.run]
    simp only [List.length_cons] at h
    rw [grd_p (by simp), grd_p ⟨by simp only [List.length_nil, List.length_cons]; omega, by simp only [List.length_nil, List.length_cons, maxLen_eq]; omega⟩]; rfl
theorem set_self {α : Type} [Inhabited α] {l : List α} {i : Nat} (h : i < l.length) : l.set i (l.getD i default) = l := by
  rw [getD_lt h]; exact List.set_getElem_self h
theorem compact_clone_e (l : List S_Piece) (h : l.length < 4294967296) (hn : ∀ x ∈ l, x.Normals.length < 4294967296) : (compact_clone_C l).o = some l := by
  show (compact_clone_T l).run NN = _
  simp only [compact_clone_T, T.run, clone_piece l h, Option.bind_some]
  refine (loop_to (fun j => (l, (j : Int))) l l.length rfl h (fun j hj => ?_) ?_).trans rfl
  · rw [bif_dpos (by simpa using hj), grd_p ⟨by simp, by simpa using hj⟩]
    simp only [Int.toNat_natCast]
    rw [grd_p hj, clone_vec _ (hn _ (getD_mem hj)), Option.bind_some, grd_p ⟨by omega, by omega⟩, grd_p ⟨hj, by omega⟩, wn (by omega)]
    exact congrArg (fun x => some (Step3.next (x, ((j + 1 : Nat) : Int)))) (set_self hj)
  · rw [bif_dneg (by simp)]
noncomputable def mergeV (s : S_Scene) (p q : List Int) (l : List S_Piece) : List S_Piece := if (checkV s p q l).2 ≠ 0 then l else mergeL (joinV s p q) l
section
variable (s : S_Scene) {p q : List Int} (hp : p.length < 4294967296) (hq : q.length < 4294967296) (l : List S_Piece)
include hp hq
theorem compact_Merge_e (hl : l.length < 4294967296) (hn : ∀ x ∈ l, x.Normals.length < 4294967296) : (compact_Merge_C s p q l).o = some (mergeV s p q l) := by
  show (compact_Merge_T s p q l).run NN = _
  simp only [compact_Merge_T, T.run, edgecheck_Check_e s p q l hp hq, Option.bind_some, mergeV]
  by_cases h : (checkV s p q l).2 = 0
  · have hl := (checkV_ok h).2.2.2
    rw [bif_nne h, if_neg (by simpa using h)]
    let F : Nat → List S_Piece := fun j => ((l.take j).foldl (pushR (joinV s p q)) []).reverse
    have push_ok : ∀ (rs : List S_Piece) (x : S_Piece), (∀ y ∈ rs, y.Normals.length < 4294967296) → x.Normals.length < 4294967296 → (∀ y ∈ pushR (joinV s p q) rs x, y.Normals.length < 4294967296) ∧ (pushR (joinV s p q) rs x).length ≤ rs.length + 1 := by
      intro rs
      induction rs with
      | nil => intro x _ hx; simp only [pushR, List.mem_singleton]; exact ⟨fun y hy => by subst hy; exact hx, by simp⟩
      | cons a rs ih =>
        intro x hr hx
        simp only [pushR]
        split
        · rename_i w hw
          have hw' : w.Normals.length < 4294967296 := by
            rcases joinV_norm hw with e | e
            · rw [e]; exact hr a (by simp)
            · rw [e]; exact hx
          have := ih w (fun y hy => hr y (by simp [hy])) hw'
          exact ⟨this.1, by have := this.2; simp only [List.length_cons]; omega⟩
        · refine ⟨fun y hy => ?_, by simp⟩
          rcases List.mem_cons.1 hy with rfl | hy
          · exact hx
          · exact hr y hy
    have F_ok : ∀ j, j ≤ l.length → (∀ y ∈ F j, y.Normals.length < 4294967296) ∧ (F j).length ≤ j := by
      intro j
      induction j with
      | zero => intro _; simp [F]
      | succ j ih =>
        intro hj
        have := ih (by omega)
        have hx : (l.getD j default).Normals.length < 4294967296 := hn _ (getD_mem (by omega))
        have e : F (j + 1) = (pushR (joinV s p q) (F j).reverse (l.getD j default)).reverse := by
          simp only [F]; rw [take_snoc (by omega), List.foldl_append, List.reverse_reverse]; rfl
        have h2 := push_ok (F j).reverse (l.getD j default) (fun y hy => this.1 y (by simpa using hy)) hx
        rw [e]
        refine ⟨fun y hy => h2.1 y (by simpa using hy), ?_⟩
        have := h2.2; simp only [List.length_reverse] at this ⊢; omega
    refine (loop_to (fun j => (F j, (j : Int))) (F l.length) l.length rfl (show l.length < 4294967296 by omega) (fun j hj => ?_) ?_).trans ?_
    · have hf := F_ok j (by omega)
      rw [bif_dpos (by simpa using hj), grd_p ⟨by simp, by simpa using hj⟩]
      simp only [Int.toNat_natCast]
      rw [wn (by omega)]
      generalize hx0 : l.getD j default = x0
      have hx : x0.Normals.length < 4294967296 := by rw [← hx0]; exact hn _ (getD_mem (by omega))
      have e : F (j + 1) = (pushR (joinV s p q) (F j).reverse x0).reverse := by
        simp only [F]; rw [take_snoc (by omega), List.foldl_append, List.reverse_reverse, hx0]; rfl
      rw [e]
      have inner : ∀ (n N : Nat) (rs : List S_Piece) (x : S_Piece), rs.length = n → n < N → n ≤ 4096 → ∃ y : List S_Piece × Int × Int × List V3, iter (fun (x231 : List S_Piece × Int × Int × List V3) =>
          (bif decide (((x231.1.length : Nat) : Int) > 0) then
            grd (0 ≤ (IntKind.i64.wrap (((x231.1.length : Nat) : Int) - 1)) ∧ (IntKind.i64.wrap (((x231.1.length : Nat) : Int) - 1)) < ((x231.1.length : Nat) : Int))
            (grd (((IntKind.i64.wrap (((x231.1.length : Nat) : Int) - 1))).toNat < x231.1.length)
            ((compact_join_C s p q (x231.1.getD (((IntKind.i64.wrap (((x231.1.length : Nat) : Int) - 1))).toNat) default) (⟨x231.2.1, x231.2.2.1, x231.2.2.2⟩ : S_Piece)).o.bind fun y236 =>
             bif !y236.2 then some (.out (x231.1, x231.2.1, x231.2.2.1, x231.2.2.2)) else
              grd (0 ≤ (IntKind.i64.wrap (((x231.1.length : Nat) : Int) - 1)) ∧ (IntKind.i64.wrap (((x231.1.length : Nat) : Int) - 1)) ≤ ((x231.1.length : Nat) : Int) ∧ 0 ≤ ((IntKind.i64.wrap (((x231.1.length : Nat) : Int) - 1))).toNat)
              (some (.next ((x231.1.take (((IntKind.i64.wrap (((x231.1.length : Nat) : Int) - 1))).toNat)), y236.1.Depth, y236.1.Index, y236.1.Normals)))))
           else some (.out (x231.1, x231.2.1, x231.2.2.1, x231.2.2.2)) : Option (Step3 (List S_Piece × Int × Int × List V3) (List S_Piece × Int × Int × List V3) (Step3 (List S_Piece × Int) (List S_Piece) (List S_Piece))))) N (rs.reverse, x.Depth, x.Index, x.Normals) = some (.inl y) ∧
          y.1 ++ [(⟨y.2.1, y.2.2.1, y.2.2.2⟩ : S_Piece)] = (pushR (joinV s p q) rs x).reverse ∧ y.1.length ≤ n := by
        intro n
        induction n with
        | zero =>
          intro N rs x hr hN _
          obtain rfl := List.eq_nil_of_length_eq_zero hr
          obtain ⟨M, rfl⟩ : ∃ M, N = M + 1 := ⟨N - 1, by omega⟩
          exact ⟨([], x.Depth, x.Index, x.Normals), by simp [iter], by simp [pushR], by simp⟩
        | succ n ih =>
          intro N rs x hr hN hn4
          obtain ⟨M, rfl⟩ : ∃ M, N = M + 1 := ⟨N - 1, by omega⟩
          obtain ⟨a, rs', rfl⟩ : ∃ a rs', rs = a :: rs' := by cases rs with
            | nil => simp at hr
            | cons a rs' => exact ⟨a, rs', rfl⟩
          have hr' : rs'.length = n := by simpa using hr
          have hlen : ((a :: rs').reverse).length = n + 1 := by simp [hr']
          have hw : IntKind.i64.wrap (((n + 1 : Nat) : Int) - 1) = (n : Int) := by rw [w64 (by omega) (by omega)]; omega
          have hget : ((a :: rs').reverse).getD n default = a := by
            rw [List.reverse_cons, List.getD_eq_getElem?_getD, List.getElem?_append_right (by simp [hr'])]; simp [hr']
          have htake : ((a :: rs').reverse).take n = rs'.reverse := by rw [List.reverse_cons, List.take_left' (by simp [hr'])]
          simp only [iter]
          rw [hlen, hw, bif_dpos (by omega), grd_p ⟨by omega, by omega⟩, Int.toNat_natCast, grd_p (by omega), hget, htake, compact_join_e s hp hq, Option.bind_some]
          simp only [pushR]
          cases hJ : joinV s p q a x with
          | none => exact ⟨_, rfl, by simp, by simp [hr']⟩
          | some w =>
            simp only [Bool.not_true, cond_false]
            rw [grd_p ⟨by omega, by omega, by omega⟩]
            obtain ⟨y, y1, y2, y3⟩ := ih M rs' w hr' (by omega) (by omega)
            exact ⟨y, y1, y2, by omega⟩
      obtain ⟨y, y1, y2, y3⟩ := inner (F j).reverse.length NN (F j).reverse x0 rfl (show (F j).reverse.length < 4294967296 by simp only [List.length_reverse]; omega) (by simp only [List.length_reverse]; omega)
      rw [List.reverse_reverse] at y1
      simp only [List.length_reverse] at y3
      refine (andK_inl y1).trans ?_
      rw [grd_p ⟨by simp only [List.length_singleton]; omega, by simp only [List.length_singleton, maxLen_eq]; omega⟩, y2]
    · rw [bif_dneg (by simp)]
    · have hf := F_ok l.length (Nat.le_refl _)
      show (compact_clone_C (F l.length)).o.bind _ = _
      rw [compact_clone_e _ (by omega) hf.1]
      simp only [F, List.take_length]; rfl
  · rw [bif_neq h, if_pos h, compact_clone_e l hl hn]; rfl
end
def cenF (l : List IV3) (i : Nat) : V3 := (midV (l.getD i default).1, midV (l.getD i default).2.1, midV (l.getD i default).2.2)
def cenV (l : List IV3) : List V3 := if placedV l then tab (cenF l) l.length else nl
theorem loop_cnt {σ τ R β : Type} {f : σ → Option (Step3 σ τ R)} {k : τ → Option R} {g : β → R} {P : β → Prop} {x : σ} (n : Nat) (hn : n < 4294967296) (I : Nat → σ → Prop) (Q : τ → Prop) (h0 : I 0 x)
    (hs : ∀ j y, j < n → I j y → ∃ y', f y = some (.next y') ∧ I (j + 1) y') (he : ∀ y, I n y → ∃ z, f y = some (.out z) ∧ Q z) (hk : ∀ z, Q z → ∃ b, k z = some (g b) ∧ P b) : ∃ b, andK (iter f NN x) k = some (g b) ∧ P b := by
  have key : ∀ (m j N : Nat) (y : σ), j + m = n → m < N → I j y → ∃ z, iter f N y = some (.inl z) ∧ Q z := by
    intro m
    induction m with
    | zero =>
      intro j N y hj hN hI
      obtain ⟨M, rfl⟩ : ∃ M, N = M + 1 := ⟨N - 1, by omega⟩
      obtain rfl : j = n := by omega
      obtain ⟨z, h1, h2⟩ := he y hI
      exact ⟨z, by simp [iter, h1], h2⟩
    | succ m ih =>
      intro j N y hj hN hI
      obtain ⟨M, rfl⟩ : ∃ M, N = M + 1 := ⟨N - 1, by omega⟩
      obtain ⟨y', h1, h2⟩ := hs j y (by omega) hI
      simp only [iter, h1]
      exact ih (j + 1) M y' (by omega) (by omega) h2
  obtain ⟨z, h1, h2⟩ := key n 0 NN x (by omega) hn h0
  obtain ⟨b, h3, h4⟩ := hk z h2
  exact ⟨b, by rw [h1]; exact h3, h4⟩
theorem InR.max {a b : Int} (ha : InR a) (hb : InR b) : InR (max a b) := by
  obtain ⟨h1, h2⟩ := ha; obtain ⟨h3, h4⟩ := hb; exact ⟨by omega, by omega⟩
theorem ref14_size_e (a : Int) : (ref14_size_C a).o = some (max a (IntKind.i64.wrap (0 - a))) := rfl
theorem loop_mf {σ τ R : Type} {f : σ → Option (Step3 σ τ R)} {k : τ → Option R} {P : R → Prop} {x : σ} (I : Nat → σ → Prop) (Q : τ → Prop) (m : Nat) (h0 : I m x) (hN : m < 4294967296)
    (hr : ∀ m x, I m x → (∃ x' m', f x = some (.next x') ∧ m' < m ∧ I m' x') ∨ (∃ y, f x = some (.out y) ∧ Q y) ∨ ∃ r, f x = some (.fin r) ∧ P r) (hk : ∀ y, Q y → ∃ r, k y = some r ∧ P r) : ∃ r, andK (iter f NN x) k = some r ∧ P r := by
  have go : ∀ (N m : Nat) (x : σ), I m x → m < N → (∃ y, iter f N x = some (.inl y) ∧ Q y) ∨ ∃ r, iter f N x = some (.inr r) ∧ P r := by
    intro N
    induction N with
    | zero => intro m x _ h; omega
    | succ N ih =>
      intro m x hi h
      rcases hr m x hi with ⟨x', m', h1, h2, h3⟩ | ⟨y, h1, h2⟩ | ⟨r, h1, h2⟩
      · simp only [iter, h1]; exact ih m' x' h3 (by omega)
      · exact .inl ⟨y, by simp [iter, h1], h2⟩
      · exact .inr ⟨r, by simp [iter, h1], h2⟩
  rcases go NN m x h0 hN with ⟨y, e1, e2⟩ | ⟨r, e1, e2⟩
  · rw [andK_inl e1]; exact hk y e2
  · rw [andK_inr e1]; exact ⟨r, rfl, e2⟩
theorem make_Round_e {x k : Int} (hk : 0 < k) (hk2 : k ≤ 4611686018427387904) : (make_Round_C x k).o = some (x % k) := by
  show (make_Round_T x k).run NN = _
  have h2 := Int.tmod_lt_of_pos x hk
  have h3 := Int.lt_tmod_of_pos x hk
  have h1 := Int.mul_tdiv_add_tmod x k
  have e := Int.emod_add_mul_ediv x k
  have e2 := Int.emod_nonneg x (show k ≠ 0 by omega)
  have e3 := Int.emod_lt_of_pos x hk
  simp only [make_Round_T, T.run]
  rw [grd_p (by omega)]
  by_cases h : x.tmod k < 0
  · rw [bif_dpos h, andC_out, w64 (by omega) (by omega)]
    congr 1
    have : x % k = x.tmod k + k := by
      have := div_unique (a := x) (b := k) (q := x.tdiv k - 1) (r := x.tmod k + k) (by omega) (by omega) (by rw [Int.mul_sub]; omega)
      rw [this, Int.mul_sub] at e; omega
    omega
  · rw [bif_dneg h, andC_out]
    congr 1
    have := div_unique (a := x) (b := k) (q := x.tdiv k) (r := x.tmod k) (by omega) (by omega) (by omega)
    rw [this] at e; omega
section
variable {l : List Int} (hl : l.length < 4294967296) {n : Int} (h0 : 0 ≤ n) (h1 : n ≤ (l.length : Int))
include hl h0 h1
theorem Source_Next_x {k : Int} (hk : 0 < k) (hk2 : k ≤ 4611686018427387904) : ∃ r n', (Source_Next_C l n k).o = some (r, l, n') ∧ 0 ≤ r ∧ r < k ∧ 0 ≤ n' ∧ n' ≤ (l.length : Int) := by
  have e0 : (Source_Next_C l n k).o = (Source_Next_T l n k).run NN := rfl
  rw [e0]
  simp only [Source_Next_T, T.run]
  by_cases h : n ≥ (l.length : Int)
  · rw [bif_dpos h]; exact ⟨_, _, rfl, by omega, by omega, h0, h1⟩
  · rw [bif_dneg h, w64 (x := n + 1) (by omega) (by omega), w64 (by omega) (by omega), grd_p ⟨by omega, by omega⟩, make_Round_e hk hk2, Option.bind_some]
    exact ⟨_, _, rfl, Int.emod_nonneg _ (by omega), Int.emod_lt_of_pos _ hk, by omega, by omega⟩
theorem Source_Signed_x {k : Int} (hk : 0 ≤ k) (hk2 : k ≤ 1000000) : ∃ r n', (Source_Signed_C l n k).o = some (r, l, n') ∧ -k ≤ r ∧ r ≤ k ∧ 0 ≤ n' ∧ n' ≤ (l.length : Int) := by
  have e0 : (Source_Signed_C l n k).o = (Source_Signed_T l n k).run NN := rfl
  rw [e0]
  simp only [Source_Signed_T, T.run]
  rw [w64 (x := 2 * k) (by omega) (by omega), w64 (x := 2 * k + 1) (by omega) (by omega)]
  obtain ⟨r, n', e1, e2, e3, e4, e5⟩ := Source_Next_x hl h0 h1 (k := 2 * k + 1) (by omega) (by omega)
  rw [e1, Option.bind_some, w64 (by omega) (by omega)]
  exact ⟨_, _, rfl, by omega, by omega, e4, e5⟩
def JB (j : S_Joint) : Prop := -1048576 ≤ j.Lo ∧ j.Lo ≤ j.Hi ∧ j.Hi ≤ 1048576
theorem make_joint_x {i : Int} (i0 : 0 ≤ i) (i1 : i ≤ 2) : ∃ j n', (make_joint_C l n i).o = some (j, l, n') ∧ JB j ∧ 0 ≤ n' ∧ n' ≤ (l.length : Int) := by
  have e0 : (make_joint_C l n i).o = (make_joint_T l n i).run NN := rfl
  rw [e0]
  simp only [make_joint_T, T.run]
  have el : ∃ b, (make_letter_C i).o = some b := by
    have e1 : (make_letter_C i).o = (make_letter_T i).run NN := rfl
    rw [e1]
    simp only [make_letter_T, T.run]
    rw [w64 (x := i + 1) (by omega) (by omega), grd_p ⟨by omega, by omega, by rw [show ((⟨#[97, 98, 99, 100, 101, 102, 103, 104, 105, 106]⟩ : ByteArray).size) = 10 from rfl]; omega⟩]
    exact ⟨_, rfl⟩
  obtain ⟨nm, el⟩ := el
  obtain ⟨r1, n1, e1, a1, b1, c1, d1⟩ := Source_Next_x hl h0 h1 (k := 4) (by decide) (by decide)
  obtain ⟨r2, n2, e2, a2, b2, c2, d2⟩ := Source_Next_x hl c1 d1 (k := 3) (by decide) (by decide)
  obtain ⟨r3, n3, e3, a3, b3, c3, d3⟩ := Source_Next_x hl c2 d2 (k := 8) (by decide) (by decide)
  obtain ⟨r4, n4, e4, a4, b4, c4, d4⟩ := Source_Next_x hl c3 d3 (k := 4) (by decide) (by decide)
  rw [el, Option.bind_some, e1, Option.bind_some, e2, Option.bind_some, e3, Option.bind_some, grd_p ⟨by simp only; omega, by simp only; omega⟩, e4, Option.bind_some]
  generalize hK : ([3, 3, 1, 2, 4, 5, 3, 0] : List Int).getD r3.toNat 0 = K
  have rest : ∀ (m pr : Int), 0 ≤ m → m ≤ (l.length : Int) → ∃ j n', (andC (bif decide (i > 0) then (Source_Signed_C l m 2).o.bind fun y21 => (Source_Signed_C y21.2.1 y21.2.2 1).o.bind fun y22 => some (.out (y22.2.1, y22.2.2, 131072, IntKind.i64.wrap (y21.1 * 32768), IntKind.i64.wrap (y22.1 * 32768))) else some (.out (l, m, 0, 0, 0)) : Option (Step3 Unit (List Int × Int × Int × Int × Int) (S_Joint × List Int × Int))) fun y20 =>
      andC (bif K == 0 then some (.out (y20.1, y20.2.1, 0, 0)) else andC (bif K == 4 then some (.out (K == 4)) else some (.out (K == 5)) : Option (Step3 Unit Bool (Step3 Unit (List Int × Int × Int × Int) (S_Joint × List Int × Int)))) fun y36 =>
        bif y36 then (Source_Next_C y20.1 y20.2.1 3).o.bind fun y37 => (Source_Next_C y37.2.1 y37.2.2 4).o.bind fun y38 => some (.out (y38.2.1, y38.2.2, IntKind.i64.wrap (IntKind.i64.wrap (0 - y37.1) * 65536), IntKind.i64.wrap (y38.1 * 32768)))
        else (Source_Next_C y20.1 y20.2.1 5).o.bind fun y39 => (Source_Next_C y39.2.1 y39.2.2 4).o.bind fun y40 => (Source_Next_C y40.2.1 y40.2.2 3).o.bind fun y41 =>
          some (.out (y41.2.1, y41.2.2, IntKind.i64.wrap ((IntKind.i64.wrap (IntKind.i64.wrap (0 - y39.1) * 65536)).tdiv 8), IntKind.i64.wrap (IntKind.i64.wrap ((IntKind.i64.wrap (IntKind.i64.wrap (1 + y40.1) * 65536)).tdiv 8) + y41.1))) : Option (Step3 Unit (List Int × Int × Int × Int) (S_Joint × List Int × Int))) fun y35 =>
      some ((⟨nm, K, pr, (y20.2.2.1, y20.2.2.2.1, y20.2.2.2.2), y35.2.2.1, y35.2.2.2, IntKind.i64.wrap (1 + r1), 65536, IntKind.i64.wrap (65536 + r2), 327680⟩ : S_Joint), y35.1, y35.2.1)) = some (j, l, n') ∧ JB j ∧ 0 ≤ n' ∧ n' ≤ (l.length : Int) := by
    intro m pr m0 m1
    have lim : ∀ (m : Int) (o1 o2 o3 : Int), 0 ≤ m → m ≤ (l.length : Int) → ∃ j n', (andC (bif K == 0 then some (.out (l, m, 0, 0)) else andC (bif K == 4 then some (.out (K == 4)) else some (.out (K == 5)) : Option (Step3 Unit Bool (Step3 Unit (List Int × Int × Int × Int) (S_Joint × List Int × Int)))) fun y36 =>
        bif y36 then (Source_Next_C l m 3).o.bind fun y37 => (Source_Next_C y37.2.1 y37.2.2 4).o.bind fun y38 => some (.out (y38.2.1, y38.2.2, IntKind.i64.wrap (IntKind.i64.wrap (0 - y37.1) * 65536), IntKind.i64.wrap (y38.1 * 32768)))
        else (Source_Next_C l m 5).o.bind fun y39 => (Source_Next_C y39.2.1 y39.2.2 4).o.bind fun y40 => (Source_Next_C y40.2.1 y40.2.2 3).o.bind fun y41 =>
          some (.out (y41.2.1, y41.2.2, IntKind.i64.wrap ((IntKind.i64.wrap (IntKind.i64.wrap (0 - y39.1) * 65536)).tdiv 8), IntKind.i64.wrap (IntKind.i64.wrap ((IntKind.i64.wrap (IntKind.i64.wrap (1 + y40.1) * 65536)).tdiv 8) + y41.1))) : Option (Step3 Unit (List Int × Int × Int × Int) (S_Joint × List Int × Int))) fun y35 =>
      some ((⟨nm, K, pr, (o1, o2, o3), y35.2.2.1, y35.2.2.2, IntKind.i64.wrap (1 + r1), 65536, IntKind.i64.wrap (65536 + r2), 327680⟩ : S_Joint), y35.1, y35.2.1)) = some (j, l, n') ∧ JB j ∧ 0 ≤ n' ∧ n' ≤ (l.length : Int) := by
      intro m o1 o2 o3 m0 m1
      cases K == 0
      · simp only [cond_false, bif_out, andC_out]
        cases (bif K == 4 then K == 4 else K == 5)
        · obtain ⟨s1, n1, e1, a1, b1, c1, d1⟩ := Source_Next_x hl m0 m1 (k := 5) (by decide) (by decide)
          obtain ⟨s2, n2, e2, a2, b2, c2, d2⟩ := Source_Next_x hl c1 d1 (k := 4) (by decide) (by decide)
          obtain ⟨s3, n3, e3, a3, b3, c3, d3⟩ := Source_Next_x hl c2 d2 (k := 3) (by decide) (by decide)
          simp only [cond_false]
          rw [e1, Option.bind_some, e2, Option.bind_some, e3, Option.bind_some, andC_out]
          refine ⟨_, _, rfl, ?_, c3, d3⟩
          simp only [JB]
          rw [w64 (x := 0 - s1) (by omega) (by omega), w64 (x := (0 - s1) * 65536) (by omega) (by omega), w64 (x := 1 + s2) (by omega) (by omega), w64 (x := (1 + s2) * 65536) (by omega) (by omega), tdiv_pos (a := (1 + s2) * 65536) (by omega),
            show (0 - s1) * 65536 = -(s1 * 65536) by omega, tdiv_negl, tdiv_pos (by omega), w64 (x := -(s1 * 65536 / 8)) (by omega) (by omega), w64 (x := (1 + s2) * 65536 / 8) (by omega) (by omega), w64 (x := (1 + s2) * 65536 / 8 + s3) (by omega) (by omega)]
          omega
        · obtain ⟨s1, n1, e1, a1, b1, c1, d1⟩ := Source_Next_x hl m0 m1 (k := 3) (by decide) (by decide)
          obtain ⟨s2, n2, e2, a2, b2, c2, d2⟩ := Source_Next_x hl c1 d1 (k := 4) (by decide) (by decide)
          simp only [cond_true]
          rw [e1, Option.bind_some, e2, Option.bind_some, andC_out]
          refine ⟨_, _, rfl, ?_, c2, d2⟩
          simp only [JB]
          rw [w64 (x := 0 - s1) (by omega) (by omega), w64 (x := (0 - s1) * 65536) (by omega) (by omega), w64 (x := s2 * 32768) (by omega) (by omega)]
          omega
      · exact ⟨_, _, rfl, by simp only [JB]; omega, m0, m1⟩
    cases decide (i > 0)
    · simp only [cond_false, andC_out]; exact lim m 0 0 0 m0 m1
    · obtain ⟨s1, n1, e1, a1, b1, c1, d1⟩ := Source_Signed_x hl m0 m1 (k := 2) (by decide) (by decide)
      obtain ⟨s2, n2, e2, a2, b2, c2, d2⟩ := Source_Signed_x hl c1 d1 (k := 1) (by decide) (by decide)
      simp only [cond_true]
      rw [e1, Option.bind_some, e2, Option.bind_some, andC_out]
      exact lim n2 _ _ _ c2 d2
  cases r4 == 1
  · exact rest n4 _ c4 d4
  · exact rest n4 _ c4 d4
theorem make_robot_y : ∃ b : S_Robot × List Int × Int, (make_robot_C l n).o = some b ∧ b.2.1 = l ∧ (1 ≤ b.1.Joints.length ∧ b.1.Joints.length ≤ 3 ∧ ∀ j ∈ b.1.Joints, JB j) ∧ 0 ≤ b.2.2 ∧ b.2.2 ≤ (l.length : Int) := by
  have e0 : (make_robot_C l n).o = (make_robot_T l n).run NN := rfl
  rw [e0]
  simp only [make_robot_T, T.run]
  obtain ⟨r1, n1, e1, a1, b1, c1, d1⟩ := Source_Next_x hl h0 h1 (k := 3) (by decide) (by decide)
  rw [e1, Option.bind_some]
  simp only
  rw [w64 (x := 1 + r1) (by omega) (by omega)]
  obtain ⟨R, hR⟩ : ∃ R : Nat, 1 + r1 = (R : Int) := ⟨(1 + r1).toNat, by omega⟩
  rw [hR]
  refine loop_cnt (g := fun b => b) R (by omega) (fun j (y : List Int × Int × List S_Joint × Int) => y.1 = l ∧ 0 ≤ y.2.1 ∧ y.2.1 ≤ (l.length : Int) ∧ y.2.2.1.length = j ∧ (∀ x ∈ y.2.2.1, JB x) ∧ y.2.2.2 = (j : Int))
    (fun (z : List Int × Int × List S_Joint) => z.1 = l ∧ 0 ≤ z.2.1 ∧ z.2.1 ≤ (l.length : Int) ∧ z.2.2.length = R ∧ ∀ x ∈ z.2.2, JB x) ⟨rfl, c1, d1, rfl, by simp [nl], rfl⟩ (fun j y hj hy => ?_) (fun y hy => ?_) (fun z hz => ?_)
  · obtain ⟨f1, f2, f3, f4, f5, f6⟩ := hy
    obtain ⟨jt, n', ej, hj1, hj2, hj3⟩ := make_joint_x hl f2 f3 (i := (j : Int)) (by omega) (by omega)
    rw [f6, f1, bif_dpos (by omega), ej, Option.bind_some]
    simp only
    rw [grd_p ⟨by simp; omega, by simp [maxLen_eq]; omega⟩, wn (by omega)]
    refine ⟨_, rfl, rfl, hj2, hj3, by simp; omega, fun x hx => ?_, rfl⟩
    rcases List.mem_append.1 hx with hx | hx
    · exact f5 x hx
    · rw [List.mem_singleton.1 hx]; exact hj1
  · obtain ⟨f1, f2, f3, f4, f5, f6⟩ := hy
    rw [f6, bif_dneg (by omega)]; exact ⟨_, rfl, f1, f2, f3, f4, f5⟩
  · obtain ⟨f1, f2, f3, f4, f5⟩ := hz
    obtain ⟨r2, n2, e2, a2, b2, c2, d2⟩ := Source_Next_x hl f2 f3 (k := 3) (by decide) (by decide)
    rw [f1, e2, Option.bind_some]
    simp only
    obtain ⟨M, hM⟩ : ∃ M : Nat, r2 = (M : Int) := ⟨r2.toNat, by omega⟩
    rw [hM]
    refine loop_cnt (g := fun b => b) M (by omega) (fun j (y : List Int × Int × List S_Mass × Int) => y.1 = l ∧ 0 ≤ y.2.1 ∧ y.2.1 ≤ (l.length : Int) ∧ y.2.2.1.length = j ∧ y.2.2.2 = (M : Int) - (j : Int))
      (fun (w : List Int × Int × List S_Mass) => w.1 = l ∧ 0 ≤ w.2.1 ∧ w.2.1 ≤ (l.length : Int)) ⟨rfl, c2, d2, rfl, by simp⟩ (fun j y hj hy => ?_) (fun y hy => ?_) (fun w hw => ?_)
    · obtain ⟨g1, g2, g3, g4, g5⟩ := hy
      obtain ⟨s1, m1, q1, u1, v1, w1, x1⟩ := Source_Next_x hl g2 g3 (k := (R : Int)) (by omega) (by omega)
      obtain ⟨s2, m2, q2, u2, v2, w2, x2⟩ := Source_Next_x hl w1 x1 (k := 9000) (by decide) (by decide)
      obtain ⟨s3, m3, q3, u3, v3, w3, x3⟩ := Source_Signed_x hl w2 x2 (k := 3) (by decide) (by decide)
      obtain ⟨s4, m4, q4, u4, v4, w4, x4⟩ := Source_Signed_x hl w3 x3 (k := 2) (by decide) (by decide)
      rw [g5, g1, bif_dpos (by omega), q1, Option.bind_some, q2, Option.bind_some, q3, Option.bind_some, q4, Option.bind_some]
      simp only
      rw [grd_p ⟨by simp; omega, by simp [maxLen_eq]; omega⟩, w64 (x := (M : Int) - (j : Int) - 1) (by omega) (by omega)]
      exact ⟨_, rfl, rfl, w4, x4, by simp; omega, by simp only; omega⟩
    · obtain ⟨g1, g2, g3, g4, g5⟩ := hy
      rw [g5, bif_dneg (by omega)]; exact ⟨_, rfl, g1, g2, g3⟩
    · exact ⟨_, rfl, hw.1, ⟨by simp only; omega, by simp only; omega, f5⟩, hw.2.1, hw.2.2⟩
theorem make_robot_x : ∃ r n', (make_robot_C l n).o = some (r, l, n') ∧ (1 ≤ r.Joints.length ∧ r.Joints.length ≤ 3 ∧ ∀ j ∈ r.Joints, JB j) ∧ 0 ≤ n' ∧ n' ≤ (l.length : Int) := by
  obtain ⟨⟨r, l', n'⟩, g1, g2, g3, g4, g5⟩ := make_robot_y hl h0 h1
  simp only at g2; subst g2
  exact ⟨r, n', g1, g3, g4, g5⟩
theorem make_points_y (c : V3) : ∃ b : List V3 × List Int × Int, (make_points_C l n c).o = some b ∧ b.2.1 = l ∧ 0 ≤ b.2.2 ∧ b.2.2 ≤ (l.length : Int) := by
  have e0 : (make_points_C l n c).o = (make_points_T l n c).run NN := rfl
  rw [e0]
  simp only [make_points_T, T.run, T.ix]
  obtain ⟨r1, n1, e1, a1, b1, c1, d1⟩ := Source_Next_x hl h0 h1 (k := 4) (by decide) (by decide)
  rw [e1, Option.bind_some]
  simp only
  obtain ⟨M, hM⟩ : ∃ M : Nat, r1 = (M : Int) := ⟨r1.toNat, by omega⟩
  rw [hM]
  refine loop_cnt (g := fun b => b) M (by omega) (fun j (y : List Int × Int × List V3 × Int) => y.1 = l ∧ 0 ≤ y.2.1 ∧ y.2.1 ≤ (l.length : Int) ∧ y.2.2.1.length = j + 1 ∧ y.2.2.2 = (M : Int) - (j : Int))
    (fun (w : List Int × Int × List V3) => w.1 = l ∧ 0 ≤ w.2.1 ∧ w.2.1 ≤ (l.length : Int)) ⟨rfl, c1, d1, rfl, by simp⟩ (fun j y hj hy => ?_) (fun y hy => ?_) (fun w hw => ⟨_, rfl, hw⟩)
  · obtain ⟨g1, g2, g3, g4, g5⟩ := hy
    obtain ⟨s1, m1, q1, u1, v1, w1, x1⟩ := Source_Signed_x hl g2 g3 (k := 3) (by decide) (by decide)
    obtain ⟨s2, m2, q2, u2, v2, w2, x2⟩ := Source_Signed_x hl w1 x1 (k := 2) (by decide) (by decide)
    obtain ⟨s3, m3, q3, u3, v3, w3, x3⟩ := Source_Signed_x hl w2 x2 (k := 2) (by decide) (by decide)
    rw [g5, g1, bif_dpos (by omega), q1, Option.bind_some, q2, Option.bind_some, q3, Option.bind_some]
    simp only
    rw [grd_p ⟨by simp; omega, by simp [maxLen_eq]; omega⟩, w64 (x := (M : Int) - (j : Int) - 1) (by omega) (by omega)]
    exact ⟨_, rfl, rfl, w3, x3, by simp; omega, by simp only; omega⟩
  · obtain ⟨g1, g2, g3, g4, g5⟩ := hy
    rw [g5, bif_dneg (by omega)]; exact ⟨_, rfl, g1, g2, g3⟩
theorem make_points_x (c : V3) : ∃ ps n', (make_points_C l n c).o = some (ps, l, n') ∧ 0 ≤ n' ∧ n' ≤ (l.length : Int) := by
  obtain ⟨⟨r, l', n'⟩, g1, g2, g4, g5⟩ := make_points_y hl h0 h1 c
  simp only at g2; subst g2
  exact ⟨r, n', g1, g4, g5⟩
end
theorem make_Scene_x (l : List Int) (hl : l.length < 4294967296) : ∃ s : S_Scene, (make_Scene_C l).o = some s ∧ (1 ≤ s.Robot.Joints.length ∧ s.Robot.Joints.length ≤ 3 ∧ ∀ j ∈ s.Robot.Joints, JB j) := by
  have e0 : (make_Scene_C l).o = (make_Scene_T l).run NN := rfl
  rw [e0]
  simp only [make_Scene_T, T.run]
  have ef : (make_From_C l).o = some (l, 0) := rfl
  rw [ef, Option.bind_some]
  obtain ⟨r, n0, er, hr, m0, m1⟩ := make_robot_x hl (n := 0) (by omega) (by omega)
  rw [er, Option.bind_some]
  simp only
  refine loop_cnt (g := fun b => b) r.Joints.length (by omega) (fun j (y : List Int × Int × List S_Shape × Int) => y.1 = l ∧ 0 ≤ y.2.1 ∧ y.2.1 ≤ (l.length : Int) ∧ y.2.2.1.length ≤ j ∧ y.2.2.2 = (j : Int))
    (fun (w : List Int × Int × List S_Shape) => w.1 = l ∧ 0 ≤ w.2.1 ∧ w.2.1 ≤ (l.length : Int) ∧ w.2.2.length ≤ 3) ⟨rfl, m0, m1, by simp [nl], rfl⟩ (fun j y hj hy => ?_) (fun y hy => ?_) (fun z hz => ?_)
  · obtain ⟨g1, g2, g3, g4, g5⟩ := hy
    obtain ⟨s1, p1, q1, u1, v1, w1, x1⟩ := Source_Next_x hl g2 g3 (k := 5) (by decide) (by decide)
    obtain ⟨s2, p2, q2, u2, v2, w2, x2⟩ := Source_Next_x hl w1 x1 (k := 3) (by decide) (by decide)
    obtain ⟨s3, p3, q3, u3, v3, w3, x3⟩ := Source_Next_x hl w2 x2 (k := 4) (by decide) (by decide)
    obtain ⟨ps, p4, q4, w4, x4⟩ := make_points_x hl w3 x3 (IntKind.i64.wrap (s3 * 32768), 0, 0)
    rw [g5, g1, bif_dpos (by omega), q1, Option.bind_some, wn (by omega)]
    cases decide (s1 < 4)
    · exact ⟨_, rfl, rfl, w1, x1, by simp only; omega, rfl⟩
    · simp only [cond_true]
      rw [q2, Option.bind_some, q3, Option.bind_some, q4, Option.bind_some]
      simp only
      rw [grd_p ⟨by simp; omega, by simp [maxLen_eq]; omega⟩, andC_out]
      exact ⟨_, rfl, rfl, w4, x4, by simp; omega, rfl⟩
  · obtain ⟨g1, g2, g3, g4, g5⟩ := hy
    rw [g5, bif_dneg (by omega)]; exact ⟨_, rfl, g1, g2, g3, by simp only; omega⟩
  · obtain ⟨g1, g2, g3, g4⟩ := hz
    obtain ⟨s1, p1, q1, u1, v1, w1, x1⟩ := Source_Next_x hl g2 g3 (k := 3) (by decide) (by decide)
    rw [g1, q1, Option.bind_some]
    simp only
    rw [w64 (x := 1 + s1) (by omega) (by omega)]
    obtain ⟨M, hM⟩ : ∃ M : Nat, 1 + s1 = (M : Int) := ⟨(1 + s1).toNat, by omega⟩
    rw [hM]
    refine loop_cnt (g := fun b => b) M (by omega) (fun j (y : List Int × Int × List S_Shape × Int) => y.1 = l ∧ 0 ≤ y.2.1 ∧ y.2.1 ≤ (l.length : Int) ∧ y.2.2.1.length ≤ 3 + j ∧ y.2.2.2 = (M : Int) - (j : Int))
      (fun (w : List Int × Int × List S_Shape) => w.1 = l ∧ 0 ≤ w.2.1 ∧ w.2.1 ≤ (l.length : Int)) ⟨rfl, w1, x1, by simp only; omega, by simp⟩ (fun j y hj hy => ?_) (fun y hy => ?_) (fun w hw => ?_)
    · obtain ⟨g1, g2, g3, g4, g5⟩ := hy
      obtain ⟨t1, p1, q1, u1, v1, w1, x1⟩ := Source_Signed_x hl g2 g3 (k := 9) (by decide) (by decide)
      obtain ⟨t2, p2, q2, u2, v2, w2, x2⟩ := Source_Signed_x hl w1 x1 (k := 9) (by decide) (by decide)
      obtain ⟨t3, p3, q3, u3, v3, w3, x3⟩ := Source_Signed_x hl w2 x2 (k := 2) (by decide) (by decide)
      obtain ⟨t4, p4, q4, u4, v4, w4, x4⟩ := Source_Next_x hl w3 x3 (k := 4) (by decide) (by decide)
      obtain ⟨ps, p5, q5, w5, x5⟩ := make_points_x hl w4 x4 (IntKind.i64.wrap (t1 * 32768), IntKind.i64.wrap (t2 * 32768), IntKind.i64.wrap (t3 * 32768))
      rw [g5, g1, bif_dpos (by omega), q1, Option.bind_some, q2, Option.bind_some, q3, Option.bind_some, q4, Option.bind_some, q5, Option.bind_some]
      simp only
      rw [grd_p ⟨by simp; omega, by simp [maxLen_eq]; omega⟩, w64 (x := (M : Int) - (j : Int) - 1) (by omega) (by omega)]
      exact ⟨_, rfl, rfl, w5, x5, by simp; omega, by simp only; omega⟩
    · obtain ⟨g1, g2, g3, g4, g5⟩ := hy
      rw [g5, bif_dneg (by omega)]; exact ⟨_, rfl, g1, g2, g3⟩
    · obtain ⟨g1, g2, g3⟩ := hw
      obtain ⟨s1, p1, q1, u1, v1, w1, x1⟩ := Source_Next_x hl g2 g3 (k := 5) (by decide) (by decide)
      obtain ⟨s2, p2, q2, u2, v2, w2, x2⟩ := Source_Next_x hl w1 x1 (k := (r.Joints.length : Int)) (by omega) (by omega)
      rw [g1, q1, Option.bind_some]
      cases s1 == 1
      · exact ⟨_, rfl, hr⟩
      · simp only [cond_true]
        rw [q2, Option.bind_some]
        simp only
        rw [grd_p ⟨by simp, by simp [maxLen_eq]⟩]
        exact ⟨_, rfl, hr⟩
def PB (n : Nat) (l : List S_Piece) : Prop := l.length ≤ n ∧ ∀ x ∈ l, x.Normals.length ≤ 1048576
def tW (w : List Int) : Nat → Int
  | 0 => 0
  | j + 1 => IntKind.i64.wrap (tW w j + w.getD j default)
def cW (w : List Int) (g : Nat → Int) : Nat → Int
  | 0 => 0
  | j + 1 => IntKind.i64.wrap (cW w g j + IntKind.i64.wrap (w.getD j default * g j))
def cV (l : List IV3) (w : List Int) (j : Nat) : IV3 :=
  (⟨cW w (fun i => (l.getD i default).1.Lo) j, cW w (fun i => (l.getD i default).1.Hi) j⟩, ⟨cW w (fun i => (l.getD i default).2.1.Lo) j, cW w (fun i => (l.getD i default).2.1.Hi) j⟩, ⟨cW w (fun i => (l.getD i default).2.2.Lo) j, cW w (fun i => (l.getD i default).2.2.Hi) j⟩)
def badW (w : List Int) (j : Nat) : Bool := decide (w.getD j default < 0) || decide (w.getD j default > 65536)
def zc : IV3 × Int × Bool := ((⟨0, 0⟩, ⟨0, 0⟩, ⟨0, 0⟩), 0, false)
def okC (l : List IV3) (w : List Int) : Prop := placedV l = true ∧ w.length = l.length ∧ noneB (badW w) w.length = true ∧ 1 ≤ tW w w.length ∧ tW w w.length ≤ 65536
instance (l : List IV3) (w : List Int) : Decidable (okC l w) := by unfold okC; infer_instance
def combV (l : List IV3) (w : List Int) : IV3 × Int × Bool := if okC l w then (cV l w w.length, tW w w.length, true) else zc
theorem badW_iff {w : List Int} {n : Nat} : noneB (badW w) n = true ↔ ∀ j, j < n → 0 ≤ w.getD j default ∧ w.getD j default ≤ 65536 := by
  rw [noneB_iff]
  refine forall_congr' fun j => imp_congr Iff.rfl ?_
  simp only [badW, Bool.or_eq_false_iff, decide_eq_false_iff_not]; omega
theorem tW_ok {w : List Int} {n : Nat} (h : ∀ j, j < n → 0 ≤ w.getD j default ∧ w.getD j default ≤ 65536) (hn : n ≤ 8) : ∀ j, j ≤ n → 0 ≤ tW w j ∧ tW w j ≤ 65536 * (j : Int) ∧ ∀ i, i ≤ j → tW w i ≤ tW w j
  | 0, _ => ⟨by simp [tW], by simp [tW], fun i hi => by obtain rfl : i = 0 := by omega
                                                        exact Int.le_refl _⟩
  | j + 1, hj => by
    obtain ⟨h1, h2, h3⟩ := tW_ok h hn j (by omega)
    obtain ⟨q1, q2⟩ := h j (by omega)
    have e : tW w (j + 1) = tW w j + w.getD j default := by simp only [tW]; exact w64 (by omega) (by omega)
    refine ⟨by omega, by omega, fun i hi => ?_⟩
    by_cases e1 : i = j + 1
    · rw [e1]; omega
    · have := h3 i (by omega); omega
theorem no_placed {l : List IV3} {w : List Int} (hp : placedV l = false) : ¬ okC l w := fun h => by obtain ⟨h1, _⟩ := h; rw [hp] at h1; cases h1
theorem shape_Combine_e (l : List IV3) (w : List Int) : (shape_Combine_C l w).o = some (combV l w) := by
  show (shape_Combine_T l w).run NN = _
  simp only [shape_Combine_T, T.run, T.ix, shape_Placed_e, Option.bind_some, bif_out, andC_out, combV]
  cases hp : placedV l
  · rw [if_neg (no_placed hp)]; rfl
  · have hl8 := placed_len hp
    simp only [Bool.not_true, cond_false]
    by_cases hl : w.length = l.length
    · rw [bif_nne (by omega)]
      refine (loop_scan (fun j => ((cV l w j).1.Lo, (cV l w j).1.Hi, (cV l w j).2.1.Lo, (cV l w j).2.1.Hi, (cV l w j).2.2.Lo, (cV l w j).2.2.Hi, tW w j, (j : Int))) (fun j => sw (badW w j) zc) ((cV l w w.length).1.Lo, (cV l w w.length).1.Hi, (cV l w w.length).2.1.Lo, (cV l w w.length).2.1.Hi, (cV l w w.length).2.2.Lo, (cV l w w.length).2.2.Hi, tW w w.length) w.length rfl (show w.length < 4294967296 by omega) (fun j hj => ?_) ?_).trans ?_
      · dsimp only
        rw [bif_dpos (by omega), grd_p ⟨by omega, by omega⟩, Int.toNat_natCast, bif_tb, show (decide (w.getD j default < 0) || decide (w.getD j default > 65536)) = badW w j from rfl]
        cases badW w j
        · rw [cond_false, grd_p ⟨by omega, by omega⟩, wn (by omega)]; rfl
        · rfl
      · dsimp only
        rw [bif_dneg (by omega)]
      · rw [scan_sw]
        cases hb : noneB (badW w) w.length
        · rw [if_neg (fun h => by obtain ⟨_, _, h3, _⟩ := h; rw [hb] at h3; cases h3)]; rfl
        · simp only [sw, Bool.not_true, cond_false, bif_tb]
          by_cases h1 : tW w w.length < 1
          · rw [if_neg (fun h => by obtain ⟨_, _, _, h4, _⟩ := h; omega), decide_eq_true h1]; rfl
          · by_cases h2 : tW w w.length > 65536
            · rw [if_neg (fun h => by obtain ⟨_, _, _, _, h5⟩ := h; omega), decide_eq_false h1, decide_eq_true h2]; rfl
            · rw [if_pos (show okC l w from ⟨hp, hl, hb, by omega, by omega⟩), decide_eq_false h1, decide_eq_false h2]; rfl
    · rw [bif_neq (by omega), if_neg (fun h => by obtain ⟨_, h2, _⟩ := h; exact hl h2)]; rfl
def badR (w : List Int) (j : Nat) : Bool := decide (w.getD j default < 0) || decide (w.getD j default > IntKind.i64.wrap (65536 - tW w j))
theorem badR_iff {w : List Int} {n : Nat} (hn : n ≤ 8) : noneB (badR w) n = true ↔ noneB (badW w) n = true ∧ tW w n ≤ 65536 := by
  rw [badW_iff]
  constructor
  · intro h
    rw [noneB_iff] at h
    have key : ∀ j, j ≤ n → 0 ≤ tW w j ∧ tW w j ≤ 65536 := by
      intro j
      induction j with
      | zero => intro _; simp [tW]
      | succ j ih =>
        intro hj
        obtain ⟨h1, h2⟩ := ih (by omega)
        have := h j (by omega)
        simp only [badR, Bool.or_eq_false_iff, decide_eq_false_iff_not] at this
        rw [w64 (x := 65536 - tW w j) (by omega) (by omega)] at this
        have e : tW w (j + 1) = tW w j + w.getD j default := by simp only [tW]; exact w64 (by omega) (by omega)
        omega
    refine ⟨fun j hj => ?_, (key n (Nat.le_refl _)).2⟩
    have h0 := key j (by omega)
    have := h j hj
    simp only [badR, Bool.or_eq_false_iff, decide_eq_false_iff_not] at this
    rw [w64 (x := 65536 - tW w j) (by omega) (by omega)] at this
    omega
  · rintro ⟨h, ht⟩
    rw [noneB_iff]
    intro j hj
    have h1 := tW_ok h hn n (Nat.le_refl _)
    have h0 := tW_ok h hn j (by omega)
    have h2 := h1.2.2 (j + 1) (by omega)
    have e : tW w (j + 1) = tW w j + w.getD j default := by simp only [tW]; have := h j hj; exact w64 (by omega) (by omega)
    have := h j hj
    simp only [badR, Bool.or_eq_false_iff, decide_eq_false_iff_not]
    rw [w64 (x := 65536 - tW w j) (by omega) (by omega)]
    omega
theorem ref10_Combine_e (l : List IV3) (w : List Int) : (ref10_Combine_C l w).o = some (combV l w) := by
  show (ref10_Combine_T l w).run NN = _
  simp only [ref10_Combine_T, T.run, T.ix, ref10_Placed_e, Option.bind_some, bif_out, andC_out, combV]
  cases hp : placedV l
  · rw [if_neg (no_placed hp)]; rfl
  · have hl8 := placed_len hp
    simp only [Bool.not_true, cond_false]
    by_cases hl : w.length = l.length
    · rw [bif_nne (by omega)]
      refine (loop_scan (fun j => (tW w j, (j : Int))) (fun j => sw (badR w j) zc) (tW w w.length) w.length rfl (show w.length < 4294967296 by omega) (fun j hj => ?_) ?_).trans ?_
      · dsimp only
        rw [bif_dpos (by omega), grd_p ⟨by omega, by omega⟩, grd_p ⟨by omega, by omega⟩, grd_p ⟨by omega, by omega⟩, bif_out, andC_out, Int.toNat_natCast, bif_tb, show (decide (w.getD j default < 0) || decide (w.getD j default > IntKind.i64.wrap (65536 - tW w j))) = badR w j from rfl, wn (by omega)]
        cases badR w j <;> rfl
      · dsimp only
        rw [bif_dneg (by omega)]
      · rw [scan_sw]
        have hiff := badR_iff (w := w) (n := w.length) (by omega)
        cases hb : noneB (badR w) w.length
        · rw [if_neg (fun h => by obtain ⟨_, _, h3, _, h5⟩ := h; rw [hiff.2 ⟨h3, h5⟩] at hb; cases hb)]; rfl
        · obtain ⟨hb1, hb2⟩ := hiff.1 hb
          simp only [sw, Bool.not_true, cond_false]
          by_cases h1 : tW w w.length < 1
          · rw [if_neg (fun h => by obtain ⟨_, _, _, h4, _⟩ := h; omega), bif_dpos h1]; rfl
          · rw [if_pos (show okC l w from ⟨hp, hl, hb1, by omega, by omega⟩), bif_dneg h1]
            refine (loop_to (fun j => ((cV l w j).1.Lo, (cV l w j).1.Hi, (cV l w j).2.1.Lo, (cV l w j).2.1.Hi, (cV l w j).2.2.Lo, (cV l w j).2.2.Hi, (j : Int))) ((cV l w w.length).1.Lo, (cV l w w.length).1.Hi, (cV l w w.length).2.1.Lo, (cV l w w.length).2.1.Hi, (cV l w w.length).2.2.Lo, (cV l w w.length).2.2.Hi) w.length rfl (show w.length < 4294967296 by omega) (fun j hj => ?_) ?_).trans rfl
            · dsimp only
              rw [bif_dpos (by omega)]
              simp only [grd_p (show 0 ≤ (j : Int) ∧ (j : Int) < (w.length : Int) by omega), grd_p (show 0 ≤ (j : Int) ∧ (j : Int) < (l.length : Int) by omega), Int.toNat_natCast]
              rw [wn (by omega)]; rfl
            · dsimp only
              rw [bif_dneg (by omega)]
    · rw [bif_neq (by omega), if_neg (fun h => by obtain ⟨_, h2, _⟩ := h; exact hl h2)]; rfl
theorem mul44 {a b : Int} (ha : 0 ≤ a ∧ a ≤ 65536) (hb : -268435456 ≤ b ∧ b ≤ 268435456) : -17592186044416 ≤ a * b ∧ a * b ≤ 17592186044416 := by
  have h : (a * b).natAbs ≤ 65536 * 268435456 := by rw [Int.natAbs_mul]; exact Nat.mul_le_mul (by omega) (by omega)
  omega
theorem cW_bd {w : List Int} {g : Nat → Int} {n : Nat} (h : ∀ j, j < n → 0 ≤ w.getD j default ∧ w.getD j default ≤ 65536) (hg : ∀ j, j < n → -268435456 ≤ g j ∧ g j ≤ 268435456) (hn : n ≤ 8) : ∀ j, j ≤ n → -17592186044416 * (j : Int) ≤ cW w g j ∧ cW w g j ≤ 17592186044416 * (j : Int)
  | 0, _ => by simp [cW]
  | j + 1, hj => by
    obtain ⟨h1, h2⟩ := cW_bd h hg hn j (by omega)
    have hm := mul44 (h j (by omega)) (hg j (by omega))
    simp only [cW]
    rw [w64 (x := w.getD j default * g j) (by omega) (by omega), w64 (by omega) (by omega)]; omega
def sm (x : Int) : Prop := -140737488355328 ≤ x ∧ x ≤ 140737488355328
def smV (v : IV3) : Prop := (sm v.1.Lo ∧ sm v.1.Hi) ∧ (sm v.2.1.Lo ∧ sm v.2.1.Hi) ∧ sm v.2.2.Lo ∧ sm v.2.2.Hi
theorem combV_ok {l : List IV3} {w : List Int} (h : (combV l w).2.2 = true) : 1 ≤ (combV l w).2.1 ∧ (combV l w).2.1 ≤ 65536 ∧ smV (combV l w).1 := by
  unfold combV at h ⊢
  by_cases hk : okC l w
  · rw [if_pos hk]
    obtain ⟨h1, h2, h3, h4, h5⟩ := hk
    have h8 := placed_len h1
    have hb := badW_iff.1 h3
    have hr : ∀ j, j < w.length → reachedV (l.getD j default) = true := fun j hj => placed_get h1 (by omega)
    have key : ∀ g : IV3 → Int, (∀ v : IV3, reachedV v = true → -268435456 ≤ g v ∧ g v ≤ 268435456) → sm (cW w (fun i => g (l.getD i default)) w.length) := fun g hg => by
      have := cW_bd hb (g := fun i => g (l.getD i default)) (fun j hj => hg _ (hr j hj)) (by omega) w.length (Nat.le_refl _)
      unfold sm; omega
    have rr : ∀ v : IV3, reachedV v = true → (-268435456 ≤ v.1.Lo ∧ v.1.Lo ≤ v.1.Hi ∧ v.1.Hi ≤ 268435456) ∧ (-268435456 ≤ v.2.1.Lo ∧ v.2.1.Lo ≤ v.2.1.Hi ∧ v.2.1.Hi ≤ 268435456) ∧ (-268435456 ≤ v.2.2.Lo ∧ v.2.2.Lo ≤ v.2.2.Hi ∧ v.2.2.Hi ≤ 268435456) := fun v hv => by
      simp only [reachedV, Bool.and_eq_true, rng_iff] at hv; exact hv
    exact ⟨h4, h5, ⟨key (fun v => v.1.Lo) (fun v hv => by have := rr v hv; omega), key (fun v => v.1.Hi) (fun v hv => by have := rr v hv; omega)⟩, ⟨key (fun v => v.2.1.Lo) (fun v hv => by have := rr v hv; omega), key (fun v => v.2.1.Hi) (fun v hv => by have := rr v hv; omega)⟩, key (fun v => v.2.2.Lo) (fun v hv => by have := rr v hv; omega), key (fun v => v.2.2.Hi) (fun v hv => by have := rr v hv; omega)⟩
  · rw [if_neg hk] at h; cases h
def mxV (p q : Int) : Int := max (max (IntKind.i64.wrap p) (IntKind.i64.wrap (0 - IntKind.i64.wrap p))) (max (IntKind.i64.wrap q) (IntKind.i64.wrap (0 - IntKind.i64.wrap q)))
theorem farthest_e {p q : Int} (hp : -281474976710656 ≤ p ∧ p ≤ 281474976710656) (hq : -281474976710656 ≤ q ∧ q ≤ 281474976710656) : (overlap_farthest_C [IntKind.i64.wrap p, IntKind.i64.wrap q]).o = some (mxV p q) := by
  show (overlap_farthest_T [IntKind.i64.wrap p, IntKind.i64.wrap q]).run NN = _
  simp only [overlap_farthest_T, T.run]
  refine (loop_to (fun j => ((match j with | 0 => 0 | 1 => max (max 0 (IntKind.i64.wrap p)) (IntKind.i64.wrap (0 - IntKind.i64.wrap p)) | _ => max (max (max (max 0 (IntKind.i64.wrap p)) (IntKind.i64.wrap (0 - IntKind.i64.wrap p))) (IntKind.i64.wrap q)) (IntKind.i64.wrap (0 - IntKind.i64.wrap q)) : Int), (j : Int))) (max (max (max (max 0 (IntKind.i64.wrap p)) (IntKind.i64.wrap (0 - IntKind.i64.wrap p))) (IntKind.i64.wrap q)) (IntKind.i64.wrap (0 - IntKind.i64.wrap q))) 2 rfl (by decide) (fun j hj => ?_) ?_).trans ?_
  · rw [bif_dpos (by simp; omega), grd_p ⟨by simp, by simp; omega⟩, wn (by omega)]
    match j, hj with
    | 0, _ => rfl
    | 1, _ => rfl
  · rw [bif_dneg (by simp)]; rfl
  · simp only [Option.some.injEq, mxV]
    rw [w64 (x := p) (by omega) (by omega), w64 (x := q) (by omega) (by omega), w64 (x := 0 - p) (by omega) (by omega), w64 (x := 0 - q) (by omega) (by omega)]
    omega
theorem mx_div {p q t : Int} (hp : -281474976710656 ≤ p ∧ p ≤ 281474976710656) (hq : -281474976710656 ≤ q ∧ q ≤ 281474976710656) (ht : 1 ≤ t ∧ t ≤ 65536) :
    IntKind.i64.wrap ((IntKind.i64.wrap (IntKind.i64.wrap (mxV p q + t) - 1)).tdiv t) = cdiv (mxV p q) t := by
  have hm : 0 ≤ mxV p q ∧ mxV p q ≤ 281474976710656 := by
    unfold mxV
    rw [w64 (x := p) (by omega) (by omega), w64 (x := q) (by omega) (by omega), w64 (x := 0 - p) (by omega) (by omega), w64 (x := 0 - q) (by omega) (by omega)]
    omega
  generalize mxV p q = H at hm
  rw [w64 (x := H + t) (by omega) (by omega), w64 (x := H + t - 1) (by omega) (by omega), tdiv_pos (by omega)]
  have e : (H + t - 1) / t = cdiv H t := by
    symm
    rw [cdiv_spec (by omega)]
    have h1 := div_lo (a := H + t - 1) (b := t) (by omega)
    have h2 := div_hi (a := H + t - 1) (b := t) (by omega)
    omega
  rw [e]
  have := cdiv_bd (a := H) (b := t) (by omega)
  by_cases h0 : 0 < H
  · exact w64 (by omega) (by omega)
  · exact w64 (by omega) (by omega)
theorem ov_radius_e (a : Int) : (overlap_isRadius_C a).o = some (radV a) := by
  show (overlap_isRadius_T a).run NN = _
  have h := ref14_radius_e a
  rw [show (ref14_radius_C a).o = (ref14_radius_T a).run NN from rfl] at h
  rw [← h]
  simp only [overlap_isRadius_T, ref14_radius_T, T.run]
theorem excess_eq (u v : List Int) (a : List IV3) (ra : Int) (b : List IV3) (rb : Int) : (overlap_Excess_C u v a ra b rb).o = (ref14_Excess_C u v a ra b rb).o := by
  show (overlap_Excess_T u v a ra b rb).run NN = (ref14_Excess_T u v a ra b rb).run NN
  simp only [overlap_Excess_T, ref14_Excess_T, T.run, T.ix, shape_Combine_e, ref10_Combine_e, ov_radius_e, ref14_radius_e, Option.bind_some, bif_out, andC_out, ref14_size_e]
  cases h1 : (combV a u).2.2
  · rfl
  · cases h2 : (combV b v).2.2
    · rfl
    · obtain ⟨t1, t2, q1, q2, q3⟩ := combV_ok h1
      obtain ⟨_, _, r1, r2, r3⟩ := combV_ok h2
      unfold sm at q1 q2 q3 r1 r2 r3
      simp only [Bool.not_true, cond_false]
      cases (bif (combV a u).2.1 != (combV b v).2.1 then true else bif !radV ra then true else !radV rb)
      · simp only [cond_false, grd_p (show (combV a u).2.1 ≠ 0 by omega)]
        have hc : ∀ p q : Int, (ref1_Ceil_C (max (max (IntKind.i64.wrap p) (IntKind.i64.wrap (0 - IntKind.i64.wrap p))) (max (IntKind.i64.wrap q) (IntKind.i64.wrap (0 - IntKind.i64.wrap q)))) (combV a u).2.1).o = some (cdiv (mxV p q) (combV a u).2.1) :=
          fun p q => ref1_Ceil_e (((InR.wr _).max (InR.wr _)).max ((InR.wr _).max (InR.wr _))) (by omega)
        simp only [hc, Option.bind_some]
        rw [farthest_e (p := (combV a u).1.1.Lo - (combV b v).1.1.Hi) (q := (combV a u).1.1.Hi - (combV b v).1.1.Lo) (by omega) (by omega), Option.bind_some, mx_div (by omega) (by omega) ⟨t1, t2⟩,
          farthest_e (p := (combV a u).1.2.1.Lo - (combV b v).1.2.1.Hi) (q := (combV a u).1.2.1.Hi - (combV b v).1.2.1.Lo) (by omega) (by omega), Option.bind_some, mx_div (by omega) (by omega) ⟨t1, t2⟩,
          farthest_e (p := (combV a u).1.2.2.Lo - (combV b v).1.2.2.Hi) (q := (combV a u).1.2.2.Hi - (combV b v).1.2.2.Lo) (by omega) (by omega), Option.bind_some, mx_div (by omega) (by omega) ⟨t1, t2⟩]
      · rfl
theorem overlaps_eq (u v : List Int) (a : List IV3) (ra : Int) (b : List IV3) (rb : Int) : (overlap_Overlaps_C u v a ra b rb).o = (ref14_Overlaps_C u v a ra b rb).o := by
  show (overlap_Overlaps_T u v a ra b rb).run NN = (ref14_Overlaps_T u v a ra b rb).run NN
  simp only [overlap_Overlaps_T, ref14_Overlaps_T, T.run, excess_eq]
theorem ref14_Overlaps_t (u v : List Int) (a : List IV3) (ra : Int) (b : List IV3) (rb : Int) : ∃ y : Bool, (ref14_Overlaps_C u v a ra b rb).o = some y := by
  have ex : ∃ y : Int × Bool, (ref14_Excess_C u v a ra b rb).o = some y := by
    have e0 : (ref14_Excess_C u v a ra b rb).o = (ref14_Excess_T u v a ra b rb).run NN := rfl
    rw [e0]
    have hx : (combV a u).2.2 = true → 1 ≤ (combV a u).2.1 := fun h => (combV_ok h).1
    generalize hX : combV a u = x at hx
    simp only [ref14_Excess_T, T.run, T.ix, ref10_Combine_e, hX, ref14_radius_e, Option.bind_some, bif_out, andC_out]
    generalize combV b v = y
    cases hx2 : x.2.2
    · exact ⟨_, rfl⟩
    · have hx1 := hx hx2
      cases (bif !true then true else bif !y.2.2 then true else bif x.2.1 != y.2.1 then true else bif !radV ra then true else !radV rb)
      · have hc : ∀ p q : Int, (ref1_Ceil_C (max (max (IntKind.i64.wrap p) (IntKind.i64.wrap (0 - IntKind.i64.wrap p))) (max (IntKind.i64.wrap q) (IntKind.i64.wrap (0 - IntKind.i64.wrap q)))) x.2.1).o = some (cdiv (max (max (IntKind.i64.wrap p) (IntKind.i64.wrap (0 - IntKind.i64.wrap p))) (max (IntKind.i64.wrap q) (IntKind.i64.wrap (0 - IntKind.i64.wrap q)))) x.2.1) :=
          fun p q => ref1_Ceil_e (((InR.wr _).max (InR.wr _)).max ((InR.wr _).max (InR.wr _))) (by omega)
        simp only [cond_false, ref14_size_e, Option.bind_some, hc]
        generalize cdiv _ _ = c1
        cases decide (c1 > IntKind.i64.wrap (ra + rb))
        · simp only [cond_false]
          generalize cdiv _ _ = c2
          cases decide (c2 > IntKind.i64.wrap (ra + rb))
          · simp only [cond_false]
            generalize cdiv _ _ = c3
            cases decide (c3 > IntKind.i64.wrap (ra + rb)) <;> exact ⟨_, rfl⟩
          · exact ⟨_, rfl⟩
        · exact ⟨_, rfl⟩
      · exact ⟨_, rfl⟩
  obtain ⟨y, ey⟩ := ex
  have e0 : (ref14_Overlaps_C u v a ra b rb).o = (ref14_Overlaps_T u v a ra b rb).run NN := rfl
  rw [e0]
  simp only [ref14_Overlaps_T, T.run]
  rw [ey, Option.bind_some]
  cases y.2 <;> exact ⟨_, rfl⟩
noncomputable def ovV (u v : List Int) (a : List IV3) (ra : Int) (b : List IV3) (rb : Int) : Bool := (ref14_Overlaps_C u v a ra b rb).o.getD false
theorem ref14_Overlaps_e (u v : List Int) (a : List IV3) (ra : Int) (b : List IV3) (rb : Int) : (ref14_Overlaps_C u v a ra b rb).o = some (ovV u v a ra b rb) := by
  obtain ⟨y, hy⟩ := ref14_Overlaps_t u v a ra b rb
  rw [ovV, hy]; rfl
theorem overlap_Overlaps_e (u v : List Int) (a : List IV3) (ra : Int) (b : List IV3) (rb : Int) : (overlap_Overlaps_C u v a ra b rb).o = some (ovV u v a ra b rb) := by
  rw [overlaps_eq]; exact ref14_Overlaps_e u v a ra b rb
noncomputable def collV (s : S_Scene) (b : List S_Interval) (w : S_Witness) : Bool :=
  if (sceneV s = 0 ∧ boxV s.Robot b = true) ∧ 0 ≤ w.Pair ∧ w.Pair < ((pairsV s).length : Int) then
    ovV w.Left w.Right (pointsF s b (pA s w.Pair.toNat)) (radOf s (pA s w.Pair.toNat)) (pointsF s b (pB s w.Pair.toNat)) (radOf s (pB s w.Pair.toNat)) else false
theorem body_couple_e {s : S_Scene} {b : List S_Interval} (h : sceneV s = 0 ∧ boxV s.Robot b = true) {j : Nat} (hj : j < (pairsV s).length) :
    (body_couple_C ⟨s.Shapes, pairsV s, pointsV s b⟩ (j : Int)).o = some ⟨pointsF s b (pA s j), pointsF s b (pB s j), radOf s (pA s j), radOf s (pB s j)⟩ := by
  have hp := pairs_in h.1 hj
  show (body_couple_T ⟨s.Shapes, pairsV s, pointsV s b⟩ (j : Int)).run NN = _
  simp only [body_couple_T, T.run, Int.toNat_natCast, pointsV_get h.1 h.2, tab_len]
  rw [grd_p ⟨by omega, by omega⟩, grd_p hp.1, grd_p hp.1, grd_p hp.2, grd_p hp.2, tab_get (by omega), tab_get (by omega)]; rfl
section
variable (s : S_Scene) (p q : List Int) (hp : p.length < 4294967296) (hq : q.length < 4294967296)
include hp hq
end
open Go.Proofs
theorem interval_Mid_e (a : S_Interval) : (interval_Mid_C a).o = some (bif vV a then IntKind.i64.wrap (a.Lo + a.Hi) / 2 else 0) := by
  show (interval_Mid_T a).run NN = _
  simp only [interval_Mid_T, T.run, interval_Valid_e, Option.bind_some]
  cases vV a with
  | false => rfl
  | true =>
    have := fixed_ShiftDown_e (IntKind.i64.wrap (a.Lo + a.Hi)) 1 (by omega)
    rw [show ((1 : Nat) : Int) = 1 from rfl] at this
    simp [this]
theorem shape_Centers_x (l : List IV3) : ∃ r, (shape_Centers_C l).o = some r ∧ (placedV l = true → r.length = l.length) := by
  show ∃ r, (shape_Centers_T l).run NN = some r ∧ _
  simp only [shape_Centers_T, T.run, T.ix, shape_Placed_e, Option.bind_some, interval_Mid_e]
  cases hp : placedV l with
  | false => exact ⟨nl, rfl, fun h => by cases h⟩
  | true =>
    have hl := placed_len hp
    rw [bif_neg (by rfl), grd_p (by omega)]
    refine loop_mf (fun m (x : List V3 × Int) => x.1.length = l.length ∧ ∃ j : Nat, x.2 = (j : Int) ∧ j + m = l.length) (fun y : List V3 => y.length = l.length) l.length ⟨by simp, 0, rfl, by omega⟩ (by omega) ?_ fun y hy => ⟨y, rfl, fun _ => hy⟩
    rintro m ⟨x, i⟩ ⟨hx, j, rfl, hm⟩
    simp only at hx ⊢
    cases m with
    | zero => exact .inr (.inl ⟨x, by rw [bif_dneg (by omega)], hx⟩)
    | succ m =>
      refine .inl ⟨?w, m, ?e, Nat.lt_succ_self m, ?i⟩
      case e => rw [bif_dpos (by omega), grd_p (by omega), grd_p (by omega), grd_p (by simp; omega), grd_p (by simp; omega), grd_p (by simp; omega), grd_p (by simp; omega), grd_p (by simp; omega)]
      case i => exact ⟨by simp [hx], j + 1, by simp only [wn (show j < 4294967296 by omega)], by omega⟩
theorem normals_sum_x (l : List V3) (hl : l.length < 4294967296) : ∃ r, (normals_sum_C l).o = some r := by
  show ∃ r, (normals_sum_T l).run NN = some r
  simp only [normals_sum_T, T.run, T.ix]
  suffices h : ∃ r, _ = some r ∧ True from h.imp fun _ h => h.1
  refine loop_mf (fun m (x : Int × Int × Int × Int) => ∃ j : Nat, x.2.2.2 = (j : Int) ∧ j + m = l.length) (fun _ => True) l.length ⟨0, rfl, by omega⟩ hl ?_ fun y _ => ⟨_, rfl, trivial⟩
  rintro m ⟨a, b, c, i⟩ ⟨j, hj, hm⟩
  simp only at hj ⊢
  subst hj
  cases m with
  | zero => exact .inr (.inl ⟨_, by rw [bif_dneg (by omega)], trivial⟩)
  | succ m =>
    refine .inl ⟨?w, m, ?e, Nat.lt_succ_self m, ?i⟩
    case e => rw [bif_dpos (by omega), grd_p (by omega)]
    case i => exact ⟨j + 1, by simp only [wn (show j < 4294967296 by omega)], by omega⟩
theorem nat_half {x : Int} {m : Nat} (h : x.natAbs < 2 ^ (m + 1)) : (x.tdiv 2).natAbs < 2 ^ m := by
  have e : (x.tdiv 2).natAbs = x.natAbs / 2 := by
    rcases Int.le_total 0 x with hx | hx
    · rw [Int.tdiv_eq_ediv_of_nonneg hx]; omega
    · have : x = -(-x) := by omega
      rw [this, Int.neg_tdiv, Int.tdiv_eq_ediv_of_nonneg (by omega)]; omega
  rw [e]
  rw [Nat.pow_succ] at h
  omega
theorem support_Normal_x {v : V3} (h1 : InR v.1) (h2 : InR v.2.1) (h3 : InR v.2.2) : ∃ r, (support_Normal_C v).o = some r ∧ (r.2 = true → usableV r.1 = true) := by
  show ∃ r, (support_Normal_T v).run NN = some r ∧ _
  simp only [support_Normal_T, T.run, T.ix, support_inRange_e, Option.bind_some]
  have lt64 : ∀ {x : Int}, InR x → x.natAbs < 2 ^ 64 := fun {x} h => by have := h.1; have := h.2; omega
  refine loop_mf (fun m (x : Int × Int × Int) => (InR x.1 ∧ InR x.2.1 ∧ InR x.2.2) ∧ x.1.natAbs < 2 ^ m ∧ x.2.1.natAbs < 2 ^ m ∧ x.2.2.natAbs < 2 ^ m) (fun y : Int × Int × Int => nearV y 16384 = true) 64 ⟨⟨h1, h2, h3⟩, lt64 h1, lt64 h2, lt64 h3⟩ (by omega) ?_ fun y hy => ⟨_, rfl, fun hr => ?_⟩
  · rintro m ⟨a, b, c⟩ ⟨⟨r1, r2, r3⟩, b1, b2, b3⟩
    simp only at r1 r2 r3 b1 b2 b3 ⊢
    cases hn : nearV (a, b, c) 16384 with
    | true => exact .inr (.inl ⟨_, rfl, hn⟩)
    | false =>
      cases m with
      | zero =>
        exfalso
        have : nearV (a, b, c) 16384 = true := nearV_iff.2 (by simp only; omega)
        rw [hn] at this; cases this
      | succ m =>
        refine .inl ⟨_, m, rfl, Nat.lt_succ_self m, ?_⟩
        have q1 := r1.tdiv (b := 2) (by omega)
        have q2 := r2.tdiv (b := 2) (by omega)
        have q3 := r3.tdiv (b := 2) (by omega)
        simp only [q1.w, q2.w, q3.w]
        exact ⟨⟨q1, q2, q3⟩, nat_half b1, nat_half b2, nat_half b3⟩
  · simp only at hr ⊢
    simp only [usableV, hr, Bool.true_and]
    exact hy
theorem normals_Mean_x (a b : List IV3) : ∃ r, (normals_Mean_C a b).o = some r := by
  show ∃ r, (normals_Mean_T a b).run NN = some r
  simp only [normals_Mean_T, T.run, T.ix, shape_Placed_e, Option.bind_some]
  cases ha : placedV a with
  | false => exact ⟨_, rfl⟩
  | true =>
    cases hb : placedV b with
    | false => exact ⟨_, rfl⟩
    | true =>
      obtain ⟨ca, e1, q1⟩ := shape_Centers_x a
      obtain ⟨cb, e2, q2⟩ := shape_Centers_x b
      have := placed_len ha
      have := placed_len hb
      obtain ⟨sa, e3⟩ := normals_sum_x ca (by rw [q1 ha]; omega)
      obtain ⟨sb, e4⟩ := normals_sum_x cb (by rw [q2 hb]; omega)
      obtain ⟨r, e5, _⟩ := support_Normal_x (v := (IntKind.i64.wrap (IntKind.i64.wrap (sa.1 * (b.length : Int)) - IntKind.i64.wrap (sb.1 * (a.length : Int))), IntKind.i64.wrap (IntKind.i64.wrap (sa.2.1 * (b.length : Int)) - IntKind.i64.wrap (sb.2.1 * (a.length : Int))), IntKind.i64.wrap (IntKind.i64.wrap (sa.2.2 * (b.length : Int)) - IntKind.i64.wrap (sb.2.2 * (a.length : Int))))) (InR.wr _) (InR.wr _) (InR.wr _)
      refine ⟨(r.1, r.2), ?_⟩
      simp only [e1, e2, e3, e4, e5, Option.bind_some, Bool.not_true, bif_out, andC_out, cond_false]
theorem nearest_usable_x (l : List V3) : ∃ r, (nearest_usable_C l).o = some r ∧ (r = true → 1 ≤ l.length ∧ l.length ≤ 8) := by
  show ∃ r, (nearest_usable_T l).run NN = some r ∧ _
  simp only [nearest_usable_T, T.run, bif_out, andC_out, bif_tb]
  by_cases h : 1 ≤ l.length ∧ l.length ≤ 8
  · rw [decide_eq_false (p := (l.length : Int) < 1) (by omega), decide_eq_false (p := (l.length : Int) > 8) (by omega)]
    rw [bif_neg (by rfl)]
    refine loop_mf (fun m (x : Int) => ∃ j : Nat, x = (j : Int) ∧ j + m = l.length) (fun _ => True) l.length ⟨0, rfl, by omega⟩ (by omega) ?_ fun y _ => ⟨_, rfl, fun _ => h⟩
    rintro m _ ⟨j, rfl, hm⟩
    cases m with
    | zero => exact .inr (.inl ⟨_, by rw [bif_dneg (by omega)], trivial⟩)
    | succ m =>
      rw [bif_dpos (by omega), grd_p (by omega)]
      generalize hbd : andK _ _ = bd
      have inner : ∃ r, bd = some r ∧ (r = .next ((j + 1 : Nat) : Int) ∨ r = .fin false) := by
        rw [← hbd]
        refine loop_mf (fun m (x : Int) => ∃ i : Nat, x = (i : Int) ∧ i + m = 3) (fun _ => True) 3 ⟨0, rfl, rfl⟩ (by omega) ?_ fun y _ => ⟨_, rfl, .inl (by rw [wn (by omega)])⟩
        rintro m _ ⟨i, rfl, hm⟩
        cases m with
        | zero => exact .inr (.inl ⟨_, by rw [bif_dneg (by omega)], trivial⟩)
        | succ m =>
          rw [bif_dpos (by omega), grd_p (by omega)]
          generalize List.getD [_, _, _] _ _ = z
          generalize (decide (z < -268435456) || decide (z > 268435456)) = b
          cases b with
          | true => exact .inr (.inr ⟨_, rfl, .inr rfl⟩)
          | false => exact .inl ⟨_, m, rfl, Nat.lt_succ_self m, i + 1, wn (by omega), by omega⟩
      obtain ⟨r, e, hr⟩ := inner
      rcases hr with rfl | rfl
      · exact .inl ⟨_, m, e, Nat.lt_succ_self m, j + 1, rfl, by omega⟩
      · exact .inr (.inr ⟨_, e, fun hh => by cases hh⟩)
  · refine ⟨false, ?_, fun hh => by cases hh⟩
    rw [bif_pos (by simp only [Bool.or_eq_true, decide_eq_true_eq]; omega)]
open Go.Proofs
theorem nearest_newList_x (l : List V3) (h1 : 1 ≤ l.length) (h2 : l.length < 4294967296) : ∃ r, (nearest_newList_C l).o = some r ∧ r.1 = l ∧ r.2.length = l.length := by
  refine ⟨(l, (List.replicate l.length (0 : Int)).set 0 65536), ?_, rfl, by simp⟩
  show (nearest_newList_T l).run NN = _
  simp only [nearest_newList_T, T.run]
  rw [grd_p (by omega), grd_p (by simp; omega), grd_p (by simp; omega)]
  simp
theorem list_sum_x (l : List V3) (w : List Int) (hw : w.length = l.length) (hl : l.length < 4294967296) : ∃ r, (list_sum_C l w).o = some r := by
  show ∃ r, (list_sum_T l w).run NN = some r
  simp only [list_sum_T, T.run, T.ix]
  suffices h : ∃ r, _ = some r ∧ True from h.imp fun _ h => h.1
  refine loop_mf (fun m (x : Int × Int × Int × Int) => ∃ j : Nat, x.2.2.2 = (j : Int) ∧ j + m = l.length) (fun _ => True) l.length ⟨0, rfl, by omega⟩ hl ?_ fun y _ => ⟨_, rfl, trivial⟩
  rintro m ⟨a, b, c, i⟩ ⟨j, hj, hm⟩
  simp only at hj ⊢
  subst hj
  cases m with
  | zero => exact .inr (.inl ⟨_, by rw [bif_dneg (by omega)], trivial⟩)
  | succ m =>
    refine .inl ⟨?w, m, ?e, Nat.lt_succ_self m, ?i⟩
    case e => rw [bif_dpos (by omega), grd_p (by omega), grd_p (by omega), grd_p (by omega), grd_p (by omega), grd_p (by omega), grd_p (by omega), grd_p (by omega)]
    case i => exact ⟨j + 1, by simp only [wn (show j < 4294967296 by omega)], by omega⟩
def minusV (a b : V3) : V3 := (IntKind.i64.wrap (a.1 - b.1), IntKind.i64.wrap (a.2.1 - b.2.1), IntKind.i64.wrap (a.2.2 - b.2.2))
theorem nearest_minus_e (a b : V3) : (nearest_minus_C a b).o = some (minusV a b) := rfl
def nDotV (a b : V3) : Int := IntKind.i64.wrap (IntKind.i64.wrap (IntKind.i64.wrap (a.1 * b.1) + IntKind.i64.wrap (a.2.1 * b.2.1)) + IntKind.i64.wrap (a.2.2 * b.2.2))
theorem nearest_dot_e (a b : V3) : (nearest_dot_C a b).o = some (nDotV a b) := rfl
theorem nearest_isClose_x {a : V3} (h1 : InR a.1) (h2 : InR a.2.1) (h3 : InR a.2.2) (m : Int) : ∃ r, (nearest_isClose_C a m).o = some r := by
  show ∃ r, (nearest_isClose_T a m).run NN = some r
  simp only [nearest_isClose_T, T.run]
  suffices h : ∃ r, _ = some r ∧ True from h.imp fun _ h => h.1
  refine loop_mf (fun m (x : Int × Int) => ∃ j : Nat, x.2 = (j : Int) ∧ j + m = 3) (fun _ => True) 3 ⟨0, rfl, by omega⟩ (by omega) ?_ fun y _ => ⟨_, rfl, trivial⟩
  rintro m ⟨s, i⟩ ⟨j, hj, hm⟩
  simp only at hj ⊢
  subst hj
  cases m with
  | zero => exact .inr (.inl ⟨_, by rw [bif_dneg (by omega)], trivial⟩)
  | succ m =>
    rw [bif_dpos (by omega), grd_p (by omega)]
    have hc : InR (([a.1, a.2.1, a.2.2] : List Int).getD ((j : Int)).toNat 0) := by
      rw [Int.toNat_natCast]
      match j, (show j < 3 by omega) with
      | 0, _ => exact h1
      | 1, _ => exact h2
      | 2, _ => exact h3
    have hs := fixed_ShiftUp_e 16 (by omega) (InR.max hc (InR.wr (0 - (([a.1, a.2.1, a.2.2] : List Int).getD ((j : Int)).toNat 0))))
    rw [show ((16 : Nat) : Int) = 16 from rfl] at hs
    rw [hs]
    exact .inl ⟨_, m, rfl, Nat.lt_succ_self m, j + 1, by simp only [wn (show j < 4294967296 by omega)], by omega⟩
theorem left_least_x (l : List V3) (w : List Int) (n : V3) (h1 : 1 ≤ l.length) (h2 : l.length < 4294967296) : ∃ r, (left_least_C l w n).o = some r ∧ 0 ≤ r.2 ∧ r.2 < l.length := by
  show ∃ r, (left_least_T l w n).run NN = some r ∧ _
  simp only [left_least_T, T.run, nearest_dot_e, Option.bind_some]
  rw [grd_p (by omega)]
  refine loop_mf (fun m (x : Int × Int × Int) => (∃ j : Nat, x.2.2 = (j : Int) ∧ j + m = l.length) ∧ 0 ≤ x.2.1 ∧ x.2.1 < l.length) (fun y : Int × Int => 0 ≤ y.2 ∧ y.2 < l.length) l.length ⟨⟨0, rfl, by omega⟩, by simp only; omega⟩ h2 ?_ fun y hy => ⟨_, rfl, hy⟩
  rintro m ⟨a, b, i⟩ ⟨⟨j, hj, hm⟩, hb⟩
  simp only at hj hb ⊢
  subst hj
  cases m with
  | zero => exact .inr (.inl ⟨_, by rw [bif_dneg (by omega)], hb⟩)
  | succ m =>
    rw [bif_dpos (by omega), grd_p (by omega)]
    generalize decide (nDotV n (l.getD ((j : Int)).toNat default) < a) = q
    cases q with
    | true => exact .inl ⟨_, m, rfl, Nat.lt_succ_self m, ⟨j + 1, by simp only [wn (show j < 4294967296 by omega)], by omega⟩, by simp only; omega⟩
    | false => exact .inl ⟨_, m, rfl, Nat.lt_succ_self m, ⟨j + 1, by simp only [wn (show j < 4294967296 by omega)], by omega⟩, hb⟩
theorem right_greatest_x (l : List V3) (w : List Int) (n : V3) (h1 : 1 ≤ l.length) (h2 : l.length < 4294967296) : ∃ r, (right_greatest_C l w n).o = some r ∧ 0 ≤ r.2 ∧ r.2 < l.length := by
  show ∃ r, (right_greatest_T l w n).run NN = some r ∧ _
  simp only [right_greatest_T, T.run, nearest_dot_e, Option.bind_some]
  rw [grd_p (by omega)]
  refine loop_mf (fun m (x : Int × Int × Int) => (∃ j : Nat, x.2.2 = (j : Int) ∧ j + m = l.length) ∧ 0 ≤ x.2.1 ∧ x.2.1 < l.length) (fun y : Int × Int => 0 ≤ y.2 ∧ y.2 < l.length) l.length ⟨⟨0, rfl, by omega⟩, by simp only; omega⟩ h2 ?_ fun y hy => ⟨_, rfl, hy⟩
  rintro m ⟨a, b, i⟩ ⟨⟨j, hj, hm⟩, hb⟩
  simp only at hj hb ⊢
  subst hj
  cases m with
  | zero => exact .inr (.inl ⟨_, by rw [bif_dneg (by omega)], hb⟩)
  | succ m =>
    rw [bif_dpos (by omega), grd_p (by omega)]
    generalize decide (nDotV n (l.getD ((j : Int)).toNat default) > a) = q
    cases q with
    | true => exact .inl ⟨_, m, rfl, Nat.lt_succ_self m, ⟨j + 1, by simp only [wn (show j < 4294967296 by omega)], by omega⟩, by simp only; omega⟩
    | false => exact .inl ⟨_, m, rfl, Nat.lt_succ_self m, ⟨j + 1, by simp only [wn (show j < 4294967296 by omega)], by omega⟩, hb⟩
theorem nearest_part_x (a b : V3) : ∃ r, (nearest_part_C a b).o = some r := by
  show ∃ r, (nearest_part_T a b).run NN = some r
  simp only [nearest_part_T, T.run, nearest_minus_e, nearest_dot_e, Option.bind_some]
  rw [grd_p (by omega)]
  generalize decide (nDotV a (minusV a b) ≤ 0) = q
  cases q <;> exact ⟨_, rfl⟩
theorem list_gather_x (l : List V3) (w : List Int) (i t : Int) (h0 : 0 ≤ i) (hi : i < w.length) (hw : w.length < 4294967296) : ∃ r, (list_gather_C l w i t).o = some r ∧ r.length = w.length := by
  show ∃ r, (list_gather_T l w i t).run NN = some r ∧ _
  simp only [list_gather_T, T.run]
  refine loop_mf (fun m (x : List Int × Int × Int) => x.1.length = w.length ∧ ∃ j : Nat, x.2.2 = (j : Int) ∧ j + m = w.length) (fun y : List Int × Int => y.1.length = w.length) w.length ⟨rfl, 0, rfl, by omega⟩ hw ?_ fun y hy => ?_
  · rintro m ⟨x, s, k⟩ ⟨hx, j, hj, hm⟩
    simp only at hj hx ⊢
    subst hj
    cases m with
    | zero => exact .inr (.inl ⟨_, by rw [bif_dneg (by omega)], hx⟩)
    | succ m =>
      refine .inl ⟨?w, m, ?e, Nat.lt_succ_self m, ?i⟩
      case e => rw [bif_dpos (by omega), grd_p (by omega), grd_p (by omega), grd_p (by omega), grd_p (by omega), grd_p (by omega), grd_p (by omega)]
      case i => exact ⟨by simp [hx], j + 1, by simp only [wn (show j < 4294967296 by omega)], by omega⟩
  · rw [grd_p (by omega), grd_p (by omega), grd_p (by omega), grd_p (by omega)]
    exact ⟨_, rfl, by simp [hy]⟩
theorem state_run_x (a : List V3) (u : List Int) (b : List V3) (v : List Int) (m : Int) (n : Nat) (hn : n ≤ 64) (hu : u.length = a.length) (hv : v.length = b.length) (ha : 1 ≤ a.length ∧ a.length < 4294967296) (hb : 1 ≤ b.length ∧ b.length < 4294967296) :
    ∃ r, (state_run_C a u b v 0 0 0 0 m (n : Int)).o = some r ∧ r.2.2.1.length = a.length ∧ r.2.2.2.2.1.length = b.length := by
  show ∃ r, (state_run_T a u b v 0 0 0 0 m (n : Int)).run NN = some r ∧ _
  simp only [state_run_T, T.run, T.ix, nearest_minus_e, Option.bind_some, support_Norm_e]
  refine loop_mf (fun k (x : List Int × List Int × Int × Int × Int × Int) => (x.1.length = a.length ∧ x.2.1.length = b.length) ∧ ∃ j : Nat, x.2.2.2.2.2 = (j : Int) ∧ j + k = n) (fun _ => False) n ⟨⟨hu, hv⟩, 0, rfl, by omega⟩ (by omega) ?_ fun y hy => hy.elim
  rintro k ⟨p, q, c1, c2, c3, st⟩ ⟨⟨hp, hq⟩, j, hj, hk⟩
  simp only at hp hq hj ⊢
  subst hj
  obtain ⟨s1, e1⟩ := list_sum_x a p hp ha.2
  obtain ⟨s2, e2⟩ := list_sum_x b q hq hb.2
  have hi : InR (minusV s1 s2).1 ∧ InR (minusV s1 s2).2.1 ∧ InR (minusV s1 s2).2.2 := ⟨InR.wr _, InR.wr _, InR.wr _⟩
  obtain ⟨cl, e3⟩ := nearest_isClose_x hi.1 hi.2.1 hi.2.2 m
  simp only [e1, e2, e3, Option.bind_some]
  cases cl with
  | true => exact .inr (.inr ⟨_, rfl, hp, hq⟩)
  | false =>
    have t1 := hi.1.tdiv (b := 65536) (by omega)
    have t2 := hi.2.1.tdiv (b := 65536) (by omega)
    have t3 := hi.2.2.tdiv (b := 65536) (by omega)
    obtain ⟨nm, e4, _⟩ := support_Normal_x (v := (IntKind.i64.wrap ((minusV s1 s2).1.tdiv 65536), IntKind.i64.wrap ((minusV s1 s2).2.1.tdiv 65536), IntKind.i64.wrap ((minusV s1 s2).2.2.tdiv 65536))) (InR.wr _) (InR.wr _) (InR.wr _)
    simp only [e4, Option.bind_some, cond_false]
    cases hnm : nm.2 with
    | false => exact .inr (.inr ⟨_, rfl, hp, hq⟩)
    | true =>
      obtain ⟨le, e5, l1, l2⟩ := left_least_x a p nm.1 ha.1 ha.2
      obtain ⟨gr, e6, g1, g2⟩ := right_greatest_x b q nm.1 hb.1 hb.2
      simp only [e5, e6, Option.bind_some, Bool.not_true, cond_false]
      generalize decide (IntKind.i64.wrap (le.1 - gr.1) > IntKind.i64.wrap (normV nm.1 * m)) = far
      cases far with
      | true => exact .inr (.inr ⟨_, rfl, hp, hq⟩)
      | false =>
        simp only [cond_false]
        cases k with
        | zero =>
          have hjn : j = n := by omega
          subst hjn
          rw [bif_eq rfl]
          exact .inr (.inr ⟨_, rfl, hp, hq⟩)
        | succ k =>
          rw [bif_ne (by omega), grd_p ⟨l1, l2⟩, grd_p ⟨g1, g2⟩]
          obtain ⟨pt, e7⟩ := nearest_part_x (IntKind.i64.wrap ((minusV s1 s2).1.tdiv 65536), IntKind.i64.wrap ((minusV s1 s2).2.1.tdiv 65536), IntKind.i64.wrap ((minusV s1 s2).2.2.tdiv 65536)) (minusV (a.getD le.2.toNat default) (b.getD gr.2.toNat default))
          simp only [e7, Option.bind_some]
          by_cases hpt : pt = 0
          · rw [bif_eq hpt]; exact .inr (.inr ⟨_, rfl, hp, hq⟩)
          · rw [bif_ne hpt]
            obtain ⟨p', e8, hp'⟩ := list_gather_x a p le.2 pt l1 (by rw [hp]; exact l2) (by rw [hp]; exact ha.2)
            obtain ⟨q', e9, hq'⟩ := list_gather_x b q gr.2 pt g1 (by rw [hq]; exact g2) (by rw [hq]; exact hb.2)
            simp only [e8, e9, Option.bind_some]
            exact .inl ⟨_, k, rfl, Nat.lt_succ_self k, ⟨hp'.trans hp, hq'.trans hq⟩, j + 1, by simp only [wn (show j < 4294967296 by omega)], by omega⟩
theorem nearest_Search_x (a b : List V3) (m : Int) : ∃ r, (nearest_Search_C a b m 64).o = some r ∧ r.Left.length ≤ 8 ∧ r.Right.length ≤ 8 := by
  show ∃ r, (nearest_Search_T a b m 64).run NN = some r ∧ _
  obtain ⟨ua, e1, h1⟩ := nearest_usable_x a
  obtain ⟨ub, e2, h2⟩ := nearest_usable_x b
  simp only [nearest_Search_T, T.run, e1, e2, Option.bind_some]
  cases ua with
  | false => exact ⟨_, rfl, by simp [nl], by simp [nl]⟩
  | true =>
    cases ub with
    | false => exact ⟨_, rfl, by simp [nl], by simp [nl]⟩
    | true =>
      have h1 := h1 rfl
      have h2 := h2 rfl
      simp only [Bool.not_true, cond_false, bif_out, bif_tb, andC_out]
      generalize (decide (m < 0) || (decide (m > 2097152) || (decide ((64 : Int) < 0) || decide ((64 : Int) > 64)))) = q
      cases q with
      | true => exact ⟨_, rfl, by simp [nl], by simp [nl]⟩
      | false =>
        obtain ⟨la, e3, f1, f2⟩ := nearest_newList_x a h1.1 (by omega)
        obtain ⟨lb, e4, f3, f4⟩ := nearest_newList_x b h2.1 (by omega)
        obtain ⟨r, e5, w1, w2⟩ := state_run_x la.1 la.2 lb.1 lb.2 m 64 (by omega) (by rw [f1, f2]) (by rw [f3, f4]) (by rw [f1]; omega) (by rw [f3]; omega)
        rw [f1] at w1
        rw [f3] at w2
        rw [show ((64 : Nat) : Int) = 64 from rfl] at e5
        simp only [cond_false, e3, e4, e5, Option.bind_some]
        exact ⟨_, rfl, by simp only; omega, by simp only; omega⟩
open Go.Proofs
theorem normals_isRadius_e (a : Int) : (normals_isRadius_C a).o = some (radV a) := by
  show (normals_isRadius_T a).run NN = _
  simp only [normals_isRadius_T, T.run, bif_some, bif_bf, radV, ge_iff_le]
theorem interval_Mid_e2 (a : S_Interval) : (interval_Mid_C a).o = some (midV a) := by
  rw [interval_Mid_e]
  unfold midV
  cases h : vV a
  · rfl
  · have := vV_iff.1 h
    rw [w64 (by omega) (by omega)]; rfl
theorem shape_Centers_e (l : List IV3) : (shape_Centers_C l).o = some (cenV l) := by
  show (shape_Centers_T l).run NN = _
  simp only [shape_Centers_T, T.run, T.ix, shape_Placed_e, Option.bind_some, interval_Mid_e2, cenV]
  cases hp : placedV l with
  | false => rfl
  | true =>
    have hl := placed_len hp
    rw [bif_neg (by rfl), grd_p (by omega), if_pos rfl]
    simp only [Int.toNat_natCast]
    refine (loop_to (fun j => (half (cenF l) ((0, 0, 0) : V3) l.length j, (j : Int))) (tab (cenF l) l.length) l.length (by rw [half_zero]; rfl) (show l.length < 4294967296 by omega) (fun j hj => ?_) ?_).trans rfl
    · have hx : j < (half (cenF l) ((0, 0, 0) : V3) l.length j).length := by rw [half_len (by omega)]; exact hj
      have h1 : 0 ≤ (j : Int) ∧ (j : Int) < ((half (cenF l) ((0, 0, 0) : V3) l.length j).length : Int) := by omega
      have h2 : j < (half (cenF l) ((0, 0, 0) : V3) l.length j).length ∧ 0 ≤ j := ⟨hx, by omega⟩
      rw [bif_dpos (by omega), grd_p (by omega)]
      simp only [Int.toNat_natCast, List.length_set, List.set_set, set_get_eq hx, grd_p h1, grd_p h2]
      rw [wn (by omega), ← half_set hj]; rfl
    · rw [bif_dneg (by omega), half_all]
noncomputable def meanV (a b : List IV3) : V3 × Bool := (normals_Mean_C a b).o.getD default
theorem normals_Mean_e (a b : List IV3) : (normals_Mean_C a b).o = some (meanV a b) := by
  obtain ⟨r, h⟩ := normals_Mean_x a b
  unfold meanV; rw [h]; rfl
noncomputable def srchV (a b : List V3) (m : Int) : S_Nearest := (nearest_Search_C a b m 64).o.getD default
theorem nearest_Search_e (a b : List V3) (m : Int) : (nearest_Search_C a b m 64).o = some (srchV a b m) := by
  obtain ⟨r, h, _⟩ := nearest_Search_x a b m
  unfold srchV; rw [h]; rfl
theorem srchV_len (a b : List V3) (m : Int) : (srchV a b m).Left.length ≤ 8 ∧ (srchV a b m).Right.length ≤ 8 := by
  obtain ⟨r, h, h1⟩ := nearest_Search_x a b m
  unfold srchV; rw [h]; exact h1
def axesL : List V3 := [(1, 0, 0), (-1, 0, 0), (0, 1, 0), (0, -1, 0), (0, 0, 1), (0, 0, -1)]
noncomputable def nearV2 (a : List IV3) (ra : Int) (b : List IV3) (rb : Int) : S_Nearest := srchV (cenV a) (cenV b) (IntKind.i64.wrap (ra + rb))
noncomputable def lastC (a : List IV3) (ra : Int) (b : List IV3) (rb : Int) : List V3 := bif usableV (nearV2 a ra b rb).Normal then [(nearV2 a ra b rb).Normal] else []
noncomputable def restC (a : List IV3) (ra : Int) (b : List IV3) (rb : Int) : List V3 := (bif (meanV a b).2 then [(meanV a b).1] else []) ++ (axesL ++ lastC a ra b rb)
noncomputable def candC (a : List IV3) (ra : Int) (b : List IV3) (rb : Int) (hs : List V3) : List V3 := hs.filter usableV ++ restC a ra b rb
def okF (a : List IV3) (ra : Int) (b : List IV3) (rb : Int) : Bool := placedV a && (placedV b && (radV ra && radV rb))
def ofF : Option V3 → V3 × Bool
  | some n => (n, true)
  | none => ((0, 0, 0), false)
noncomputable def findV (a : List IV3) (ra : Int) (b : List IV3) (rb : Int) (hs : List V3) : V3 × Bool :=
  bif okF a ra b rb then ofF ((candC a ra b rb hs).find? fun n => sepV n a ra b rb) else ((0, 0, 0), false)
def PR (F : Option V3) (d : Bool) (x : V3) : Prop := match F with
  | some n => d = true ∧ x = n
  | none => d = false
theorem PR.yes {F : Option V3} {n : V3} (h : some n = F) : PR F true n := by subst h; exact ⟨rfl, rfl⟩
theorem PR.no {F : Option V3} {x : V3} (h : none = F) : PR F false x := by subst h; exact rfl
theorem find_cons (sp : V3 → Bool) (x : V3) (l : List V3) : (x :: l).find? sp = bif sp x then some x else l.find? sp := by
  rw [List.find?_cons]; cases sp x <;> rfl
theorem drop_get {l : List V3} {j : Nat} (h : j < l.length) : l.drop j = l.getD j default :: l.drop (j + 1) := by
  rw [List.drop_eq_getElem_cons h]
  congr 1
  rw [List.getD_eq_getElem?_getD, List.getElem?_eq_getElem h, Option.getD_some]
theorem cand_e {o : V3 → Option Bool} {sp : V3 → Bool} (ho : ∀ x, o x = some (sp x)) (Y : YldS Tryz.prog enc_arr_3_int64 o) (a b : List IV3) (ra rb : Int) (hs : List V3) (hh : hs.length < 4294967296) :
    ∃ r, (normals_candidates_1_C Y a b ra rb hs).o = some r ∧ (okF a ra b rb = false → r.1 = false) ∧ (okF a ra b rb = true → PR ((candC a ra b rb hs).find? sp) r.1 r.2.1) := by
  show ∃ r, (normals_candidates_1_T Y a b ra rb hs).run NN = some r ∧ _
  have yc : ∀ x0 x, (Y.C false x0 x).o = o x := fun _ _ => rfl
  simp only [normals_candidates_1_T, T.run, shape_Placed_e, Option.bind_some, normals_isRadius_e, bif_out, bif_tb, andC_out]
  have hq : (!placedV a || (!placedV b || (!radV ra || !radV rb))) = !okF a ra b rb := by
    unfold okF; cases placedV a <;> cases placedV b <;> cases radV ra <;> cases radV rb <;> rfl
  rw [hq]
  cases okF a ra b rb with
  | false => exact ⟨_, rfl, fun _ => rfl, fun h => by cases h⟩
  | true =>
    simp only [Bool.not_true, cond_false]
    generalize hF : (candC a ra b rb hs).find? sp = F
    suffices h : ∃ r : Bool × V3 × List IV3 × List IV3 × Int × Int × List V3, _ = some r ∧ PR F r.1 r.2.1 from h.imp fun _ h => ⟨h.1, (fun h => by cases h), fun _ => h.2⟩
    refine loop_mf (fun m (x : Int × Bool × V3) => x.2.1 = false ∧ ∃ j : Nat, x.1 = (j : Int) ∧ j + m = hs.length ∧ ((hs.drop j).filter usableV ++ restC a ra b rb).find? sp = F) (fun y : Bool × V3 => y.1 = false ∧ (restC a ra b rb).find? sp = F) hs.length ⟨rfl, 0, rfl, by omega, by rw [List.drop_zero]; exact hF⟩ hh ?_ ?_
    · rintro m ⟨i, d, x0⟩ ⟨hd, j, hj, hm, hf⟩
      simp only at hd hj hf ⊢
      subst hd; subst hj
      cases m with
      | zero =>
        rw [List.drop_eq_nil_of_le (by omega)] at hf
        exact .inr (.inl ⟨_, by rw [bif_dneg (by omega)], rfl, hf⟩)
      | succ m =>
        rw [drop_get (by omega), List.filter_cons] at hf
        rw [bif_dpos (by omega), grd_p (by omega), support_Usable_e, Int.toNat_natCast]
        simp only [Option.bind_some, yc]
        cases hus : usableV (hs.getD j default) with
        | false =>
          rw [hus, if_neg (by decide)] at hf
          exact .inl ⟨_, m, rfl, Nat.lt_succ_self m, rfl, j + 1, by simp only [wn (show j < 4294967296 by omega)], by omega, hf⟩
        | true =>
          rw [hus, if_pos rfl, List.cons_append, find_cons] at hf
          simp only [cond_true, ho, Option.bind_some]
          cases hsp : sp (hs.getD j default) with
          | true =>
            rw [hsp] at hf
            exact .inr (.inr ⟨_, rfl, PR.yes hf⟩)
          | false =>
            rw [hsp] at hf
            exact .inl ⟨_, m, rfl, Nat.lt_succ_self m, rfl, j + 1, by simp only [wn (show j < 4294967296 by omega)], by omega, hf⟩
    · rintro ⟨d, x0⟩ ⟨hd, hf⟩
      simp only at hd hf ⊢
      subst hd
      simp only [normals_Mean_e, Option.bind_some, yc]
      have rest : ∀ (d : Bool) (x1 : V3), d = false → (axesL ++ lastC a ra b rb).find? sp = F → ∃ r, ((normals_Axes_C).o.bind fun y147 => andK (iter (fun x153 : Int × Bool × V3 => bif decide (x153.1 < ((y147.length : Nat) : Int)) then grd (0 ≤ x153.1 ∧ x153.1 < ((y147.length : Nat) : Int)) ((Y.C x153.2.1 x153.2.2 (y147.getD ((x153.1).toNat) default)).o.bind fun y162 => bif (!(!y162)) then some (Step3.fin (y162, (y147.getD ((x153.1).toNat) default), a, b, ra, rb, hs)) else some (Step3.next ((IntKind.i64.wrap (x153.1 + 1)), y162, (y147.getD ((x153.1).toNat) default)))) else some (Step3.out (x153.2.1, x153.2.2))) NN (0, d, x1)) fun y158 : Bool × V3 =>
          (shape_Centers_C a).o.bind fun y166 => (shape_Centers_C b).o.bind fun y167 => (nearest_Search_C y166 y167 (IntKind.i64.wrap (ra + rb)) 64).o.bind fun y168 => some (usableV y168.Normal) |>.bind fun y170 => bif y170 then ((Y.C y158.1 y158.2 y168.Normal).o.bind fun y171 => some (y171, y168.Normal, a, b, ra, rb, hs)) else some (y158.1, y158.2, a, b, ra, rb, hs)) = some r ∧ PR F r.1 r.2.1 := by
        intro d x1 hd hf
        subst hd
        have ea : (normals_Axes_C).o = some axesL := rfl
        rw [ea]
        simp only [Option.bind_some]
        refine loop_mf (fun m (x : Int × Bool × V3) => x.2.1 = false ∧ ∃ j : Nat, x.1 = (j : Int) ∧ j + m = 6 ∧ (axesL.drop j ++ lastC a ra b rb).find? sp = F) (fun y : Bool × V3 => y.1 = false ∧ (lastC a ra b rb).find? sp = F) 6 ⟨rfl, 0, rfl, rfl, by rw [List.drop_zero]; exact hf⟩ (by omega) ?_ ?_
        · rintro m ⟨i, d, x0⟩ ⟨hd, j, hj, hm, hf⟩
          simp only at hd hj hf ⊢
          subst hd; subst hj
          have l6 : axesL.length = 6 := rfl
          rw [l6]
          cases m with
          | zero =>
            rw [List.drop_eq_nil_of_le (by omega)] at hf
            exact .inr (.inl ⟨_, by rw [bif_dneg (by omega)], rfl, hf⟩)
          | succ m =>
            rw [drop_get (by omega), List.cons_append, find_cons] at hf
            rw [bif_dpos (by omega), grd_p (by omega), yc, Int.toNat_natCast]
            simp only [ho, Option.bind_some]
            cases hsp : sp (axesL.getD j default) with
            | true =>
              rw [hsp] at hf
              exact .inr (.inr ⟨_, rfl, PR.yes hf⟩)
            | false =>
              rw [hsp] at hf
              exact .inl ⟨_, m, rfl, Nat.lt_succ_self m, rfl, j + 1, by simp only [wn (show j < 4294967296 by omega)], by omega, hf⟩
        · rintro ⟨d, x0⟩ ⟨hd, hf⟩
          simp only at hd hf ⊢
          subst hd
          simp only [shape_Centers_e, nearest_Search_e, Option.bind_some, yc]
          unfold lastC nearV2 at hf
          cases hus : usableV (srchV (cenV a) (cenV b) (IntKind.i64.wrap (ra + rb))).Normal with
          | false =>
            rw [hus] at hf
            exact ⟨_, rfl, PR.no hf⟩
          | true =>
            rw [hus, cond_true, find_cons] at hf
            simp only [cond_true, ho, Option.bind_some]
            refine ⟨_, rfl, ?_⟩
            simp only
            cases hsp : sp (srchV (cenV a) (cenV b) (IntKind.i64.wrap (ra + rb))).Normal with
            | true => rw [hsp] at hf; exact PR.yes hf
            | false => rw [hsp] at hf; exact PR.no hf
      unfold restC at hf
      cases hm : (meanV a b).2 with
      | false =>
        rw [hm] at hf
        simp only [cond_false, andC_out, support_Usable_e]
        exact rest false x0 rfl hf
      | true =>
        rw [hm, cond_true, List.cons_append, find_cons] at hf
        simp only [cond_true, ho, Option.bind_some, andC_out, support_Usable_e]
        cases hsp : sp (meanV a b).1 with
        | true => rw [hsp] at hf; exact ⟨_, rfl, PR.yes hf⟩
        | false => rw [hsp] at hf; exact rest false (meanV a b).1 rfl hf
theorem normals_Find_e (a : List IV3) (ra : Int) (b : List IV3) (rb : Int) (hs : List V3) (hh : hs.length < 4294967296) : (normals_Find_C a ra b rb hs).o = some (findV a ra b rb hs) := by
  obtain ⟨r, hr, h0, h1⟩ := cand_e (o := fun x => (normals_Find_B a ra b rb hs x).run NN) (sp := fun n => sepV n a ra b rb) (fun x => by
    simp only [normals_Find_B, T.run, plane_Separates_e, Option.bind_some]
    cases sepV x a ra b rb <;> rfl) YldS.dummy a b ra rb hs hh
  have e1 : (normals_candidates_C a ra b rb hs).o = some (a, b, ra, rb, hs) := rfl
  have e2 : (normals_Find_C a ra b rb hs).o = (T.run NN (.call (normals_candidates_C a ra b rb hs) [] fun y1 => .ret y1)).bind fun u => (normals_candidates_1_C (o := fun x => (normals_Find_B a ra b rb hs x).run NN) YldS.dummy u.1 u.2.1 u.2.2.1 u.2.2.2.1 u.2.2.2.2).o.bind fun r => bif r.1 then some (r.2.1, true) else some ((0, 0, 0), false) := rfl
  rw [e2]
  simp only [T.run, e1, Option.bind_some, hr, findV]
  cases hk : okF a ra b rb with
  | false => rw [h0 hk]; rfl
  | true =>
    have h := h1 hk
    generalize (candC a ra b rb hs).find? _ = F at h
    cases F with
    | none => have h : r.1 = false := h; rw [h]; rfl
    | some n => obtain ⟨h2, h3⟩ := (show r.1 = true ∧ r.2.1 = n from h); rw [h2, h3]; rfl
open Go.Proofs
def noWit : S_Witness := ⟨0, nl, nl⟩
noncomputable def fndK (s : S_Scene) (b : List S_Interval) (hs : List V3) (k : Nat) : V3 × Bool := findV (pointsF s b (pA s k)) (radOf s (pA s k)) (pointsF s b (pB s k)) (radOf s (pB s k)) ((hs.drop k).take 1)
noncomputable def nrK (s : S_Scene) (b : List S_Interval) (k : Nat) : S_Nearest := nearV2 (pointsF s b (pA s k)) (radOf s (pA s k)) (pointsF s b (pB s k)) (radOf s (pB s k))
noncomputable def ovK (s : S_Scene) (b : List S_Interval) (k : Nat) : Bool := ovV (nrK s b k).Left (nrK s b k).Right (pointsF s b (pA s k)) (radOf s (pA s k)) (pointsF s b (pB s k)) (radOf s (pB s k))
noncomputable def colK (s : S_Scene) (b : List S_Interval) (hs : List V3) (k : Nat) : Option S_Verdict := sw (!(fndK s b hs k).2 && ovK s b k) ⟨2, nl, ⟨(k : Int), (nrK s b k).Left, (nrK s b k).Right⟩⟩
noncomputable def misK (s : S_Scene) (b : List S_Interval) (hs : List V3) (k : Nat) : Bool := !(fndK s b hs k).2
noncomputable def clsV (s : S_Scene) (b : List S_Interval) (hs : List V3) : S_Verdict := if sceneV s = 0 ∧ boxV s.Robot b = true then
    (match scan (colK s b hs) (pairsV s).length 0 with
      | some v => v
      | none => ⟨bif noneB (misK s b hs) (pairsV s).length then 1 else 0, tab (fun k => (fndK s b hs k).1) (pairsV s).length, noWit⟩)
  else ⟨0, nl, noWit⟩
theorem findV_no {a : List IV3} {ra : Int} {b : List IV3} {rb : Int} {hs : List V3} (h : (findV a ra b rb hs).2 = false) : (findV a ra b rb hs).1 = (0, 0, 0) := by
  unfold findV at h ⊢
  generalize okF a ra b rb = k at h ⊢
  cases k with
  | false => rfl
  | true =>
    rw [cond_true] at h ⊢
    generalize List.find? _ _ = F at h ⊢
    cases F with
    | none => rfl
    | some n => cases h
theorem findV_yes {a : List IV3} {ra : Int} {b : List IV3} {rb : Int} {hs : List V3} (h : (findV a ra b rb hs).2 = true) : sepV (findV a ra b rb hs).1 a ra b rb = true := by
  unfold findV at h ⊢
  generalize okF a ra b rb = k at h ⊢
  cases k with
  | false => cases h
  | true =>
    rw [cond_true] at h ⊢
    generalize hF : List.find? _ _ = F at h ⊢
    cases F with
    | none => cases h
    | some n => exact List.find?_some (p := fun n => sepV n a ra b rb) hF
theorem half_skip {α : Type} {f : Nat → α} {z : α} {n j : Nat} (h : j < n) (e : f j = z) : half f z n j = half f z n (j + 1) := by
  unfold half
  rw [tab_succ, show n - j = (n - (j + 1)) + 1 by omega, List.replicate_succ, e, List.append_assoc]; rfl
theorem noneB_succ {g : Nat → Bool} {n : Nat} : noneB g (n + 1) = (noneB g n && !g n) := by
  rw [Bool.eq_iff_iff, Bool.and_eq_true, noneB_iff, noneB_iff, Bool.not_eq_true']
  constructor
  · exact fun h => ⟨fun i hi => h i (by omega), h n (by omega)⟩
  · intro h i hi
    by_cases e : i = n
    · rw [e]; exact h.2
    · exact h.1 i (by omega)
theorem hint_eq (hs : List V3) (j : Nat) : (hs.drop (min (j : Int) (hs.length : Int)).toNat).take ((min ((j + 1 : Nat) : Int) (hs.length : Int)).toNat - (min (j : Int) (hs.length : Int)).toNat) = (hs.drop j).take 1 := by
  by_cases h : j < hs.length
  · rw [show (min (j : Int) (hs.length : Int)).toNat = j by omega, show (min ((j + 1 : Nat) : Int) (hs.length : Int)).toNat - j = 1 by omega]
  · have e1 : hs.drop j = [] := List.drop_eq_nil_of_le (by omega)
    have e2 : hs.drop (min (j : Int) (hs.length : Int)).toNat = [] := List.drop_eq_nil_of_le (by omega)
    rw [e1, e2]; simp
theorem classify_Box_e (s : S_Scene) (b : List S_Interval) (hs : List V3) (hb : b.length < 4294967296) (hh : hs.length < 4294967296) : (classify_Box_C s b hs).o = some (clsV s b hs) := by
  show (classify_Box_T s b hs).run NN = _
  have hp := classify_place_e s b hb
  have hlen := pairs_len s
  simp only [classify_Box_T, T.run]
  rw [show (⟨s.Robot, s.Shapes, s.Skips⟩ : S_Scene) = s from rfl, hp]
  simp only [Option.bind_some]
  unfold clsV
  by_cases h : sceneV s = 0 ∧ boxV s.Robot b = true
  · rw [if_pos h, if_pos h]
    rw [bif_neg (by rfl), grd_p (by simp only; omega)]
    simp only [Int.toNat_natCast]
    refine (loop_scan (fun j => (half (fun k => (fndK s b hs k).1) ((0, 0, 0) : V3) (pairsV s).length j, noneB (misK s b hs) j, (j : Int))) (colK s b hs) (tab (fun k => (fndK s b hs k).1) (pairsV s).length, noneB (misK s b hs) (pairsV s).length) (pairsV s).length ?_ (show (pairsV s).length < 4294967296 by omega) (fun j hjl => ?_) ?_).trans ?_
    · rw [half_zero]
      have : noneB (misK s b hs) 0 = true := noneB_iff.2 fun i hi => by omega
      rw [this]; rfl
    · have hc := body_couple_e (b := b) h hjl
      dsimp only
      rw [bif_dpos (by omega), hc]
      simp only [Option.bind_some, wn (show j < 4294967296 by omega)]
      rw [grd_p (by omega), hint_eq, normals_Find_e _ _ _ _ _ (by simp; omega)]
      simp only [Option.bind_some]
      have ef : findV (pointsF s b (pA s j)) (radOf s (pA s j)) (pointsF s b (pB s j)) (radOf s (pB s j)) ((hs.drop j).take 1) = fndK s b hs j := rfl
      rw [ef, noneB_succ]
      unfold colK
      have hm : misK s b hs j = !(fndK s b hs j).2 := rfl
      rw [hm]
      cases hf : (fndK s b hs j).2 with
      | true =>
        simp only [cond_true, half_len (show j ≤ (pairsV s).length by omega)]
        rw [grd_p (by omega), grd_p (by omega), andC_out, Int.toNat_natCast, half_set hjl]
        simp only [Bool.not_true, Bool.not_false, Bool.and_true, Bool.false_and, sw, cond_false]
      | false =>
        have en := findV_no (ef ▸ hf)
        rw [ef] at en
        simp only [cond_false, shape_Centers_e, nearest_Search_e, Option.bind_some, overlap_Overlaps_e]
        have eo : ovV (srchV (cenV (pointsF s b (pA s j))) (cenV (pointsF s b (pB s j))) (IntKind.i64.wrap (radOf s (pA s j) + radOf s (pB s j)))).Left (srchV (cenV (pointsF s b (pA s j))) (cenV (pointsF s b (pB s j))) (IntKind.i64.wrap (radOf s (pA s j) + radOf s (pB s j)))).Right (pointsF s b (pA s j)) (radOf s (pA s j)) (pointsF s b (pB s j)) (radOf s (pB s j)) = ovK s b j := rfl
        rw [eo, half_skip hjl en]
        simp only [Bool.not_true, Bool.not_false, Bool.and_false, Bool.true_and]
        cases ovK s b j with
        | true => rfl
        | false => rfl
    · dsimp only
      rw [bif_dneg (by omega), half_all]
    · cases scan (colK s b hs) (pairsV s).length 0 with
      | some v => rfl
      | none => cases noneB (misK s b hs) (pairsV s).length <;> rfl
  · rw [if_neg h, if_neg h]; rfl
theorem cls_cases (s : S_Scene) (b : List S_Interval) (hs : List V3) :
    ((clsV s b hs).Kind = 0 ∧ (clsV s b hs).Witness = noWit) ∨
    ((clsV s b hs).Kind = 1 ∧ (clsV s b hs).Witness = noWit ∧ (sceneV s = 0 ∧ boxV s.Robot b = true) ∧ freeV s b (clsV s b hs).Normals = true) ∨
    ((clsV s b hs).Kind = 2 ∧ (clsV s b hs).Normals = [] ∧ collV s b (clsV s b hs).Witness = true ∧ (clsV s b hs).Witness.Left.length ≤ 8 ∧ (clsV s b hs).Witness.Right.length ≤ 8) := by
  unfold clsV
  by_cases h : sceneV s = 0 ∧ boxV s.Robot b = true
  · rw [if_pos h]
    cases hs' : scan (colK s b hs) (pairsV s).length 0 with
    | some v =>
      obtain ⟨j, -, hj, hc, -⟩ := scan_some _ _ hs'
      unfold colK sw at hc
      cases hk : (!(fndK s b hs j).2 && ovK s b j) with
      | false => rw [hk] at hc; cases hc
      | true =>
        rw [hk] at hc
        simp only [cond_true, Option.some.injEq] at hc
        subst hc
        simp only [Bool.and_eq_true] at hk
        have l := srchV_len (cenV (pointsF s b (pA s j))) (cenV (pointsF s b (pB s j))) (IntKind.i64.wrap (radOf s (pA s j) + radOf s (pB s j)))
        refine .inr (.inr ⟨rfl, rfl, ?_, l.1, l.2⟩)
        unfold collV
        rw [if_pos ⟨h, by simp only; omega, by simp only; omega⟩]
        exact hk.2
    | none =>
      dsimp only
      cases hn : noneB (misK s b hs) (pairsV s).length with
      | false => exact .inl ⟨rfl, rfl⟩
      | true =>
        refine .inr (.inl ⟨rfl, rfl, h, ?_⟩)
        simp only [freeV, Bool.and_eq_true, decide_eq_true_eq, noneB_iff, sepK, Bool.not_eq_false']
        refine ⟨h.1, h.2, tab_len _ _, fun k hk => ?_⟩
        rw [tab_get hk]
        have := noneB_iff.1 hn k hk
        simp only [misK, Bool.not_eq_false'] at this
        exact findV_yes this
  · rw [if_neg h]; exact .inl ⟨rfl, rfl⟩
theorem cls_len (s : S_Scene) (b : List S_Interval) (hs : List V3) : (clsV s b hs).Normals.length ≤ 576 := by
  have hl := pairs_len s
  rcases cls_cases s b hs with _ | _ | ⟨_, h, _⟩
  · unfold clsV
    split
    · split
      · rename_i hs'
        obtain ⟨j, -, hj, hc, -⟩ := scan_some _ _ hs'
        unfold colK sw at hc
        cases hk : (!(fndK s b hs j).2 && ovK s b j) with
        | false => rw [hk] at hc; cases hc
        | true =>
          rw [hk] at hc
          simp only [cond_true, Option.some.injEq] at hc
          subst hc; simp [nl]
      · simp only [tab_len]; exact hl
    · simp [nl]
  · unfold clsV
    split
    · split
      · rename_i hs'
        obtain ⟨j, -, hj, hc, -⟩ := scan_some _ _ hs'
        unfold colK sw at hc
        cases hk : (!(fndK s b hs j).2 && ovK s b j) with
        | false => rw [hk] at hc; cases hc
        | true =>
          rw [hk] at hc
          simp only [cond_true, Option.some.injEq] at hc
          subst hc; simp [nl]
      · simp only [tab_len]; exact hl
    · simp [nl]
  · rw [h]; simp
end Go.Abs
