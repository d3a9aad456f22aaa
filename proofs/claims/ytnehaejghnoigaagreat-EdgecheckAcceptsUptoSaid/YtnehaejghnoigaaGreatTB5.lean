import Derived.Test.YtnehaejghnoigaaGreatTB4
/-
  Weighted sums and overlaps of placed shapes: what the program and the reference compute is the same.
-/
namespace Go.Abs

/-- The sum of the first weights, as the machine has it. -/
def tW (w : List Int) : Nat → Int
  | 0 => 0
  | j + 1 => IntKind.i64.wrap (tW w j + w.getD j default)
/-- A weighted sum. -/
def cW (w : List Int) (g : Nat → Int) : Nat → Int
  | 0 => 0
  | j + 1 => IntKind.i64.wrap (cW w g j + IntKind.i64.wrap (w.getD j default * g j))
def cV (l : List IV3) (w : List Int) (j : Nat) : IV3 :=
  (⟨cW w (fun i => (l.getD i default).1.Lo) j, cW w (fun i => (l.getD i default).1.Hi) j⟩, ⟨cW w (fun i => (l.getD i default).2.1.Lo) j, cW w (fun i => (l.getD i default).2.1.Hi) j⟩, ⟨cW w (fun i => (l.getD i default).2.2.Lo) j, cW w (fun i => (l.getD i default).2.2.Hi) j⟩)
def badW (w : List Int) (j : Nat) : Bool := decide (w.getD j default < 0) || decide (w.getD j default > 65536)
def zc : IV3 × Int × Bool := ((⟨0, 0⟩, ⟨0, 0⟩, ⟨0, 0⟩), 0, false)
def okC (l : List IV3) (w : List Int) : Prop := placedV l = true ∧ w.length = l.length ∧ noneB (badW w) w.length = true ∧ 1 ≤ tW w w.length ∧ tW w w.length ≤ 65536
instance (l : List IV3) (w : List Int) : Decidable (okC l w) := by unfold okC; infer_instance
def combV (l : List IV3) (w : List Int) : IV3 × Int × Bool := if okC l w then (cV l w w.length, tW w w.length, true) else zc
theorem badW_iff {w : List Int} {n : Nat} : noneB (badW w) n = true ↔ ∀ j, j < n → 0 ≤ w.getD j default ∧ w.getD j default ≤ 65536 := by
  rw [noneB_iff]
  refine forall_congr' fun j => imp_congr Iff.rfl ?_
  simp only [badW, Bool.or_eq_false_iff, decide_eq_false_iff_not]; omega
theorem tW_ok {w : List Int} {n : Nat} (h : ∀ j, j < n → 0 ≤ w.getD j default ∧ w.getD j default ≤ 65536) (hn : n ≤ 8) : ∀ j, j ≤ n → 0 ≤ tW w j ∧ tW w j ≤ 65536 * (j : Int) ∧ ∀ i, i ≤ j → tW w i ≤ tW w j
  | 0, _ => ⟨by simp [tW], by simp [tW], fun i hi => by obtain rfl : i = 0 := by omega
                                                        exact Int.le_refl _⟩
  | j + 1, hj => by
    obtain ⟨h1, h2, h3⟩ := tW_ok h hn j (by omega)
    obtain ⟨q1, q2⟩ := h j (by omega)
    have e : tW w (j + 1) = tW w j + w.getD j default := by simp only [tW]; exact w64 (by omega) (by omega)
    refine ⟨by omega, by omega, fun i hi => ?_⟩
    by_cases e1 : i = j + 1
    · rw [e1]; omega
    · have := h3 i (by omega); omega
theorem no_placed {l : List IV3} {w : List Int} (hp : placedV l = false) : ¬ okC l w := fun h => by obtain ⟨h1, _⟩ := h; rw [hp] at h1; cases h1
theorem shape_Combine_e (l : List IV3) (w : List Int) : (shape_Combine_C l w).o = some (combV l w) := by
  show (shape_Combine_T l w).run NN = _
  simp only [shape_Combine_T, T.run, T.ix, shape_Placed_e, Option.bind_some, bif_out, andC_out, combV]
  cases hp : placedV l
  · rw [if_neg (no_placed hp)]; rfl
  · have hl8 := placed_len hp
    simp only [Bool.not_true, cond_false]
    by_cases hl : w.length = l.length
    · rw [bif_nne (by omega)]
      refine (loop_scan (fun j => ((cV l w j).1.Lo, (cV l w j).1.Hi, (cV l w j).2.1.Lo, (cV l w j).2.1.Hi, (cV l w j).2.2.Lo, (cV l w j).2.2.Hi, tW w j, (j : Int))) (fun j => sw (badW w j) zc) ((cV l w w.length).1.Lo, (cV l w w.length).1.Hi, (cV l w w.length).2.1.Lo, (cV l w w.length).2.1.Hi, (cV l w w.length).2.2.Lo, (cV l w w.length).2.2.Hi, tW w w.length) w.length rfl (show w.length < 4294967296 by omega) (fun j hj => ?_) ?_).trans ?_
      · dsimp only
        rw [bif_dpos (by omega), grd_p ⟨by omega, by omega⟩, Int.toNat_natCast, bif_tb, show (decide (w.getD j default < 0) || decide (w.getD j default > 65536)) = badW w j from rfl]
        cases badW w j
        · rw [cond_false, grd_p ⟨by omega, by omega⟩, wn (by omega)]; rfl
        · rfl
      · dsimp only
        rw [bif_dneg (by omega)]
      · rw [scan_sw]
        cases hb : noneB (badW w) w.length
        · rw [if_neg (fun h => by obtain ⟨_, _, h3, _⟩ := h; rw [hb] at h3; cases h3)]; rfl
        · simp only [sw, Bool.not_true, cond_false, bif_tb]
          by_cases h1 : tW w w.length < 1
          · rw [if_neg (fun h => by obtain ⟨_, _, _, h4, _⟩ := h; omega), decide_eq_true h1]; rfl
          · by_cases h2 : tW w w.length > 65536
            · rw [if_neg (fun h => by obtain ⟨_, _, _, _, h5⟩ := h; omega), decide_eq_false h1, decide_eq_true h2]; rfl
            · rw [if_pos (show okC l w from ⟨hp, hl, hb, by omega, by omega⟩), decide_eq_false h1, decide_eq_false h2]; rfl
    · rw [bif_neq (by omega), if_neg (fun h => by obtain ⟨_, h2, _⟩ := h; exact hl h2)]; rfl
def badR (w : List Int) (j : Nat) : Bool := decide (w.getD j default < 0) || decide (w.getD j default > IntKind.i64.wrap (65536 - tW w j))
theorem badR_iff {w : List Int} {n : Nat} (hn : n ≤ 8) : noneB (badR w) n = true ↔ noneB (badW w) n = true ∧ tW w n ≤ 65536 := by
  rw [badW_iff]
  constructor
  · intro h
    rw [noneB_iff] at h
    have key : ∀ j, j ≤ n → 0 ≤ tW w j ∧ tW w j ≤ 65536 := by
      intro j
      induction j with
      | zero => intro _; simp [tW]
      | succ j ih =>
        intro hj
        obtain ⟨h1, h2⟩ := ih (by omega)
        have := h j (by omega)
        simp only [badR, Bool.or_eq_false_iff, decide_eq_false_iff_not] at this
        rw [w64 (x := 65536 - tW w j) (by omega) (by omega)] at this
        have e : tW w (j + 1) = tW w j + w.getD j default := by simp only [tW]; exact w64 (by omega) (by omega)
        omega
    refine ⟨fun j hj => ?_, (key n (Nat.le_refl _)).2⟩
    have h0 := key j (by omega)
    have := h j hj
    simp only [badR, Bool.or_eq_false_iff, decide_eq_false_iff_not] at this
    rw [w64 (x := 65536 - tW w j) (by omega) (by omega)] at this
    omega
  · rintro ⟨h, ht⟩
    rw [noneB_iff]
    intro j hj
    have h1 := tW_ok h hn n (Nat.le_refl _)
    have h0 := tW_ok h hn j (by omega)
    have h2 := h1.2.2 (j + 1) (by omega)
    have e : tW w (j + 1) = tW w j + w.getD j default := by simp only [tW]; have := h j hj; exact w64 (by omega) (by omega)
    have := h j hj
    simp only [badR, Bool.or_eq_false_iff, decide_eq_false_iff_not]
    rw [w64 (x := 65536 - tW w j) (by omega) (by omega)]
    omega
theorem ref10_Combine_e (l : List IV3) (w : List Int) : (ref10_Combine_C l w).o = some (combV l w) := by
  show (ref10_Combine_T l w).run NN = _
  simp only [ref10_Combine_T, T.run, T.ix, ref10_Placed_e, Option.bind_some, bif_out, andC_out, combV]
  cases hp : placedV l
  · rw [if_neg (no_placed hp)]; rfl
  · have hl8 := placed_len hp
    simp only [Bool.not_true, cond_false]
    by_cases hl : w.length = l.length
    · rw [bif_nne (by omega)]
      refine (loop_scan (fun j => (tW w j, (j : Int))) (fun j => sw (badR w j) zc) (tW w w.length) w.length rfl (show w.length < 4294967296 by omega) (fun j hj => ?_) ?_).trans ?_
      · dsimp only
        rw [bif_dpos (by omega), grd_p ⟨by omega, by omega⟩, grd_p ⟨by omega, by omega⟩, grd_p ⟨by omega, by omega⟩, bif_out, andC_out, Int.toNat_natCast, bif_tb, show (decide (w.getD j default < 0) || decide (w.getD j default > IntKind.i64.wrap (65536 - tW w j))) = badR w j from rfl, wn (by omega)]
        cases badR w j <;> rfl
      · dsimp only
        rw [bif_dneg (by omega)]
      · rw [scan_sw]
        have hiff := badR_iff (w := w) (n := w.length) (by omega)
        cases hb : noneB (badR w) w.length
        · rw [if_neg (fun h => by obtain ⟨_, _, h3, _, h5⟩ := h; rw [hiff.2 ⟨h3, h5⟩] at hb; cases hb)]; rfl
        · obtain ⟨hb1, hb2⟩ := hiff.1 hb
          simp only [sw, Bool.not_true, cond_false]
          by_cases h1 : tW w w.length < 1
          · rw [if_neg (fun h => by obtain ⟨_, _, _, h4, _⟩ := h; omega), bif_dpos h1]; rfl
          · rw [if_pos (show okC l w from ⟨hp, hl, hb1, by omega, by omega⟩), bif_dneg h1]
            refine (loop_to (fun j => ((cV l w j).1.Lo, (cV l w j).1.Hi, (cV l w j).2.1.Lo, (cV l w j).2.1.Hi, (cV l w j).2.2.Lo, (cV l w j).2.2.Hi, (j : Int))) ((cV l w w.length).1.Lo, (cV l w w.length).1.Hi, (cV l w w.length).2.1.Lo, (cV l w w.length).2.1.Hi, (cV l w w.length).2.2.Lo, (cV l w w.length).2.2.Hi) w.length rfl (show w.length < 4294967296 by omega) (fun j hj => ?_) ?_).trans rfl
            · dsimp only
              rw [bif_dpos (by omega)]
              simp only [grd_p (show 0 ≤ (j : Int) ∧ (j : Int) < (w.length : Int) by omega), grd_p (show 0 ≤ (j : Int) ∧ (j : Int) < (l.length : Int) by omega), Int.toNat_natCast]
              rw [wn (by omega)]; rfl
            · dsimp only
              rw [bif_dneg (by omega)]
    · rw [bif_neq (by omega), if_neg (fun h => by obtain ⟨_, h2, _⟩ := h; exact hl h2)]; rfl
theorem mul44 {a b : Int} (ha : 0 ≤ a ∧ a ≤ 65536) (hb : -268435456 ≤ b ∧ b ≤ 268435456) : -17592186044416 ≤ a * b ∧ a * b ≤ 17592186044416 := by
  have h : (a * b).natAbs ≤ 65536 * 268435456 := by rw [Int.natAbs_mul]; exact Nat.mul_le_mul (by omega) (by omega)
  omega
theorem cW_bd {w : List Int} {g : Nat → Int} {n : Nat} (h : ∀ j, j < n → 0 ≤ w.getD j default ∧ w.getD j default ≤ 65536) (hg : ∀ j, j < n → -268435456 ≤ g j ∧ g j ≤ 268435456) (hn : n ≤ 8) : ∀ j, j ≤ n → -17592186044416 * (j : Int) ≤ cW w g j ∧ cW w g j ≤ 17592186044416 * (j : Int)
  | 0, _ => by simp [cW]
  | j + 1, hj => by
    obtain ⟨h1, h2⟩ := cW_bd h hg hn j (by omega)
    have hm := mul44 (h j (by omega)) (hg j (by omega))
    simp only [cW]
    rw [w64 (x := w.getD j default * g j) (by omega) (by omega), w64 (by omega) (by omega)]; omega
/-- Numbers that are not too great. -/
def sm (x : Int) : Prop := -140737488355328 ≤ x ∧ x ≤ 140737488355328
def smV (v : IV3) : Prop := (sm v.1.Lo ∧ sm v.1.Hi) ∧ (sm v.2.1.Lo ∧ sm v.2.1.Hi) ∧ sm v.2.2.Lo ∧ sm v.2.2.Hi
theorem combV_ok {l : List IV3} {w : List Int} (h : (combV l w).2.2 = true) : 1 ≤ (combV l w).2.1 ∧ (combV l w).2.1 ≤ 65536 ∧ smV (combV l w).1 := by
  unfold combV at h ⊢
  by_cases hk : okC l w
  · rw [if_pos hk]
    obtain ⟨h1, h2, h3, h4, h5⟩ := hk
    have h8 := placed_len h1
    have hb := badW_iff.1 h3
    have hr : ∀ j, j < w.length → reachedV (l.getD j default) = true := fun j hj => placed_get h1 (by omega)
    have key : ∀ g : IV3 → Int, (∀ v : IV3, reachedV v = true → -268435456 ≤ g v ∧ g v ≤ 268435456) → sm (cW w (fun i => g (l.getD i default)) w.length) := fun g hg => by
      have := cW_bd hb (g := fun i => g (l.getD i default)) (fun j hj => hg _ (hr j hj)) (by omega) w.length (Nat.le_refl _)
      unfold sm; omega
    have rr : ∀ v : IV3, reachedV v = true → (-268435456 ≤ v.1.Lo ∧ v.1.Lo ≤ v.1.Hi ∧ v.1.Hi ≤ 268435456) ∧ (-268435456 ≤ v.2.1.Lo ∧ v.2.1.Lo ≤ v.2.1.Hi ∧ v.2.1.Hi ≤ 268435456) ∧ (-268435456 ≤ v.2.2.Lo ∧ v.2.2.Lo ≤ v.2.2.Hi ∧ v.2.2.Hi ≤ 268435456) := fun v hv => by
      simp only [reachedV, Bool.and_eq_true, rng_iff] at hv; exact hv
    exact ⟨h4, h5, ⟨key (fun v => v.1.Lo) (fun v hv => by have := rr v hv; omega), key (fun v => v.1.Hi) (fun v hv => by have := rr v hv; omega)⟩, ⟨key (fun v => v.2.1.Lo) (fun v hv => by have := rr v hv; omega), key (fun v => v.2.1.Hi) (fun v hv => by have := rr v hv; omega)⟩, key (fun v => v.2.2.Lo) (fun v hv => by have := rr v hv; omega), key (fun v => v.2.2.Hi) (fun v hv => by have := rr v hv; omega)⟩
  · rw [if_neg hk] at h; cases h
/-- The greatest of two absolute values. -/
def mxV (p q : Int) : Int := max (max (IntKind.i64.wrap p) (IntKind.i64.wrap (0 - IntKind.i64.wrap p))) (max (IntKind.i64.wrap q) (IntKind.i64.wrap (0 - IntKind.i64.wrap q)))
theorem farthest_e {p q : Int} (hp : -281474976710656 ≤ p ∧ p ≤ 281474976710656) (hq : -281474976710656 ≤ q ∧ q ≤ 281474976710656) : (overlap_farthest_C [IntKind.i64.wrap p, IntKind.i64.wrap q]).o = some (mxV p q) := by
  show (overlap_farthest_T [IntKind.i64.wrap p, IntKind.i64.wrap q]).run NN = _
  simp only [overlap_farthest_T, T.run]
  refine (loop_to (fun j => ((match j with | 0 => 0 | 1 => max (max 0 (IntKind.i64.wrap p)) (IntKind.i64.wrap (0 - IntKind.i64.wrap p)) | _ => max (max (max (max 0 (IntKind.i64.wrap p)) (IntKind.i64.wrap (0 - IntKind.i64.wrap p))) (IntKind.i64.wrap q)) (IntKind.i64.wrap (0 - IntKind.i64.wrap q)) : Int), (j : Int))) (max (max (max (max 0 (IntKind.i64.wrap p)) (IntKind.i64.wrap (0 - IntKind.i64.wrap p))) (IntKind.i64.wrap q)) (IntKind.i64.wrap (0 - IntKind.i64.wrap q))) 2 rfl (by decide) (fun j hj => ?_) ?_).trans ?_
  · rw [bif_dpos (by simp; omega), grd_p ⟨by simp, by simp; omega⟩, wn (by omega)]
    match j, hj with
    | 0, _ => rfl
    | 1, _ => rfl
  · rw [bif_dneg (by simp)]; rfl
  · simp only [Option.some.injEq, mxV]
    rw [w64 (x := p) (by omega) (by omega), w64 (x := q) (by omega) (by omega), w64 (x := 0 - p) (by omega) (by omega), w64 (x := 0 - q) (by omega) (by omega)]
    omega
theorem mx_div {p q t : Int} (hp : -281474976710656 ≤ p ∧ p ≤ 281474976710656) (hq : -281474976710656 ≤ q ∧ q ≤ 281474976710656) (ht : 1 ≤ t ∧ t ≤ 65536) :
    IntKind.i64.wrap ((IntKind.i64.wrap (IntKind.i64.wrap (mxV p q + t) - 1)).tdiv t) = cdiv (mxV p q) t := by
  have hm : 0 ≤ mxV p q ∧ mxV p q ≤ 281474976710656 := by
    unfold mxV
    rw [w64 (x := p) (by omega) (by omega), w64 (x := q) (by omega) (by omega), w64 (x := 0 - p) (by omega) (by omega), w64 (x := 0 - q) (by omega) (by omega)]
    omega
  generalize mxV p q = H at hm
  rw [w64 (x := H + t) (by omega) (by omega), w64 (x := H + t - 1) (by omega) (by omega), tdiv_pos (by omega)]
  have e : (H + t - 1) / t = cdiv H t := by
    symm
    rw [cdiv_spec (by omega)]
    have h1 := div_lo (a := H + t - 1) (b := t) (by omega)
    have h2 := div_hi (a := H + t - 1) (b := t) (by omega)
    omega
  rw [e]
  have := cdiv_bd (a := H) (b := t) (by omega)
  by_cases h0 : 0 < H
  · exact w64 (by omega) (by omega)
  · exact w64 (by omega) (by omega)
theorem ov_radius_e (a : Int) : (overlap_isRadius_C a).o = some (radV a) := by
  show (overlap_isRadius_T a).run NN = _
  have h := ref14_radius_e a
  rw [show (ref14_radius_C a).o = (ref14_radius_T a).run NN from rfl] at h
  rw [← h]
  simp only [overlap_isRadius_T, ref14_radius_T, T.run]
theorem excess_eq (u v : List Int) (a : List IV3) (ra : Int) (b : List IV3) (rb : Int) : (overlap_Excess_C u v a ra b rb).o = (ref14_Excess_C u v a ra b rb).o := by
  show (overlap_Excess_T u v a ra b rb).run NN = (ref14_Excess_T u v a ra b rb).run NN
  simp only [overlap_Excess_T, ref14_Excess_T, T.run, T.ix, shape_Combine_e, ref10_Combine_e, ov_radius_e, ref14_radius_e, Option.bind_some, bif_out, andC_out, ref14_size_e]
  cases h1 : (combV a u).2.2
  · rfl
  · cases h2 : (combV b v).2.2
    · rfl
    · obtain ⟨t1, t2, q1, q2, q3⟩ := combV_ok h1
      obtain ⟨_, _, r1, r2, r3⟩ := combV_ok h2
      unfold sm at q1 q2 q3 r1 r2 r3
      simp only [Bool.not_true, cond_false]
      cases (bif (combV a u).2.1 != (combV b v).2.1 then true else bif !radV ra then true else !radV rb)
      · simp only [cond_false, grd_p (show (combV a u).2.1 ≠ 0 by omega)]
        have hc : ∀ p q : Int, (ref1_Ceil_C (max (max (IntKind.i64.wrap p) (IntKind.i64.wrap (0 - IntKind.i64.wrap p))) (max (IntKind.i64.wrap q) (IntKind.i64.wrap (0 - IntKind.i64.wrap q)))) (combV a u).2.1).o = some (cdiv (mxV p q) (combV a u).2.1) :=
          fun p q => ref1_Ceil_e (((InR.wr _).max (InR.wr _)).max ((InR.wr _).max (InR.wr _))) (by omega)
        simp only [hc, Option.bind_some]
        rw [farthest_e (p := (combV a u).1.1.Lo - (combV b v).1.1.Hi) (q := (combV a u).1.1.Hi - (combV b v).1.1.Lo) (by omega) (by omega), Option.bind_some, mx_div (by omega) (by omega) ⟨t1, t2⟩,
          farthest_e (p := (combV a u).1.2.1.Lo - (combV b v).1.2.1.Hi) (q := (combV a u).1.2.1.Hi - (combV b v).1.2.1.Lo) (by omega) (by omega), Option.bind_some, mx_div (by omega) (by omega) ⟨t1, t2⟩,
          farthest_e (p := (combV a u).1.2.2.Lo - (combV b v).1.2.2.Hi) (q := (combV a u).1.2.2.Hi - (combV b v).1.2.2.Lo) (by omega) (by omega), Option.bind_some, mx_div (by omega) (by omega) ⟨t1, t2⟩]
      · rfl
theorem overlaps_eq (u v : List Int) (a : List IV3) (ra : Int) (b : List IV3) (rb : Int) : (overlap_Overlaps_C u v a ra b rb).o = (ref14_Overlaps_C u v a ra b rb).o := by
  show (overlap_Overlaps_T u v a ra b rb).run NN = (ref14_Overlaps_T u v a ra b rb).run NN
  simp only [overlap_Overlaps_T, ref14_Overlaps_T, T.run, excess_eq]
theorem ref14_Overlaps_t (u v : List Int) (a : List IV3) (ra : Int) (b : List IV3) (rb : Int) : ∃ y : Bool, (ref14_Overlaps_C u v a ra b rb).o = some y := by
  have ex : ∃ y : Int × Bool, (ref14_Excess_C u v a ra b rb).o = some y := by
    have e0 : (ref14_Excess_C u v a ra b rb).o = (ref14_Excess_T u v a ra b rb).run NN := rfl
    rw [e0]
    have hx : (combV a u).2.2 = true → 1 ≤ (combV a u).2.1 := fun h => (combV_ok h).1
    generalize hX : combV a u = x at hx
    simp only [ref14_Excess_T, T.run, T.ix, ref10_Combine_e, hX, ref14_radius_e, Option.bind_some, bif_out, andC_out]
    generalize combV b v = y
    cases hx2 : x.2.2
    · exact ⟨_, rfl⟩
    · have hx1 := hx hx2
      cases (bif !true then true else bif !y.2.2 then true else bif x.2.1 != y.2.1 then true else bif !radV ra then true else !radV rb)
      · have hc : ∀ p q : Int, (ref1_Ceil_C (max (max (IntKind.i64.wrap p) (IntKind.i64.wrap (0 - IntKind.i64.wrap p))) (max (IntKind.i64.wrap q) (IntKind.i64.wrap (0 - IntKind.i64.wrap q)))) x.2.1).o = some (cdiv (max (max (IntKind.i64.wrap p) (IntKind.i64.wrap (0 - IntKind.i64.wrap p))) (max (IntKind.i64.wrap q) (IntKind.i64.wrap (0 - IntKind.i64.wrap q)))) x.2.1) :=
          fun p q => ref1_Ceil_e (((InR.wr _).max (InR.wr _)).max ((InR.wr _).max (InR.wr _))) (by omega)
        simp only [cond_false, ref14_size_e, Option.bind_some, hc]
        generalize cdiv _ _ = c1
        cases decide (c1 > IntKind.i64.wrap (ra + rb))
        · simp only [cond_false]
          generalize cdiv _ _ = c2
          cases decide (c2 > IntKind.i64.wrap (ra + rb))
          · simp only [cond_false]
            generalize cdiv _ _ = c3
            cases decide (c3 > IntKind.i64.wrap (ra + rb)) <;> exact ⟨_, rfl⟩
          · exact ⟨_, rfl⟩
        · exact ⟨_, rfl⟩
      · exact ⟨_, rfl⟩
  obtain ⟨y, ey⟩ := ex
  have e0 : (ref14_Overlaps_C u v a ra b rb).o = (ref14_Overlaps_T u v a ra b rb).run NN := rfl
  rw [e0]
  simp only [ref14_Overlaps_T, T.run]
  rw [ey, Option.bind_some]
  cases y.2 <;> exact ⟨_, rfl⟩
/-- Whether the weights show an overlap. -/
noncomputable def ovV (u v : List Int) (a : List IV3) (ra : Int) (b : List IV3) (rb : Int) : Bool := (ref14_Overlaps_C u v a ra b rb).o.getD false
theorem ref14_Overlaps_e (u v : List Int) (a : List IV3) (ra : Int) (b : List IV3) (rb : Int) : (ref14_Overlaps_C u v a ra b rb).o = some (ovV u v a ra b rb) := by
  obtain ⟨y, hy⟩ := ref14_Overlaps_t u v a ra b rb
  rw [ovV, hy]; rfl
theorem overlap_Overlaps_e (u v : List Int) (a : List IV3) (ra : Int) (b : List IV3) (rb : Int) : (overlap_Overlaps_C u v a ra b rb).o = some (ovV u v a ra b rb) := by
  rw [overlaps_eq]; exact ref14_Overlaps_e u v a ra b rb
end Go.Abs

/-
  Proofs of collisions, results for motions; the law EdgecheckAccepts, as a plain law.
-/
namespace Go.Abs

/-- Whether a witness proves a collision over a box. -/
noncomputable def collV (s : S_Scene) (b : List S_Interval) (w : S_Witness) : Bool :=
  if (sceneV s = 0 ∧ boxV s.Robot b = true) ∧ 0 ≤ w.Pair ∧ w.Pair < ((pairsV s).length : Int) then
    ovV w.Left w.Right (pointsF s b (pA s w.Pair.toNat)) (radOf s (pA s w.Pair.toNat)) (pointsF s b (pB s w.Pair.toNat)) (radOf s (pB s w.Pair.toNat)) else false
theorem body_couple_e {s : S_Scene} {b : List S_Interval} (h : sceneV s = 0 ∧ boxV s.Robot b = true) {j : Nat} (hj : j < (pairsV s).length) :
    (body_couple_C ⟨s.Shapes, pairsV s, pointsV s b⟩ (j : Int)).o = some ⟨pointsF s b (pA s j), pointsF s b (pB s j), radOf s (pA s j), radOf s (pB s j)⟩ := by
  have hp := pairs_in h.1 hj
  show (body_couple_T ⟨s.Shapes, pairsV s, pointsV s b⟩ (j : Int)).run NN = _
  simp only [body_couple_T, T.run, Int.toNat_natCast, pointsV_get h.1 h.2, tab_len]
  rw [grd_p ⟨by omega, by omega⟩, grd_p hp.1, grd_p hp.1, grd_p hp.2, grd_p hp.2, tab_get (by omega), tab_get (by omega)]; rfl
theorem classify_CheckColliding_e (s : S_Scene) (b : List S_Interval) (w : S_Witness) (hbl : b.length < 4294967296) : (classify_CheckColliding_C s b w).o = some (collV s b w) := by
  show (classify_CheckColliding_T s b w).run NN = _
  have e2 : (classify_holds_1_C s b ⟨w⟩).o = some (collV s b w) := by
    show (classify_holds_1_T s b ⟨w⟩).run NN = _
    simp only [classify_holds_1_T, T.run, classify_place_e s b hbl, Option.bind_some]
    by_cases h : sceneV s = 0 ∧ boxV s.Robot b = true
    · rw [if_pos h]
      simp only [cond_true]
      have e3 : (collision_holds_C ⟨w⟩ ⟨s.Shapes, pairsV s, pointsV s b⟩).o = some (collV s b w) := by
        show (collision_holds_T ⟨w⟩ ⟨s.Shapes, pairsV s, pointsV s b⟩).run NN = _
        simp only [collision_holds_T, T.run, bif_out, andC_out, bif_tb, collV]
        by_cases hp : 0 ≤ w.Pair ∧ w.Pair < ((pairsV s).length : Int)
        · rw [if_pos ⟨h, hp⟩, decide_eq_false (p := w.Pair < 0) (by omega), decide_eq_false (p := w.Pair ≥ ((pairsV s).length : Int)) (by omega)]
          simp only [Bool.or_self, cond_false]
          obtain ⟨j, hj⟩ : ∃ j : Nat, w.Pair = (j : Int) := ⟨w.Pair.toNat, by omega⟩
          rw [hj, body_couple_e h (by omega), Option.bind_some, overlap_Overlaps_e, Option.bind_some, Int.toNat_natCast]
        · rw [if_neg (fun h' => hp h'.2)]
          by_cases h1 : w.Pair < 0
          · rw [decide_eq_true h1]; rfl
          · rw [decide_eq_true (p := w.Pair ≥ ((pairsV s).length : Int)) (by omega), Bool.or_true]; rfl
      simp only [e3, Option.bind_some]
    · rw [if_neg h, collV, if_neg (fun h' => h h'.1)]; rfl
  simp only [classify_CheckColliding_T, T.run, e2, Option.bind_some]
theorem ref14_CheckColliding_e (s : S_Scene) (b : List S_Interval) (w : S_Witness) (hbl : b.length < 4294967296) : (ref14_CheckColliding_C s b w).o = some (collV s b w) := by
  show (ref14_CheckColliding_T s b w).run NN = _
  simp only [ref14_CheckColliding_T, T.run, ref14_sides_e s b hbl, Option.bind_some, bif_out, andC_out, collV]
  by_cases h : sceneV s = 0 ∧ boxV s.Robot b = true
  · rw [if_pos h]
    simp only [Bool.not_true, cond_false, tab_len, bif_tb]
    by_cases hp : 0 ≤ w.Pair ∧ w.Pair < ((pairsV s).length : Int)
    · rw [if_pos ⟨h, hp⟩, decide_eq_false (p := w.Pair < 0) (by omega), decide_eq_false (p := w.Pair ≥ ((pairsV s).length : Int)) (by omega)]
      simp only [Bool.or_self, cond_false]
      rw [grd_p hp, grd_p hp, grd_p hp, grd_p hp, tab_get (by omega), tab_get (by omega), ref14_Overlaps_e, Option.bind_some]; rfl
    · rw [if_neg (fun h' => hp h'.2)]
      by_cases h1 : w.Pair < 0
      · rw [decide_eq_true h1]; rfl
      · rw [decide_eq_true (p := w.Pair ≥ ((pairsV s).length : Int)) (by omega), Bool.or_true]; rfl
  · rw [if_neg h, if_neg (fun h' => h h'.1)]; rfl

/-- Whether a witness refutes a motion. -/
noncomputable def refuV (s : S_Scene) (p q : List Int) (at_ : S_Piece) (w : S_Witness) : Bool :=
  if sceneV s = 0 ∧ (insideV s.Robot p && insideV s.Robot q) = true ∧ at_.Normals.length = 0 ∧ (pieceV p q at_.Depth at_.Index).2 = true then collV s (pieceV p q at_.Depth at_.Index).1 w else false
section
variable (s : S_Scene) (p q : List Int) (hp : p.length < 4294967296) (hq : q.length < 4294967296)
include hp hq
theorem edgecheck_Refutes_e (x : S_Piece) (w : S_Witness) : (edgecheck_Refutes_C s p q x w).o = some (refuV s p q x w) := by
  show (edgecheck_Refutes_T s p q x w).run NN = _
  have e1 : (replay_valid_C ⟨s, p, q, nl⟩).o = some (0, if sceneV s = 0 then 0 else 904) := by
    show (replay_valid_T ⟨s, p, q, nl⟩).run NN = _
    simp only [replay_valid_T, T.run, scene_Check_e, Option.bind_some]
    by_cases h : sceneV s = 0
    · rw [bif_nne h, if_pos h]
    · rw [bif_neq h, if_neg h]
  have e2 : (replay_inside_C ⟨s, p, q, nl⟩).o = some (0, bif insideV s.Robot p && insideV s.Robot q then 0 else 1201) := by
    show (replay_inside_T ⟨s, p, q, nl⟩).run NN = _
    simp only [replay_inside_T, T.run, config_Inside_e, Option.bind_some, bif_out, andC_out]
    cases insideV s.Robot p <;> cases insideV s.Robot q <;> rfl
  simp only [edgecheck_Refutes_T, T.run, e1, Option.bind_some, refuV]
  rw [grd_p (by decide), grd_p (by decide)]
  by_cases h : sceneV s = 0
  · rw [if_pos h, bif_nne rfl, e2, Option.bind_some]
    cases hi : insideV s.Robot p && insideV s.Robot q
    · rw [if_neg (fun h' => by cases h'.2.1)]; rfl
    · simp only [cond_true]
      rw [bif_nne rfl, config_Piece_e p q _ _ hp hq, Option.bind_some]
      cases hpc : (pieceV p q x.Depth x.Index).2
      · rw [if_neg (fun h' => by cases h'.2.2.2)]; rfl
      · simp only [cond_true]
        by_cases hn : x.Normals.length = 0
        · rw [bif_eq (by omega), if_pos (by refine ⟨h, ?_, hn, ?_⟩ <;> trivial), classify_CheckColliding_e s _ _ (piece_len p q _ _ hp), Option.bind_some]
        · rw [bif_ne (by omega), if_neg (fun h' => hn h'.2.2.1)]
  · rw [if_neg h, bif_neq (by decide), if_neg (fun h' => h h'.1)]
theorem ref19_Refutes_e (x : S_Piece) (w : S_Witness) : (ref19_Refutes_C s p q x w).o = some (refuV s p q x w) := by
  show (ref19_Refutes_T s p q x w).run NN = _
  have er : (ref19_ready_C s p q).o = some (decide (sceneV s = 0) && (insideV s.Robot p && insideV s.Robot q)) := by
    show (ref19_ready_T s p q).run NN = _
    simp only [ref19_ready_T, T.run, ref6_CheckScene_e, ref10_Inside_e, Option.bind_some]
    by_cases h : sceneV s = 0
    · rw [bif_eq h, decide_eq_true h]; cases insideV s.Robot p <;> rfl
    · rw [bif_ne h, decide_eq_false h]; rfl
  simp only [ref19_Refutes_T, T.run, er, Option.bind_some, bif_out, andC_out, refuV]
  by_cases h : sceneV s = 0
  · rw [decide_eq_true h, Bool.true_and]
    cases hi : insideV s.Robot p && insideV s.Robot q
    · rw [if_neg (fun h' => by cases h'.2.1)]; rfl
    · simp only [Bool.not_true, cond_false]
      by_cases hn : x.Normals.length = 0
      · rw [bif_dneg (by omega), ref10_Piece_e p q _ _ hp hq, Option.bind_some]
        cases hpc : (pieceV p q x.Depth x.Index).2
        · rw [if_neg (fun h' => by cases h'.2.2.2)]; rfl
        · rw [if_pos (by refine ⟨h, ?_, hn, ?_⟩ <;> trivial)]
          simp only [cond_true]
          rw [ref14_CheckColliding_e s _ _ (piece_len p q _ _ hp), Option.bind_some]
      · rw [bif_dpos (by omega), if_neg (fun h' => hn h'.2.2.1)]
  · rw [decide_eq_false h, if_neg (fun h' => h h'.1)]; rfl
/-- Whether a result is a proof. -/
noncomputable def accV (s : S_Scene) (p q : List Int) (r : S_EdgeResult) : Bool :=
  if r.Kind = 1 then decide (r.At.Depth = 0 ∧ r.At.Index = 0 ∧ r.At.Normals.length = 0 ∧ r.Witness.Pair = 0 ∧ r.Witness.Left.length = 0 ∧ r.Witness.Right.length = 0) && ((checkV s p q r.Pieces).2 == 0)
  else if r.Kind = 2 then decide (r.Pieces.length = 0) && refuV s p q r.At r.Witness else false
omit hp hq in
theorem bz (a : Int) : (a == 0) = decide (a = 0) := by by_cases h : a = 0 <;> simp [h]
omit hp hq in
theorem bl {α : Type} (l : List α) : (((l.length : Nat) : Int) == 0) = decide (l.length = 0) := by by_cases h : l.length = 0 <;> simp [h]
omit hp hq in
theorem edgecheck_isEmpty_e (x : S_Piece) (w : S_Witness) : (edgecheck_isEmpty_C x w).o = some (decide (x.Depth = 0 ∧ x.Index = 0 ∧ x.Normals.length = 0 ∧ w.Pair = 0 ∧ w.Left.length = 0 ∧ w.Right.length = 0)) := by
  show (edgecheck_isEmpty_T x w).run NN = _
  simp only [edgecheck_isEmpty_T, T.run, bz, bl]
  by_cases h1 : x.Depth = 0 <;> by_cases h2 : x.Index = 0 <;> by_cases h3 : x.Normals.length = 0 <;> by_cases h4 : w.Pair = 0 <;> by_cases h5 : w.Left.length = 0 <;> simp [h1, h2, h3, h4, h5]
omit hp hq in
theorem ref14_Empty_e (w : S_Witness) : (ref14_Empty_C w).o = some (decide (w.Pair = 0 ∧ w.Left.length = 0 ∧ w.Right.length = 0)) := by
  show (ref14_Empty_T w).run NN = _
  simp only [ref14_Empty_T, T.run, bz, bl]
  by_cases h4 : w.Pair = 0 <;> by_cases h5 : w.Left.length = 0 <;> simp [h4, h5]
theorem edgecheck_Accepts_e (r : S_EdgeResult) : (edgecheck_Accepts_C s p q r).o = some (accV s p q r) := by
  show (edgecheck_Accepts_T s p q r).run NN = _
  simp only [edgecheck_Accepts_T, T.run, edgecheck_isEmpty_e, edgecheck_Check_e s p q _ hp hq, edgecheck_Refutes_e s p q hp hq, Option.bind_some, accV, bl]
  by_cases h1 : r.Kind = 1
  · rw [bif_eq h1, if_pos h1]
    cases decide (r.At.Depth = 0 ∧ r.At.Index = 0 ∧ r.At.Normals.length = 0 ∧ r.Witness.Pair = 0 ∧ r.Witness.Left.length = 0 ∧ r.Witness.Right.length = 0) <;> rfl
  · rw [bif_ne h1, if_neg h1]
    by_cases h2 : r.Kind = 2
    · rw [bif_eq h2, if_pos h2]; cases decide (r.Pieces.length = 0) <;> rfl
    · rw [bif_ne h2, if_neg h2]
theorem ref19_Accepts_e (r : S_EdgeResult) : (ref19_Accepts_C s p q r).o = some (accV s p q r) := by
  show (ref19_Accepts_T s p q r).run NN = _
  simp only [ref19_Accepts_T, T.run, ref14_Empty_e, ref19_CheckEdge_e s p q _ hp hq, ref19_Refutes_e s p q hp hq, Option.bind_some, accV, bl, bif_out, andC_out]
  by_cases h1 : r.Kind = 1
  · rw [bif_eq h1, if_pos h1]
    by_cases k1 : r.At.Depth = 0
    · by_cases k2 : r.At.Index = 0
      · by_cases k3 : r.At.Normals.length = 0
        · rw [bif_nne k1, bif_nne k2, bif_dneg (by omega)]
          by_cases k4 : r.Witness.Pair = 0 ∧ r.Witness.Left.length = 0 ∧ r.Witness.Right.length = 0
          · rw [decide_eq_true k4, decide_eq_true (p := r.At.Depth = 0 ∧ _) ⟨k1, k2, k3, k4⟩]; rfl
          · rw [decide_eq_false k4, decide_eq_false (p := r.At.Depth = 0 ∧ _) (fun h => k4 h.2.2.2)]; rfl
        · rw [bif_nne k1, bif_nne k2, bif_dpos (by omega), decide_eq_false (p := r.At.Depth = 0 ∧ _) (fun h => k3 h.2.2.1)]; rfl
      · rw [bif_nne k1, bif_neq k2, decide_eq_false (p := r.At.Depth = 0 ∧ _) (fun h => k2 h.2.1)]; rfl
    · rw [bif_neq k1, decide_eq_false (p := r.At.Depth = 0 ∧ _) (fun h => k1 h.1)]; rfl
  · rw [bif_ne h1, if_neg h1]
    by_cases h2 : r.Kind = 2
    · rw [bif_eq h2, if_pos h2]; cases decide (r.Pieces.length = 0) <;> rfl
    · rw [bif_ne h2, if_neg h2]
theorem law20_accepts_e (r : S_EdgeResult) : (law20_accepts_C s p q r).o = some true := by
  show (law20_accepts_T s p q r).run NN = _
  simp only [law20_accepts_T, T.run, edgecheck_Refutes_e s p q hp hq, ref19_Refutes_e s p q hp hq, edgecheck_Accepts_e s p q hp hq, ref19_Accepts_e s p q hp hq, Option.bind_some, beq_self_eq_true, cond_true]
end
theorem edgecheckAccepts_true (a0 : S_Scene) (a1 a2 : List Int) (a3 : S_EdgeResult) (a4 a5 a6 : List Int) (a7 a8 a9 a10 : Int) (h1 : a1.length < 4294967296) (h2 : a2.length < 4294967296)
    (h4 : a4.length < 4294967296) (h5 : a5.length < 4294967296) (h6 : a6.length < 4294967296) : (law20_EdgecheckAccepts_C a0 a1 a2 a3 a4 a5 a6 a7 a8 a9 a10).o = some true := by
  show (law20_EdgecheckAccepts_T a0 a1 a2 a3 a4 a5 a6 a7 a8 a9 a10).run NN = _
  obtain ⟨m, em, hm⟩ := law20_motion_x a4 a5 a6 a7 h4 h5 h6
  have q1 : m.2.1.length < 4294967296 := by have := hm.1; omega
  have q2 : m.2.2.1.length < 4294967296 := by have := hm.2; omega
  obtain ⟨pr, ep, hp1, hp2⟩ := ref19_Prove_x m.1 m.2.1 m.2.2.1 m.2.2.2 q1 q2
  have hpb : PB 4096 pr.Pieces := ⟨hp1, fun x hx => Nat.le_trans (hp2 x hx) (by decide)⟩
  obtain ⟨y, ey, hy⟩ := law20_pieces_x pr.Pieces hpb (by decide) (IntKind.i64.wrap (a8.tdiv 6)) a9 a10
  simp only [law20_EdgecheckAccepts_T, T.run]
  rw [em, Option.bind_some, ep, Option.bind_some, make_Round_e (by decide) (by decide), Option.bind_some]
  have rd : ∀ k : Int, 0 < k → k ≤ 4611686018427387904 → (make_Round_C a10 k).o = some (a10 % k) := fun k h1 h2 => make_Round_e h1 h2
  have fin : ∀ z : Int × List S_Piece × Int × Int × List V3 × Int, (andC (some (.out z) : Option (Step3 Unit (Int × List S_Piece × Int × Int × List V3 × Int) Bool)) fun y19 =>
      law20_awake_C.o.bind fun y27 => bif y27 then ((law20_accepts_C ⟨a0.Robot, a0.Shapes, a0.Skips⟩ a1 a2 a3).o.bind fun y28 => bif y28 then ((law20_accepts_C ⟨m.1.Robot, m.1.Shapes, m.1.Skips⟩ m.2.1 m.2.2.1 a3).o.bind fun y29 => bif y29 then
        ((law20_accepts_C ⟨m.1.Robot, m.1.Shapes, m.1.Skips⟩ m.2.1 m.2.2.1 ⟨pr.Kind, pr.Pieces, pr.At, pr.Witness⟩).o.bind fun y30 => bif y30 then ((law20_accepts_C ⟨m.1.Robot, m.1.Shapes, m.1.Skips⟩ m.2.1 m.2.2.1 ⟨y19.1, y19.2.1, ⟨y19.2.2.1, y19.2.2.2.1, y19.2.2.2.2.1⟩, ⟨y19.2.2.2.2.2, pr.Witness.Left, pr.Witness.Right⟩⟩).o.bind fun y31 => some y31) else some false) else some false) else some false) else some false) = some true := by
    intro z
    rw [andC_out, awake20, Option.bind_some, cond_true, law20_accepts_e _ _ _ h1 h2, Option.bind_some, cond_true, law20_accepts_e _ _ _ q1 q2, Option.bind_some, cond_true, law20_accepts_e _ _ _ q1 q2, Option.bind_some, cond_true, law20_accepts_e _ _ _ q1 q2, Option.bind_some]
  cases a8 % 6 == 0
  rotate_left
  · rw [cond_true, rd 4 (by decide) (by decide), Option.bind_some]; exact fin _
  rw [cond_false]
  cases a8 % 6 == 1
  rotate_left
  · rw [cond_true, rd 3 (by decide) (by decide), Option.bind_some]; exact fin _
  rw [cond_false]
  cases a8 % 6 == 2
  rotate_left
  · rw [cond_true, rd 3 (by decide) (by decide), Option.bind_some]; exact fin _
  rw [cond_false]
  cases a8 % 6 == 3
  rotate_left
  · rw [cond_true]; exact fin _
  rw [cond_false]
  cases a8 % 6 == 4
  rotate_left
  · rw [cond_true, rd 3 (by decide) (by decide), Option.bind_some]; exact fin _
  rw [cond_false, ey, Option.bind_some]; exact fin _
end Go.Abs
