import Derived.Test.YtnehaejghnoigaaGreatLA
/-
  Checks of robots and scenes, configurations, pieces of motions: what the program and the reference compute is the same.
-/
namespace Go.Abs

/-! ### Lists of values by place -/
def tab {α : Type} (f : Nat → α) (n : Nat) : List α := (List.range n).map f
theorem tab_succ {α : Type} (f : Nat → α) (n : Nat) : tab f (n + 1) = tab f n ++ [f n] := by simp [tab, List.range_succ]
theorem tab_len {α : Type} (f : Nat → α) (n : Nat) : (tab f n).length = n := by simp [tab]
theorem tab_get {α : Type} {f : Nat → α} {n i : Nat} {d : α} (h : i < n) : (tab f n).getD i d = f i := by simp [tab, List.getD_eq_getElem?_getD, h]
theorem tab_congr {α : Type} {f g : Nat → α} {n : Nat} (h : ∀ i, i < n → f i = g i) : tab f n = tab g n := by
  unfold tab; apply List.map_congr_left; intro a ha; exact h a (List.mem_range.1 ha)
theorem tab_of {α : Type} [Inhabited α] (l : List α) : tab (fun i => l.getD i default) l.length = l := by
  apply List.ext_getElem?
  intro i
  simp only [tab, List.getElem?_map]
  by_cases h : i < l.length
  · simp [h]
  · simp [h]
/-- Half done: the first values, then what was there. -/
def half {α : Type} (f : Nat → α) (z : α) (n j : Nat) : List α := tab f j ++ List.replicate (n - j) z
theorem half_len {α : Type} {f : Nat → α} {z : α} {n j : Nat} (h : j ≤ n) : (half f z n j).length = n := by simp [half, tab_len]; omega
theorem half_set {α : Type} {f : Nat → α} {z : α} {n j : Nat} (h : j < n) : (half f z n j).set j (f j) = half f z n (j + 1) := by
  unfold half
  rw [List.set_append_right _ _ (by rw [tab_len]; omega), tab_len, Nat.sub_self]
  obtain ⟨m, hm⟩ : ∃ m, n - j = m + 1 := ⟨n - j - 1, by omega⟩
  rw [hm, List.replicate_succ, List.set_cons_zero, tab_succ, show n - (j + 1) = m by omega]; simp
theorem half_zero {α : Type} (f : Nat → α) (z : α) (n : Nat) : half f z n 0 = List.replicate n z := by simp [half, tab]
theorem half_all {α : Type} (f : Nat → α) (z : α) (n : Nat) : half f z n n = tab f n := by simp [half]

/-! ### Robots -/
def massB (n : Nat) (m : S_Mass) : Bool := (decide (0 ≤ m.Link) && decide (m.Link < (n : Int))) && (betV m.Mass 1 65536 && nearV m.Point 4194304)
theorem robot_validMass_e (r : S_Robot) (m : S_Mass) : (robot_validMass_C r m).o = some (massB r.Joints.length m) := by
  show (robot_validMass_T r m).run NN = _
  simp only [robot_validMass_T, T.run, robot_from1_e, robot_beyond_e, Option.bind_some, massB]
  cases decide (0 ≤ m.Link) <;> cases decide (m.Link < (r.Joints.length : Int)) <;> cases betV m.Mass 1 65536 <;> cases nearV m.Point 4194304 <;> rfl
def badM (n : Nat) (l : List S_Mass) (i : Nat) : Bool := !massB n (l.getD i default)
theorem ix_mass (l : List S_Mass) (js : List S_Joint) (ms : List S_Mass) (h : l.length < 4294967296) : (slices_IndexFunc_api_Mass_api_Mass_C l js ms).o = some (match scan (fun i => sw (badM js.length l i) (i : Int)) l.length 0 with | some x => x | none => -1, js, ms) := by
  show (slices_IndexFunc_api_Mass_api_Mass_T l js ms).run NN = _
  simp only [slices_IndexFunc_api_Mass_api_Mass_T, T.run]
  have e1 : ∀ m, (robot_Check_1_C m js ms).o = some (!massB js.length m, js, ms) := fun m => by
    show (robot_Check_1_T m js ms).run NN = _
    simp only [robot_Check_1_T, T.run, robot_validMass_e, Option.bind_some]
  refine (loop_scan (fun j => (js, ms, (j : Int))) (fun i => sw (badM js.length l i) ((i : Int), js, ms)) (js, ms) l.length rfl h (fun j hj => ?_) ?_).trans ?_
  · rw [bif_dpos (by simpa using hj), grd_p ⟨by simp, by simpa using hj⟩]
    simp only [e1, Option.bind_some, Int.toNat_natCast]
    rw [wn (by omega)]; unfold badM; cases massB js.length (l.getD j default) <;> rfl
  · rw [bif_dneg (by simp)]
  · have : ∀ n i, scan (fun i => sw (badM js.length l i) ((i : Int), js, ms)) n i = (scan (fun i => sw (badM js.length l i) (i : Int)) n i).map fun x => (x, js, ms) := by
      intro n
      induction n with
      | zero => intro i; rfl
      | succ n ih =>
        intro i; simp only [scan]
        cases badM js.length l i with
        | true => rfl
        | false => exact ih (i + 1)
    rw [this]
    cases scan (fun i => sw (badM js.length l i) (i : Int)) l.length 0 <;> rfl
theorem scan_ge {g : Nat → Bool} {n : Nat} : decide ((match scan (fun i => sw (g i) (i : Int)) n 0 with | some x => x | none => -1) ≥ 0) = !noneB g n := by
  cases h : scan (fun i => sw (g i) (i : Int)) n 0 with
  | none =>
    rw [scan_none] at h
    have : noneB g n = true := noneB_iff.2 fun i hi => by
      have := h i (Nat.zero_le _) (by omega)
      cases hg : g i with
      | true => rw [hg] at this; cases this
      | false => rfl
    rw [this]; rfl
  | some x =>
    obtain ⟨j, h1, h2, h3, -⟩ := scan_some _ _ h
    cases hg : g j with
    | false => rw [hg] at h3; cases h3
    | true =>
      rw [hg] at h3; simp only [sw, cond_true, Option.some.injEq] at h3
      have : noneB g n = false := by
        cases hn : noneB g n with
        | false => rfl
        | true => have := noneB_iff.1 hn j (by omega); rw [hg] at this; cases this
      rw [this, ← h3]; simp
theorem cf_mass (l : List S_Mass) (js : List S_Joint) (ms : List S_Mass) (h : l.length < 4294967296) : (slices_ContainsFunc_api_Mass_api_Mass_C l js ms).o = some (!noneB (badM js.length l) l.length, js, ms) := by
  show (slices_ContainsFunc_api_Mass_api_Mass_T l js ms).run NN = _
  simp only [slices_ContainsFunc_api_Mass_api_Mass_T, T.run, ix_mass l js ms h, Option.bind_some]
  rw [scan_ge]
def errJ (l : List S_Joint) (i : Nat) : Option Int := sw (jointB l i != 0) (jointB l i)
def robotV (r : S_Robot) : Int :=
  if r.Joints.length = 0 ∨ 10 < r.Joints.length then 801 else match scan (errJ r.Joints) r.Joints.length 0 with
    | some e => e
    | none => if 32 < r.Masses.length ∨ noneB (badM r.Joints.length r.Masses) r.Masses.length = false then 808 else 0
theorem robot_Check_e (r : S_Robot) : (robot_Check_C r).o = some (robotV r) := by
  show (robot_Check_T r).run NN = _
  simp only [robot_Check_T, T.run, bif_out, andC_out, robotV]
  by_cases h : r.Joints.length = 0 ∨ 10 < r.Joints.length
  · rw [if_pos h]
    rcases h with h | h
    · rw [bif_eq (by omega)]; rfl
    · rw [bif_ne (by omega), bif_dpos (by omega)]
  · rw [if_neg h, bif_ne (by omega), bif_dneg (by omega)]
    refine (scanI (errJ r.Joints) r.Joints.length (by omega) (fun j hj => ?_) ?_).trans ?_
    · rw [bif_dpos (by omega)]
      simp only [robot_checkJoint_e ⟨r.Joints, r.Masses⟩ hj (show r.Joints.length < 4294967296 by omega), Option.bind_some]
      rw [wn (by omega), sw_fin]; rfl
    · rw [bif_dneg (by omega)]
    · cases scan (errJ r.Joints) r.Joints.length 0 with
      | some e => rfl
      | none =>
        simp only
        by_cases hm : 32 < r.Masses.length
        · rw [bif_dpos (by omega), if_pos (Or.inl hm)]; rfl
        · rw [bif_dneg (by omega), cf_mass _ _ _ (by omega)]
          cases hn : noneB (badM r.Joints.length r.Masses) r.Masses.length
          · rw [if_pos (Or.inr rfl)]; rfl
          · rw [if_neg (by simp; omega)]; rfl
theorem ref6_CheckRobot_e (r : S_Robot) : (ref6_CheckRobot_C r).o = some (robotV r) := by
  show (ref6_CheckRobot_T r).run NN = _
  simp only [ref6_CheckRobot_T, T.run, bif_out, andC_out, robotV]
  by_cases h : r.Joints.length = 0 ∨ 10 < r.Joints.length
  · rw [if_pos h]
    rcases h with h | h
    · rw [bif_dpos (by omega)]; rfl
    · rw [bif_dneg (by omega), bif_dpos (by omega)]
  · rw [if_neg h, bif_dneg (by omega), bif_dneg (by omega)]
    refine (scanI (errJ r.Joints) r.Joints.length (by omega) (fun j hj => ?_) ?_).trans ?_
    · rw [bif_dpos (by omega)]
      simp only [ref6_checkJoint_e r.Joints hj (show r.Joints.length < 4294967296 by omega), Option.bind_some]
      rw [wn (by omega), sw_fin]; rfl
    · rw [bif_dneg (by omega)]
    · cases scan (errJ r.Joints) r.Joints.length 0 with
      | some e => rfl
      | none =>
        simp only
        by_cases hm : 32 < r.Masses.length
        · rw [bif_dpos (by omega), if_pos (Or.inl hm)]
        · rw [bif_dneg (by omega)]
          refine (scanI (fun i => sw (badM r.Joints.length r.Masses i) 808) r.Masses.length (by omega) (fun j hj => ?_) ?_).trans ?_
          · rw [bif_dpos (by omega), grd_p (by omega), wn (by omega), Int.toNat_natCast, ← sw_fin]
            simp only [ref6_between_e, ref6_Near_e _ (show (0 : Int) ≤ 4194304 by decide) (by decide), Option.bind_some, bif_out, andC_out]
            refine congrArg (fun b => bif b then some (Step3.fin 808) else some (Step3.next ((j + 1 : Nat) : Int))) ?_
            unfold badM massB
            generalize r.Masses.getD j default = m
            have e1 : decide (m.Link < 0) = !decide (0 ≤ m.Link) := by rw [Bool.eq_iff_iff]; simp
            have e2 : decide (m.Link ≥ (r.Joints.length : Int)) = !decide (m.Link < (r.Joints.length : Int)) := by rw [Bool.eq_iff_iff]; simp
            rw [e1, e2]
            cases decide (0 ≤ m.Link) <;> cases decide (m.Link < (r.Joints.length : Int)) <;> cases betV m.Mass 1 65536 <;> cases nearV m.Point 4194304 <;> rfl
          · rw [bif_dneg (by omega)]
          · rw [scan_sw]
            cases hn : noneB (badM r.Joints.length r.Masses) r.Masses.length
            · rw [if_pos (Or.inr rfl)]; rfl
            · rw [if_neg (by simp; omega)]; rfl
theorem robotV_ok {r : S_Robot} (h : robotV r = 0) : 1 ≤ r.Joints.length ∧ r.Joints.length ≤ 10 ∧ ∀ i, i < r.Joints.length → jointB r.Joints i = 0 := by
  unfold robotV at h
  split at h
  · cases h
  · refine ⟨by omega, by omega, fun i hi => ?_⟩
    split at h
    · rename_i e he
      obtain ⟨j, -, -, h3, -⟩ := scan_some _ _ he
      unfold errJ sw at h3
      cases hb : jointB r.Joints j != 0 with
      | false => rw [hb] at h3; cases h3
      | true =>
        rw [hb] at h3; simp only [cond_true, Option.some.injEq] at h3
        simp only [bne_iff_ne] at hb
        rw [h3] at hb; exact absurd h hb
    · rename_i he
      have := (scan_none _ _).1 he i (Nat.zero_le _) (by omega)
      unfold errJ sw at this
      cases hb : jointB r.Joints i != 0 with
      | false => simpa using hb
      | true => rw [hb] at this; cases this

/-! ### Scenes -/
def linkV (n : Nat) (k : Int) : Bool := decide (-1 ≤ k) && decide (k < (n : Int))
theorem scene_isLink_e (s : S_Scene) (k : Int) : (scene_isLink_C s k).o = some (linkV s.Robot.Joints.length k) := by
  show (scene_isLink_T s k).run NN = _
  simp only [scene_isLink_T, T.run, bif_some, bif_bf, linkV]
theorem ref6_isLink_e (r : S_Robot) (k : Int) : (ref6_isLink_C r k).o = some (linkV r.Joints.length k) := by
  show (ref6_isLink_T r k).run NN = _
  simp only [ref6_isLink_T, T.run, bif_some, bif_bf, linkV, ge_iff_le]
def farP (l : List (Int × Int × Int)) (i : Nat) : Bool := !nearV (l.getD i default) 4194304
def shapeV (n : Nat) (x : S_Shape) : Int :=
  if (linkV n x.Link && betV x.Radius 1 1048576) = false ∨ x.Points.length = 0 ∨ 8 < x.Points.length then 902 else if noneB (farP x.Points) x.Points.length then 0 else 805
theorem far3 (v : Int × Int × Int) : noneB (fun i => bey (([v.1, v.2.1, v.2.2] : List Int).getD i 0)) 3 = nearV v 4194304 := by
  rw [Bool.eq_iff_iff, noneB_iff, nearV_iff]
  constructor
  · intro h
    have a := h 0 (by decide); have b := h 1 (by decide); have c := h 2 (by decide)
    simp only [bey, List.getD_cons_zero, List.getD_cons_succ, Bool.or_eq_false_iff, decide_eq_false_iff_not] at a b c
    omega
  · intro h i hi
    match i, hi with
    | 0, _ => simp only [bey, List.getD_cons_zero, Bool.or_eq_false_iff, decide_eq_false_iff_not]; omega
    | 1, _ => simp only [bey, List.getD_cons_zero, List.getD_cons_succ, Bool.or_eq_false_iff, decide_eq_false_iff_not]; omega
    | 2, _ => simp only [bey, List.getD_cons_zero, List.getD_cons_succ, Bool.or_eq_false_iff, decide_eq_false_iff_not]; omega
theorem scene_checkShape_e (s : S_Scene) (x : S_Shape) : (scene_checkShape_C s x).o = some (shapeV s.Robot.Joints.length x) := by
  show (scene_checkShape_T s x).run NN = _
  simp only [scene_checkShape_T, T.run, scene_isLink_e, Option.bind_some, bif_out, andC_out, shapeV]
  cases hl : linkV s.Robot.Joints.length x.Link
  · rfl
  · simp only [Bool.not_true, cond_false, Bool.true_and]
    by_cases h1 : x.Radius < 1
    · rw [bif_dpos h1, if_pos]; · rfl
      simp [betV]; omega
    · rw [bif_dneg h1]
      by_cases h2 : x.Radius > 1048576
      · rw [bif_dpos h2, if_pos]; · rfl
        simp [betV]; omega
      · rw [bif_dneg h2]
        by_cases h3 : x.Points.length = 0
        · rw [bif_dpos (by omega), if_pos (Or.inr (Or.inl h3))]; rfl
        · rw [bif_dneg (by omega)]
          by_cases h4 : 8 < x.Points.length
          · rw [bif_dpos (by omega), if_pos (Or.inr (Or.inr h4))]
          · have hb : betV x.Radius 1 1048576 = true := by simp [betV]; omega
            rw [bif_dneg (by omega), hb, if_neg (fun h5 => by rcases h5 with h5 | h5 | h5; · cases h5
                                                              · omega
                                                              · omega)]
            refine (scanI (fun i => sw (farP x.Points i) 805) x.Points.length (by omega) (fun j hj => ?_) ?_).trans ?_
            · rw [bif_dpos (by omega), grd_p (by omega), Int.toNat_natCast, wn (by omega)]
              refine (scanI (fun i => sw (bey (([(x.Points.getD j default).1, (x.Points.getD j default).2.1, (x.Points.getD j default).2.2] : List Int).getD i 0)) (Step3.fin 805)) 3 (by decide) (fun k hk => ?_) ?_).trans ?_
              · rw [bif_dpos (by omega), grd_p (by omega), wn (by omega), Int.toNat_natCast, ← sw_fin]
                simp only [bif_tb]; rfl
              · rw [bif_dneg (by omega)]
              · rw [scan_sw, far3]; unfold farP
                cases nearV (x.Points.getD j default) 4194304 <;> rfl
            · rw [bif_dneg (by omega)]
            · rw [scan_sw]; cases noneB (farP x.Points) x.Points.length <;> rfl
def errS (n : Nat) (l : List S_Shape) (i : Nat) : Option Int := sw (shapeV n (l.getD i default) != 0) (shapeV n (l.getD i default))
def badK (n : Nat) (l : List S_Skip) (i : Nat) : Bool := !(linkV n (l.getD i default).A && linkV n (l.getD i default).B)
def sceneV (s : S_Scene) : Int :=
  if robotV s.Robot ≠ 0 then robotV s.Robot else if 24 < s.Shapes.length then 901 else match scan (errS s.Robot.Joints.length s.Shapes) s.Shapes.length 0 with
    | some e => e
    | none => if 64 < s.Skips.length then 903 else if noneB (badK s.Robot.Joints.length s.Skips) s.Skips.length then 0 else 903
theorem scene_Check_e (s : S_Scene) : (scene_Check_C s).o = some (sceneV s) := by
  show (scene_Check_T s).run NN = _
  simp only [scene_Check_T, T.run, robot_Check_e, Option.bind_some, sceneV]
  by_cases h : robotV s.Robot = 0
  · rw [bif_nne h, if_neg (by simpa using h)]
    by_cases h1 : 24 < s.Shapes.length
    · rw [bif_dpos (by omega), if_pos h1]
    · rw [bif_dneg (by omega), if_neg h1]
      refine (scanI (errS s.Robot.Joints.length s.Shapes) s.Shapes.length (by omega) (fun j hj => ?_) ?_).trans ?_
      · rw [bif_dpos (by omega), grd_p (by omega), wn (by omega), Int.toNat_natCast]
        simp only [scene_checkShape_e, Option.bind_some]
        rw [sw_fin]; rfl
      · rw [bif_dneg (by omega)]
      · cases scan (errS s.Robot.Joints.length s.Shapes) s.Shapes.length 0 with
        | some e => rfl
        | none =>
          simp only
          by_cases h2 : 64 < s.Skips.length
          · rw [bif_dpos (by omega), if_pos h2]
          · rw [bif_dneg (by omega), if_neg h2]
            refine (scanI (fun i => sw (badK s.Robot.Joints.length s.Skips i) 903) s.Skips.length (by omega) (fun j hj => ?_) ?_).trans ?_
            · rw [bif_dpos (by omega), grd_p (by omega), wn (by omega), Int.toNat_natCast, ← sw_fin]
              simp only [scene_isLink_e, Option.bind_some, bif_out, andC_out, badK]
              cases linkV s.Robot.Joints.length (s.Skips.getD j default).A <;> cases linkV s.Robot.Joints.length (s.Skips.getD j default).B <;> rfl
            · rw [bif_dneg (by omega)]
            · rw [scan_sw]; cases noneB (badK s.Robot.Joints.length s.Skips) s.Skips.length <;> rfl
  · rw [bif_neq h, if_pos h]
theorem ref6_CheckScene_e (s : S_Scene) : (ref6_CheckScene_C s).o = some (sceneV s) := by
  show (ref6_CheckScene_T s).run NN = _
  simp only [ref6_CheckScene_T, T.run, ref6_CheckRobot_e, Option.bind_some, sceneV]
  by_cases h : robotV s.Robot = 0
  · rw [bif_nne h, if_neg (by simpa using h)]
    by_cases h1 : 24 < s.Shapes.length
    · rw [bif_dpos (by omega), if_pos h1]
    · rw [bif_dneg (by omega), if_neg h1]
      refine (scanI (errS s.Robot.Joints.length s.Shapes) s.Shapes.length (by omega) (fun j hj => ?_) ?_).trans ?_
      · rw [bif_dpos (by omega), grd_p (by omega), wn (by omega), Int.toNat_natCast]
        unfold errS
        generalize s.Shapes.getD j default = x
        simp only [ref6_isLink_e, ref6_between_e, Option.bind_some, bif_out, andC_out, shapeV]
        cases hl : linkV s.Robot.Joints.length x.Link
        · rfl
        · cases hr : betV x.Radius 1 1048576
          · rfl
          · simp only [Bool.not_true, cond_false, Bool.and_self]
            by_cases h3 : x.Points.length = 0
            · rw [bif_dpos (by omega), if_pos (Or.inr (Or.inl h3))]; rfl
            · rw [bif_dneg (by omega)]
              by_cases h4 : 8 < x.Points.length
              · rw [bif_dpos (by omega), if_pos (Or.inr (Or.inr h4))]; rfl
              · rw [bif_dneg (by omega), if_neg (fun h5 => by rcases h5 with h5 | h5 | h5; · cases h5
                                                              · omega
                                                              · omega)]
                refine (scanI (fun i => sw (farP x.Points i) (Step3.fin 805)) x.Points.length (by omega) (fun k hk => ?_) ?_).trans ?_
                · rw [bif_dpos (by omega), grd_p (by omega), wn (by omega), Int.toNat_natCast, ← sw_fin]
                  simp only [ref6_Near_e _ (show (0 : Int) ≤ 4194304 by decide) (by decide), Option.bind_some]; rfl
                · rw [bif_dneg (by omega)]
                · rw [scan_sw]; cases noneB (farP x.Points) x.Points.length <;> rfl
      · rw [bif_dneg (by omega)]
      · cases scan (errS s.Robot.Joints.length s.Shapes) s.Shapes.length 0 with
        | some e => rfl
        | none =>
          simp only
          by_cases h2 : 64 < s.Skips.length
          · rw [bif_dpos (by omega), if_pos h2]
          · rw [bif_dneg (by omega), if_neg h2]
            refine (scanI (fun i => sw (badK s.Robot.Joints.length s.Skips i) 903) s.Skips.length (by omega) (fun j hj => ?_) ?_).trans ?_
            · rw [bif_dpos (by omega), wn (by omega), ← sw_fin]
              simp only [Int.toNat_natCast, grd_p (show 0 ≤ (j : Int) ∧ (j : Int) < (s.Skips.length : Int) by omega), ref6_isLink_e, Option.bind_some, bif_out, andC_out, badK]
              cases linkV s.Robot.Joints.length (s.Skips.getD j default).A <;> cases linkV s.Robot.Joints.length (s.Skips.getD j default).B <;> rfl
            · rw [bif_dneg (by omega)]
            · rw [scan_sw]; cases noneB (badK s.Robot.Joints.length s.Skips) s.Skips.length <;> rfl
  · rw [bif_neq h, if_pos h]

/-! ### Configurations -/
def outJ (l : List S_Joint) (c : List Int) (i : Nat) : Bool := decide (c.getD i default < (l.getD i default).Lo) || decide (c.getD i default > (l.getD i default).Hi)
def insideV (r : S_Robot) (c : List Int) : Bool := decide (robotV r = 0) && (decide (c.length = r.Joints.length) && noneB (outJ r.Joints c) c.length)
theorem config_every_e (l : List S_Joint) (c : List Int) (h : l.length < 4294967296) : (config_every_api_Joint_int64_C l c).o = some (decide (c.length = l.length) && noneB (outJ l c) c.length) := by
  show (config_every_api_Joint_int64_T l c).run NN = _
  simp only [config_every_api_Joint_int64_T, T.run]
  have e1 : ∀ j x, (config_Inside_1_C j x).o = some (decide (j.Lo ≤ x) && decide (x ≤ j.Hi)) := fun j x => by
    show (config_Inside_1_T j x).run NN = _
    simp only [config_Inside_1_T, T.run, bif_some, bif_bf]
  by_cases h1 : c.length = l.length
  · rw [bif_nne (by omega), decide_eq_true h1, Bool.true_and]
    refine (scanI (fun i => sw (outJ l c i) false) l.length h (fun j hj => ?_) ?_).trans ?_
    · rw [bif_dpos (by omega), grd_p (by omega), grd_p (by omega), wn (by omega), Int.toNat_natCast, ← sw_fin]
      simp only [e1, Option.bind_some]
      refine congrArg (fun b => bif b then some (Step3.fin false) else some (Step3.next ((j + 1 : Nat) : Int))) ?_
      rw [Bool.eq_iff_iff]
      simp only [outJ, Bool.not_eq_true', Bool.and_eq_false_iff, Bool.or_eq_true, decide_eq_true_eq, decide_eq_false_iff_not]
      omega
    · rw [bif_dneg (by omega)]
    · rw [scan_sw, h1]; cases noneB (outJ l c) l.length <;> rfl
  · rw [bif_neq (by omega), decide_eq_false h1]; rfl
theorem config_Inside_e (r : S_Robot) (c : List Int) : (config_Inside_C r c).o = some (insideV r c) := by
  show (config_Inside_T r c).run NN = _
  simp only [config_Inside_T, T.run, robot_Check_e, Option.bind_some, insideV]
  by_cases h : robotV r = 0
  · have := robotV_ok h
    rw [bif_eq h, config_every_e _ _ (by omega), decide_eq_true h]; rfl
  · rw [bif_ne h, decide_eq_false h]; rfl
theorem ref10_Inside_e (r : S_Robot) (c : List Int) : (ref10_Inside_C r c).o = some (insideV r c) := by
  show (ref10_Inside_T r c).run NN = _
  simp only [ref10_Inside_T, T.run, ref6_CheckRobot_e, Option.bind_some, bif_out, andC_out, insideV]
  by_cases h : robotV r = 0
  · have := robotV_ok h
    rw [bif_nne h, decide_eq_true h, Bool.true_and]
    by_cases h1 : c.length = r.Joints.length
    · rw [bif_nne (by omega), decide_eq_true h1, Bool.true_and]
      refine (scanI (fun i => sw (outJ r.Joints c i) false) c.length (by omega) (fun j hj => ?_) ?_).trans ?_
      · rw [bif_dpos (by omega), wn (by omega), ← sw_fin]
        simp only [Int.toNat_natCast, grd_p (show 0 ≤ (j : Int) ∧ (j : Int) < (c.length : Int) by omega), grd_p (show 0 ≤ (j : Int) ∧ (j : Int) < (r.Joints.length : Int) by omega), bif_out, andC_out, bif_tb, outJ]
      · rw [bif_dneg (by omega)]
      · rw [scan_sw]; cases noneB (outJ r.Joints c) c.length <;> rfl
    · rw [bif_neq (by omega), decide_eq_false h1]; rfl
  · rw [bif_neq h, decide_eq_false h]; rfl
def big1 (l : List Int) (i : Nat) : Bool := decide (l.getD i default < -2147483648) || decide (l.getD i default > 2147483648)
def smallV (l : List Int) : Bool := noneB (big1 l) l.length
theorem config_small_e (l : List Int) (h : l.length < 4294967296) : (config_small_C l).o = some (smallV l) := by
  show (config_small_T l).run NN = _
  have e1 : ∀ x, (config_small_1_C x).o = some (decide (x < -2147483648) || decide (x > 2147483648)) := fun x => by
    show (config_small_1_T x).run NN = _
    simp only [config_small_1_T, T.run, bif_some, bif_tb]
  have e2 : (slices_IndexFunc_int64_int64_C l).o = some (match scan (fun i => sw (big1 l i) (i : Int)) l.length 0 with | some x => x | none => -1) := by
    show (slices_IndexFunc_int64_int64_T l).run NN = _
    simp only [slices_IndexFunc_int64_int64_T, T.run]
    refine (scanI (fun i => sw (big1 l i) (i : Int)) l.length h (fun j hj => ?_) ?_).trans ?_
    · rw [bif_dpos (by omega), grd_p (by omega), wn (by omega), Int.toNat_natCast, ← sw_fin]
      simp only [e1, Option.bind_some, big1]
    · rw [bif_dneg (by omega)]
    · cases scan (fun i => sw (big1 l i) (i : Int)) l.length 0 <;> rfl
  have e3 : (slices_ContainsFunc_int64_int64_C l).o = some (!smallV l) := by
    show (slices_ContainsFunc_int64_int64_T l).run NN = _
    simp only [slices_ContainsFunc_int64_int64_T, T.run, e2, Option.bind_some]
    rw [scan_ge]; rfl
  simp only [config_small_T, T.run, e3, Option.bind_some, Bool.not_not]
theorem ref10_small_e (l : List Int) (h : l.length < 4294967296) : (ref10_small_C l).o = some (smallV l) := by
  show (ref10_small_T l).run NN = _
  simp only [ref10_small_T, T.run]
  refine (scanI (fun i => sw (big1 l i) false) l.length h (fun j hj => ?_) ?_).trans ?_
  · rw [bif_dpos (by omega), wn (by omega), ← sw_fin]
    simp only [Int.toNat_natCast, grd_p (show 0 ≤ (j : Int) ∧ (j : Int) < (l.length : Int) by omega), bif_out, andC_out, bif_tb, big1]
  · rw [bif_dneg (by omega)]
  · rw [scan_sw]; unfold smallV; cases noneB (big1 l) l.length <;> rfl
def motionV (p q : List Int) (d : Int) : Bool := smallV p && (smallV q && (decide (p.length = q.length) && (decide (0 ≤ d) && decide (d ≤ 20))))
theorem beq_len {a b : Nat} : ((a : Int) == (b : Int)) = decide (a = b) := by rw [Bool.eq_iff_iff]; simp only [beq_iff_eq, decide_eq_true_eq]; omega
theorem config_isMotion_e (p q : List Int) (d : Int) (hp : p.length < 4294967296) (hq : q.length < 4294967296) : (config_isMotion_C p q d).o = some (motionV p q d) := by
  show (config_isMotion_T p q d).run NN = _
  simp only [config_isMotion_T, T.run, config_small_e p hp, config_small_e q hq, Option.bind_some, motionV, beq_len]
  cases decide (p.length = q.length) <;> cases smallV p <;> cases smallV q <;> cases decide (0 ≤ d) <;> rfl
theorem ref10_pieces_e (p q : List Int) (d : Int) (hp : p.length < 4294967296) (hq : q.length < 4294967296) : (ref10_pieces_C p q d).o = some (motionV p q d) := by
  show (ref10_pieces_T p q d).run NN = _
  simp only [ref10_pieces_T, T.run, ref10_small_e p hp, ref10_small_e q hq, Option.bind_some, motionV, beq_len, ge_iff_le]
  cases decide (p.length = q.length) <;> cases smallV p <;> cases smallV q <;> cases decide (0 ≤ d) <;> rfl
end Go.Abs

/-
  Pieces of motions, links, placed points, pairs: what the program and the reference compute is the same.
-/
namespace Go.Abs

def pieceI (p q : List Int) (d : Nat) (i : Int) (k : Nat) : S_Interval :=
  ⟨p.getD k default + min (i * (q.getD k default - p.getD k default)) ((i + 1) * (q.getD k default - p.getD k default)) / 2 ^ d,
   p.getD k default + cdiv (max (i * (q.getD k default - p.getD k default)) ((i + 1) * (q.getD k default - p.getD k default))) (2 ^ d)⟩
def pieceV (p q : List Int) (d i : Int) : List S_Interval × Bool :=
  if motionV p q d = true ∧ 0 ≤ i ∧ i < 2 ^ d.toNat then (tab (pieceI p q d.toNat i) p.length, true) else (nl, false)
theorem small_get {l : List Int} (h : smallV l = true) {i : Nat} (hi : i < l.length) : -2147483648 ≤ l.getD i default ∧ l.getD i default ≤ 2147483648 := by
  have := noneB_iff.1 h i hi
  simp only [big1, Bool.or_eq_false_iff, decide_eq_false_iff_not] at this
  omega
theorem motionV_iff {p q : List Int} {d : Int} : motionV p q d = true ↔ smallV p = true ∧ smallV q = true ∧ p.length = q.length ∧ 0 ≤ d ∧ d ≤ 20 := by
  simp only [motionV, Bool.and_eq_true, decide_eq_true_eq]
theorem pow20 {k : Nat} (h : k ≤ 20) : (2 : Int) ^ k ≤ 1048576 := by
  have : (2 : Int) ^ k ≤ 2 ^ 20 := by
    exact_mod_cast Nat.pow_le_pow_right (by decide : 0 < 2) h
  have e : (2 : Int) ^ 20 = 1048576 := by decide
  omega
theorem mul52 {i D : Int} (h0 : 0 ≤ i) (h1 : i ≤ 1048576) (h2 : -4294967296 ≤ D ∧ D ≤ 4294967296) : -4503599627370496 ≤ i * D ∧ i * D ≤ 4503599627370496 := by
  have h : (i * D).natAbs ≤ 1048576 * 4294967296 := by rw [Int.natAbs_mul]; exact Nat.mul_le_mul (by omega) (by omega)
  omega
theorem u64_id {d : Int} (h0 : 0 ≤ d) (h1 : d ≤ 20) : IntKind.u64.wrap d = d := by
  show (if (false && decide (d % 18446744073709551616 ≥ 9223372036854775808)) = true then d % 18446744073709551616 - 18446744073709551616 else d % 18446744073709551616) = d
  rw [if_neg (by simp)]; omega
theorem config_down_e (a : Int) (k : Nat) (hk : k ≤ 64) : (config_down_C a (k : Int)).o = some (a / 2 ^ k) := by
  show (config_down_T a (k : Int)).run NN = _
  simp only [config_down_T, T.run]
  rw [grd_p (by omega), Int.toNat_natCast, Nat.min_eq_left hk, fdiv_pow]
section
variable {a b i : Int} {k : Nat} (ha : -2147483648 ≤ a ∧ a ≤ 2147483648) (hb : -2147483648 ≤ b ∧ b ≤ 2147483648) (h0 : 0 ≤ i) (hi : i < 2 ^ k) (hk : k ≤ 20)
include ha hb h0 hi hk
theorem piece_in : IntKind.i64.wrap (b - a) = b - a ∧ IntKind.i64.wrap (i + 1) = i + 1 ∧ IntKind.i64.wrap (i * (b - a)) = i * (b - a) ∧ IntKind.i64.wrap ((i + 1) * (b - a)) = (i + 1) * (b - a) ∧
    InR (min (i * (b - a)) ((i + 1) * (b - a))) ∧ InR (max (i * (b - a)) ((i + 1) * (b - a))) ∧ InR (-(max (i * (b - a)) ((i + 1) * (b - a)))) ∧
    InR (a + min (i * (b - a)) ((i + 1) * (b - a)) / 2 ^ k) ∧ InR (a + cdiv (max (i * (b - a)) ((i + 1) * (b - a))) (2 ^ k)) := by
  have p20 := pow20 hk
  have hp := two_pow_pos k
  have m1 := mul52 h0 (by omega) (show -4294967296 ≤ b - a ∧ b - a ≤ 4294967296 by omega)
  have m2 := mul52 (i := i + 1) (by omega) (by omega) (show -4294967296 ≤ b - a ∧ b - a ≤ 4294967296 by omega)
  generalize i * (b - a) = u at *
  generalize (i + 1) * (b - a) = v at *
  have b1 : -4503599627370496 ≤ min u v ∧ min u v ≤ 4503599627370496 := by omega
  have b2 : -4503599627370496 ≤ max u v ∧ max u v ≤ 4503599627370496 := by omega
  have d1 := div_bd (a := min u v) hp
  have d2 := cdiv_bd (a := max u v) hp
  refine ⟨w64 (by omega) (by omega), w64 (by omega) (by omega), w64 (by omega) (by omega), w64 (by omega) (by omega), ⟨by omega, by omega⟩, ⟨by omega, by omega⟩, ⟨by omega, by omega⟩, ?_, ?_⟩
  · generalize min u v = x at *
    generalize x / 2 ^ k = y at *
    by_cases hx : 0 ≤ x
    · have := d1.1 hx; exact ⟨by omega, by omega⟩
    · have := d1.2 (by omega); exact ⟨by omega, by omega⟩
  · generalize max u v = x at *
    generalize cdiv x (2 ^ k) = y at *
    by_cases hx : 0 < x
    · have := d2.1 hx; exact ⟨by omega, by omega⟩
    · have := d2.2 (by omega); exact ⟨by omega, by omega⟩
theorem config_Piece_1_e : (config_Piece_1_C a b i (k : Int)).o = some (⟨a + min (i * (b - a)) ((i + 1) * (b - a)) / 2 ^ k, a + cdiv (max (i * (b - a)) ((i + 1) * (b - a))) (2 ^ k)⟩, i, (k : Int)) := by
  obtain ⟨e1, e2, e3, e4, e5, e6, e7, e8, e9⟩ := piece_in ha hb h0 hi hk
  show (config_Piece_1_T a b i (k : Int)).run NN = _
  have e0 : IntKind.i64.wrap (0 - max (i * (b - a)) ((i + 1) * (b - a))) = -(max (i * (b - a)) ((i + 1) * (b - a))) := by rw [Int.zero_sub]; exact e7.w
  have e10 : a - -(max (i * (b - a)) ((i + 1) * (b - a))) / 2 ^ k = a + cdiv (max (i * (b - a)) ((i + 1) * (b - a))) (2 ^ k) := by unfold cdiv; omega
  simp only [config_Piece_1_T, T.run, e1, e2, e3, e4, e0, config_down_e _ k (show k ≤ 64 by omega), Option.bind_some, e8.w, e10, e9.w]
end
theorem config_joined_e {p q : List Int} {k : Nat} {i : Int} (hp : smallV p = true) (hq : smallV q = true) (hl : p.length = q.length) (hn : p.length < 4294967296) (h0 : 0 ≤ i) (hi : i < 2 ^ k) (hk : k ≤ 20) :
    (config_joined_int64_int64_api_Interval_C p q i (k : Int)).o = some (tab (pieceI p q k i) p.length, i, (k : Int)) := by
  show (config_joined_int64_int64_api_Interval_T p q i (k : Int)).run NN = _
  simp only [config_joined_int64_int64_api_Interval_T, T.run]
  rw [grd_p ⟨by omega, by omega, by omega, by omega⟩, Int.toNat_natCast]
  refine (loop_to (fun j => (i, (k : Int), half (pieceI p q k i) ⟨0, 0⟩ p.length j, (j : Int))) (i, (k : Int), tab (pieceI p q k i) p.length) p.length ?_ hn (fun j hj => ?_) ?_).trans rfl
  · rw [half_zero]; rfl
  · rw [bif_dpos (by simpa using hj), grd_p ⟨by simp, by simpa using hj⟩, grd_p ⟨by simp, by simp; omega⟩]
    simp only [Int.toNat_natCast, config_Piece_1_e (small_get hp hj) (small_get hq (by omega : j < q.length)) h0 hi hk, Option.bind_some, half_len (show j ≤ p.length by omega)]
    rw [grd_p ⟨by omega, by omega⟩, grd_p ⟨hj, by omega⟩, wn (by omega)]
    exact congrArg (fun x => some (Step3.next (i, (k : Int), x, ((j + 1 : Nat) : Int)))) (half_set hj)
  · rw [bif_dneg (by simp)]; simp only [half_all]
theorem w2k {k : Nat} (h : k ≤ 20) : IntKind.i64.wrap (1 * 2 ^ k) = 2 ^ k := by
  have := pow20 h; have := two_pow_pos k
  rw [Int.one_mul]; exact w64 (by omega) (by omega)
theorem config_Piece_e (p q : List Int) (d i : Int) (hp : p.length < 4294967296) (hq : q.length < 4294967296) : (config_Piece_C p q d i).o = some (pieceV p q d i) := by
  show (config_Piece_T p q d i).run NN = _
  simp only [config_Piece_T, T.run, config_isMotion_e p q d hp hq, Option.bind_some, pieceV]
  by_cases hm : motionV p q d = true
  · have hm' := motionV_iff.1 hm
    obtain ⟨k, rfl⟩ : ∃ k : Nat, d = (k : Int) := ⟨d.toNat, by omega⟩
    have hk : k ≤ 20 := by omega
    rw [hm, Int.toNat_natCast]
    simp only [Bool.not_true, cond_false]
    by_cases h0 : i < 0
    · rw [bif_dpos h0, if_neg (by omega)]; rfl
    · rw [bif_dneg h0, grd_p (by omega), Nat.min_eq_left (by omega), w2k hk]
      simp only [andC_out]
      by_cases h1 : i ≥ 2 ^ k
      · rw [bif_dpos h1, if_neg (by omega)]
      · rw [bif_dneg h1, if_pos ⟨trivial, by omega, by omega⟩, config_joined_e hm'.1 hm'.2.1 hm'.2.2.1 hp (by omega) (by omega) hk]; rfl
  · rw [if_neg (fun h => hm h.1)]
    simp only [Bool.not_eq_true] at hm
    rw [hm]; rfl
theorem ref10_Piece_e (p q : List Int) (d i : Int) (hp : p.length < 4294967296) (hq : q.length < 4294967296) : (ref10_Piece_C p q d i).o = some (pieceV p q d i) := by
  show (ref10_Piece_T p q d i).run NN = _
  simp only [ref10_Piece_T, T.run, ref10_pieces_e p q d hp hq, Option.bind_some, pieceV]
  by_cases hm : motionV p q d = true
  · have hm' := motionV_iff.1 hm
    obtain ⟨k, rfl⟩ : ∃ k : Nat, d = (k : Int) := ⟨d.toNat, by omega⟩
    have hk : k ≤ 20 := by omega
    rw [hm, Int.toNat_natCast, u64_id (by omega) (by omega), Int.toNat_natCast]
    simp only [Bool.not_true, cond_false]
    by_cases h0 : i < 0
    · rw [bif_dpos h0, if_neg (by omega)]; rfl
    · rw [bif_dneg h0, grd_p (by omega), Nat.min_eq_left (by omega), w2k hk]
      simp only [andC_out]
      by_cases h1 : i ≥ 2 ^ k
      · rw [bif_dpos h1, if_neg (by omega)]
      · rw [bif_dneg h1, if_pos ⟨trivial, by omega, by omega⟩, grd_p (by omega)]
        refine (loop_to (fun j => (tab (pieceI p q k i) j, (j : Int))) (tab (pieceI p q k i) p.length) p.length rfl hp (fun j hj => ?_) ?_).trans rfl
        · obtain ⟨e1, e2, e3, e4, e5, e6, e7, e8, e9⟩ := piece_in (small_get hm'.1 hj) (small_get hm'.2.1 (by omega : j < q.length)) (by omega : 0 ≤ i) (by omega : i < 2 ^ k) hk
          rw [bif_dpos (by simpa using hj), grd_p ⟨by simp, by simp; omega⟩, grd_p ⟨by simp, by simpa using hj⟩, grd_p ⟨by simp, by simpa using hj⟩]
          simp only [Int.toNat_natCast, e1, e2, e3, e4, ref1_Floor_e e5 (two_pow_pos k), ref1_Ceil_e e6 (two_pow_pos k), Option.bind_some, e8.w, e9.w]
          rw [grd_p ⟨by omega, by omega⟩, grd_p ⟨by simp [tab_len]; omega, by simp [tab_len, maxLen_eq]; omega⟩, wn (by omega), tab_succ]; rfl
        · rw [bif_dneg (by simp)]
  · rw [if_neg (fun h => hm h.1)]
    simp only [Bool.not_eq_true] at hm
    rw [hm]; rfl
end Go.Abs

/-
  Links and placed points: what the program and the reference compute is the same.
-/
namespace Go.Abs

/-- What a joint without an error is like. -/
structure JointOk (l : List S_Joint) (i : Nat) : Prop where
  kind : 0 ≤ (l.getD i default).Kind ∧ (l.getD i default).Kind ≤ 6
  parent : -1 ≤ (l.getD i default).Parent ∧ (l.getD i default).Parent < (i : Int)
  off : nearV (l.getD i default).Offset 4194304 = true
  lim : (l.getD i default).Lo ≤ (l.getD i default).Hi ∧ -reachV (l.getD i default).Kind ≤ (l.getD i default).Lo ∧ (l.getD i default).Hi ≤ reachV (l.getD i default).Kind
  cost : costV (l.getD i default) = true
theorem jointB_ok {l : List S_Joint} {i : Nat} (h : jointB l i = 0) : JointOk l i := by
  unfold jointB at h
  simp only at h
  split at h
  · cases h
  · split at h
    · cases h
    · rename_i h2
      split at h
      · cases h
      · rename_i h3
        split at h
        · cases h
        · rename_i h4
          split at h
          · cases h
          · rename_i h5
            split at h
            · cases h
            · rename_i h6
              simp only [Bool.or_eq_true, decide_eq_true_eq, Bool.not_eq_true', Bool.not_eq_false] at h2 h3 h4 h5 h6
              exact ⟨by omega, by omega, h4, by omega, h6⟩
theorem robot_joint {r : S_Robot} (h : robotV r = 0) {i : Nat} (hi : i < r.Joints.length) : JointOk r.Joints i := jointB_ok ((robotV_ok h).2.2 i hi)

/-! ### Boxes -/
def notV (b : List S_Interval) (i : Nat) : Bool := !vV (b.getD i default)
def boxV (r : S_Robot) (b : List S_Interval) : Bool := decide (b.length = r.Joints.length) && noneB (notV b) b.length
theorem ref10_allValid_e (b : List S_Interval) (h : b.length < 4294967296) : (ref10_allValid_C b).o = some (noneB (notV b) b.length) := by
  show (ref10_allValid_T b).run NN = _
  simp only [ref10_allValid_T, T.run, ref1_Valid_e, Option.bind_some]
  refine (scanI (fun i => sw (notV b i) false) b.length h (fun j hj => ?_) ?_).trans ?_
  · rw [bif_dpos (by omega), grd_p (by omega), wn (by omega), Int.toNat_natCast, ← sw_fin]; rfl
  · rw [bif_dneg (by omega)]
  · rw [scan_sw]; cases noneB (notV b) b.length <;> rfl
theorem ref10_IsBox_e (r : S_Robot) (b : List S_Interval) (h : b.length < 4294967296) : (ref10_IsBox_C r b).o = some (boxV r b) := by
  show (ref10_IsBox_T r b).run NN = _
  simp only [ref10_IsBox_T, T.run, ref10_allValid_e b h, Option.bind_some, boxV, beq_len]
  cases decide (b.length = r.Joints.length) <;> rfl
theorem kinematics_isBox_e (r : S_Robot) (b : List S_Interval) (h : b.length < 4294967296) : (kinematics_isBox_C r b).o = some (boxV r b) := by
  have e1 : ∀ x, (kinematics_isBox_1_C x).o = some (!vV x) := fun x => by
    show (kinematics_isBox_1_T x).run NN = _
    simp only [kinematics_isBox_1_T, T.run, interval_Valid_e, Option.bind_some]
  have e2 : (slices_IndexFunc_api_Interval_api_Interval_C b).o = some (match scan (fun i => sw (notV b i) (i : Int)) b.length 0 with | some x => x | none => -1) := by
    show (slices_IndexFunc_api_Interval_api_Interval_T b).run NN = _
    simp only [slices_IndexFunc_api_Interval_api_Interval_T, T.run, e1, Option.bind_some]
    refine (scanI (fun i => sw (notV b i) (i : Int)) b.length h (fun j hj => ?_) ?_).trans ?_
    · rw [bif_dpos (by omega), grd_p (by omega), wn (by omega), Int.toNat_natCast, ← sw_fin]; rfl
    · rw [bif_dneg (by omega)]
    · cases scan (fun i => sw (notV b i) (i : Int)) b.length 0 <;> rfl
  have e3 : (slices_ContainsFunc_api_Interval_api_Interval_C b).o = some (!noneB (notV b) b.length) := by
    show (slices_ContainsFunc_api_Interval_api_Interval_T b).run NN = _
    simp only [slices_ContainsFunc_api_Interval_api_Interval_T, T.run, e2, Option.bind_some]
    exact congrArg some scan_ge
  show (kinematics_isBox_T r b).run NN = _
  simp only [kinematics_isBox_T, T.run, e3, Option.bind_some, boxV, beq_len, Bool.not_not]
  cases decide (b.length = r.Joints.length) <;> rfl

/-! ### Links -/
section
variable (r : S_Robot) (b : List S_Interval)
def lk1 (L : List S_Pose) (i : Nat) : S_Pose :=
  if (r.Joints.getD i default).Parent = -1 then jointV (r.Joints.getD i default) (b.getD i default) else compV (L.getD (r.Joints.getD i default).Parent.toNat default) (jointV (r.Joints.getD i default) (b.getD i default))
def lkL : Nat → List S_Pose
  | 0 => []
  | i + 1 => lkL i ++ [lk1 r b (lkL i) i]
def lkP (i : Nat) : S_Pose := lk1 r b (lkL r b i) i
theorem lk_tab : ∀ j, lkL r b j = tab (lkP r b) j
  | 0 => rfl
  | j + 1 => by rw [tab_succ, ← lk_tab j]; rfl
end
variable {r : S_Robot} {b : List S_Interval}
theorem half_get {α : Type} {f : Nat → α} {z d : α} {n j i : Nat} (h : i < j) : (half f z n j).getD i d = f i := by
  unfold half
  rw [List.getD_eq_getElem?_getD, List.getElem?_append_left (by rw [tab_len]; exact h), ← List.getD_eq_getElem?_getD, tab_get h]
theorem set_get_ne {α : Type} {l : List α} {i j : Nat} {x d : α} (h : i ≠ j) : (l.set i x).getD j d = l.getD j d := by
  rw [List.getD_eq_getElem?_getD, List.getElem?_set_ne h, List.getD_eq_getElem?_getD]
theorem set_get_eq {α : Type} {l : List α} {i : Nat} {x d : α} (h : i < l.length) : (l.set i x).getD i d = x := by
  rw [List.getD_eq_getElem?_getD, List.getElem?_set_self h]; rfl
theorem ref10_Links_e (hr : robotV r = 0) (hb : boxV r b = true) : (ref10_Links_C r b).o = some (tab (lkP r b) r.Joints.length) := by
  have hr' := robotV_ok hr
  have hb' := hb
  simp only [boxV, Bool.and_eq_true, decide_eq_true_eq] at hb'
  show (ref10_Links_T r b).run NN = _
  simp only [ref10_Links_T, T.run, ref6_CheckRobot_e, ref10_IsBox_e r b (by omega), hb, hr, Option.bind_some]
  rw [bif_nne rfl, andC_out, Bool.not_true, cond_false]
  refine (loop_to (fun j => (tab (lkP r b) j, (j : Int))) (tab (lkP r b) r.Joints.length) r.Joints.length rfl (show r.Joints.length < 4294967296 by omega) (fun j hj => ?_) ?_).trans rfl
  · have jo := robot_joint hr hj
    rw [bif_dpos (by simp; omega), grd_p ⟨by simp, by simpa using hj⟩, grd_p ⟨by simp, by simp; omega⟩]
    simp only [Int.toNat_natCast, ref10_Joint_e, Option.bind_some]
    rw [grd_p ⟨by omega, by omega⟩, tab_succ]
    by_cases hp : (r.Joints.getD j default).Parent = -1
    · have e : lkP r b j = jointV (r.Joints.getD j default) (b.getD j default) := by unfold lkP lk1; rw [if_pos hp]
      rw [bif_nne hp]
      simp only [andC_out]
      rw [grd_p ⟨by simp [tab_len]; omega, by simp [tab_len, maxLen_eq]; omega⟩, wn (by omega), e]
    · have jp := jo.parent
      have e : lkP r b j = compV ((tab (lkP r b) j).getD (r.Joints.getD j default).Parent.toNat default) (jointV (r.Joints.getD j default) (b.getD j default)) := by
        unfold lkP lk1; rw [if_neg hp, lk_tab]; rfl
      rw [bif_neq hp, grd_p ⟨by omega, by omega⟩, grd_p ⟨by omega, by rw [tab_len]; omega⟩, grd_p (by rw [tab_len]; omega)]
      simp only [ref1_Compose_e, Option.bind_some, andC_out]
      rw [grd_p ⟨by simp [tab_len]; omega, by simp [tab_len, maxLen_eq]; omega⟩, wn (by omega), e]
  · rw [bif_dneg (by simp; omega)]
theorem kinematics_links_e (hr : robotV r = 0) (hb : boxV r b = true) : (kinematics_links_C r b).o = some (tab (lkP r b) r.Joints.length) := by
  have hr' := robotV_ok hr
  have hb' := hb
  simp only [boxV, Bool.and_eq_true, decide_eq_true_eq] at hb'
  show (kinematics_links_T r b).run NN = _
  simp only [kinematics_links_T, T.run]
  rw [grd_p ⟨by omega, by omega, by omega, by omega⟩, Int.toNat_natCast]
  refine (loop_to (fun j => (half (lkP r b) (⟨(izv, izv, izv), izv⟩ : S_Pose) r.Joints.length j, (j : Int))) (tab (lkP r b) r.Joints.length) r.Joints.length ?_ (show r.Joints.length < 4294967296 by omega) (fun j hj => ?_) ?_).trans rfl
  · rw [half_zero]; rfl
  · have jo := robot_joint hr hj
    have jp := jo.parent
    rw [bif_dpos (by simp; omega), grd_p ⟨by simp, by simpa using hj⟩, grd_p ⟨by simp, by simp; omega⟩]
    simp only [Int.toNat_natCast, kinematics_Joint_e, Option.bind_some, List.length_set, half_len (show j ≤ r.Joints.length by omega)]
    rw [grd_p ⟨by omega, by omega⟩, grd_p ⟨hj, by omega⟩, wn (by omega)]
    by_cases hp : (r.Joints.getD j default).Parent = -1
    · have e : lkP r b j = jointV (r.Joints.getD j default) (b.getD j default) := by unfold lkP lk1; rw [if_pos hp]
      rw [bif_nne hp]
      simp only [andC_out]
      rw [← half_set hj, e]
    · have e : lkP r b j = compV (lkP r b (r.Joints.getD j default).Parent.toNat) (jointV (r.Joints.getD j default) (b.getD j default)) := by
        conv => lhs; unfold lkP lk1
        rw [if_neg hp, lk_tab, tab_get (by omega)]
      rw [bif_neq hp, grd_p ⟨by omega, by omega⟩, grd_p (by omega), grd_p ⟨by omega, by omega⟩, grd_p hj, set_get_ne (by omega), half_get (by omega), set_get_eq (by rw [half_len (by omega)]; exact hj)]
      simp only [pose_Compose_e, Option.bind_some]
      rw [grd_p ⟨by omega, by omega⟩, grd_p ⟨hj, by omega⟩, andC_out, List.set_set, ← e, half_set hj]
  · rw [bif_dneg (by simp)]; simp only [half_all]

/-! ### Placed points -/
def shapeOk (x : S_Shape) : Bool := (betV x.Radius 1 1048576 && decide (1 ≤ x.Points.length ∧ x.Points.length ≤ 8)) && noneB (farP x.Points) x.Points.length
def placeV (x : S_Shape) (p : S_Pose) : List IV3 := if shapeOk x then tab (fun i => moveV p (pointV (x.Points.getD i default))) x.Points.length else nl
theorem shapeOk_len {x : S_Shape} (h : shapeOk x = true) : 1 ≤ x.Points.length ∧ x.Points.length ≤ 8 := by
  simp only [shapeOk, Bool.and_eq_true, decide_eq_true_eq] at h; exact h.1.2
theorem shape_cond (x : S_Shape) {α : Type} (k : Bool → Option α) : (andC (bif decide (x.Radius < 1) then some (.out true) else bif decide (x.Radius > 1048576) then some (.out true) else bif decide ((x.Points.length : Int) < 1) then some (.out true) else
    some (.out (decide ((x.Points.length : Int) > 8)))) k) = k (!(betV x.Radius 1 1048576 && decide (1 ≤ x.Points.length ∧ x.Points.length ≤ 8))) := by
  simp only [bif_out, andC_out]
  congr 1
  rw [Bool.eq_iff_iff]
  simp only [bif_tb, betV, Bool.or_eq_true, Bool.not_eq_true', Bool.and_eq_false_iff, decide_eq_true_eq, decide_eq_false_iff_not]
  omega
theorem ref10_CheckShape_e (x : S_Shape) : (ref10_CheckShape_C x).o = some (shapeOk x) := by
  show (ref10_CheckShape_T x).run NN = _
  simp only [ref10_CheckShape_T, T.run, shape_cond, shapeOk]
  cases h : betV x.Radius 1 1048576 && decide (1 ≤ x.Points.length ∧ x.Points.length ≤ 8)
  · rfl
  · simp only [Bool.and_eq_true, decide_eq_true_eq] at h
    simp only [Bool.not_true, cond_false, Bool.true_and]
    refine (scanI (fun i => sw (farP x.Points i) false) x.Points.length (by omega) (fun k hk => ?_) ?_).trans ?_
    · rw [bif_dpos (by omega), grd_p (by omega), wn (by omega), Int.toNat_natCast, ← sw_fin]
      simp only [ref6_Near_e _ (show (0 : Int) ≤ 4194304 by decide) (by decide), Option.bind_some]; rfl
    · rw [bif_dneg (by omega)]
    · rw [scan_sw]; cases noneB (farP x.Points) x.Points.length <;> rfl
theorem shape_Check_e (x : S_Shape) : (shape_Check_C x).o = some (shapeOk x) := by
  show (shape_Check_T x).run NN = _
  simp only [shape_Check_T, T.run, shape_cond, shapeOk]
  cases h : betV x.Radius 1 1048576 && decide (1 ≤ x.Points.length ∧ x.Points.length ≤ 8)
  · rfl
  · simp only [Bool.and_eq_true, decide_eq_true_eq] at h
    simp only [Bool.not_true, cond_false, Bool.true_and]
    refine (scanI (fun i => sw (farP x.Points i) false) x.Points.length (by omega) (fun j hj => ?_) ?_).trans ?_
    · rw [bif_dpos (by omega), grd_p (by omega), Int.toNat_natCast, wn (by omega)]
      refine (scanI (fun i => sw (bey (([(x.Points.getD j default).1, (x.Points.getD j default).2.1, (x.Points.getD j default).2.2] : List Int).getD i 0)) (Step3.fin false)) 3 (by decide) (fun k hk => ?_) ?_).trans ?_
      · rw [bif_dpos (by omega), grd_p (by omega), wn (by omega), Int.toNat_natCast, ← sw_fin]
        simp only [bif_out, andC_out, bif_tb]; rfl
      · rw [bif_dneg (by omega)]
      · rw [scan_sw, far3]; unfold farP
        cases nearV (x.Points.getD j default) 4194304 <;> rfl
    · rw [bif_dneg (by omega)]
    · rw [scan_sw]; cases noneB (farP x.Points) x.Points.length <;> rfl
theorem ref10_Place_e (x : S_Shape) (p : S_Pose) : (ref10_Place_C x p).o = some (placeV x p) := by
  show (ref10_Place_T x p).run NN = _
  simp only [ref10_Place_T, T.run, ref10_CheckShape_e, Option.bind_some, placeV]
  cases h : shapeOk x
  · rfl
  · have hl := shapeOk_len h
    simp only [Bool.not_true, cond_false, if_true]
    refine (loop_to (fun j => (tab (fun i => moveV p (pointV (x.Points.getD i default))) j, (j : Int))) (tab (fun i => moveV p (pointV (x.Points.getD i default))) x.Points.length) x.Points.length rfl (show x.Points.length < 4294967296 by omega) (fun j hj => ?_) ?_).trans rfl
    · rw [bif_dpos (by simpa using hj), grd_p ⟨by simp, by simpa using hj⟩]
      simp only [Int.toNat_natCast, ref1_Point_e, ref1_Apply_e, Option.bind_some]
      rw [grd_p ⟨by simp [tab_len]; omega, by simp [tab_len, maxLen_eq]; omega⟩, wn (by omega), tab_succ]
    · rw [bif_dneg (by simp)]
theorem shape_Place_e (x : S_Shape) (p : S_Pose) : (shape_Place_C x p).o = some (placeV x p) := by
  show (shape_Place_T x p).run NN = _
  simp only [shape_Place_T, T.run, shape_Check_e, Option.bind_some, placeV]
  cases h : shapeOk x
  · rfl
  · have hl := shapeOk_len h
    simp only [Bool.not_true, cond_false, if_true]
    rw [grd_p ⟨by omega, by omega, by omega, by omega⟩, Int.toNat_natCast]
    refine (loop_to (fun j => (half (fun i => moveV p (pointV (x.Points.getD i default))) izv x.Points.length j, (j : Int))) (tab (fun i => moveV p (pointV (x.Points.getD i default))) x.Points.length) x.Points.length ?_ (show x.Points.length < 4294967296 by omega) (fun j hj => ?_) ?_).trans rfl
    · rw [half_zero]; rfl
    · rw [bif_dpos (by simpa using hj), grd_p ⟨by simp, by simpa using hj⟩]
      simp only [Int.toNat_natCast, matrix_Point_e, pose_Apply_e, Option.bind_some, half_len (show j ≤ x.Points.length by omega)]
      rw [grd_p ⟨by omega, by omega⟩, grd_p ⟨hj, by omega⟩, wn (by omega), ← half_set hj]
    · rw [bif_dneg (by simp)]; simp only [half_all]
def linkP (r : S_Robot) (b : List S_Interval) (k : Int) : S_Pose := if k = -1 then restV else lkP r b k.toNat
def pointsF (s : S_Scene) (b : List S_Interval) (i : Nat) : List IV3 := placeV (s.Shapes.getD i default) (linkP s.Robot b (s.Shapes.getD i default).Link)
def pointsV (s : S_Scene) (b : List S_Interval) : List (List IV3) := if sceneV s = 0 ∧ boxV s.Robot b = true then tab (pointsF s b) s.Shapes.length else nl
structure SceneOk (s : S_Scene) : Prop where
  robot : robotV s.Robot = 0
  len : s.Shapes.length ≤ 24
  shape : ∀ i, i < s.Shapes.length → shapeV s.Robot.Joints.length (s.Shapes.getD i default) = 0
  skips : s.Skips.length ≤ 64
theorem sceneV_ok {s : S_Scene} (h : sceneV s = 0) : SceneOk s := by
  unfold sceneV at h
  split at h
  · rename_i h1; exact absurd h h1
  · rename_i h1
    split at h
    · cases h
    · rename_i h2
      split at h
      · rename_i e he
        obtain ⟨j, -, -, h3, -⟩ := scan_some _ _ he
        unfold errS sw at h3
        cases hb : shapeV s.Robot.Joints.length (s.Shapes.getD j default) != 0 with
        | false => rw [hb] at h3; cases h3
        | true =>
          rw [hb] at h3; simp only [cond_true, Option.some.injEq] at h3
          simp only [bne_iff_ne] at hb
          rw [h3] at hb; exact absurd h hb
      · rename_i he
        split at h
        · cases h
        · rename_i h4
          refine ⟨by simpa using h1, by omega, fun i hi => ?_, by omega⟩
          have := (scan_none _ _).1 he i (Nat.zero_le _) (by omega)
          unfold errS sw at this
          cases hb : shapeV s.Robot.Joints.length (s.Shapes.getD i default) != 0 with
          | false => simpa using hb
          | true => rw [hb] at this; cases this
theorem shapeV_ok {n : Nat} {x : S_Shape} (h : shapeV n x = 0) : shapeOk x = true ∧ -1 ≤ x.Link ∧ x.Link < (n : Int) := by
  unfold shapeV at h
  split at h
  · cases h
  · rename_i h1
    split at h
    · rename_i h2
      have hb : (linkV n x.Link && betV x.Radius 1 1048576) = true := by
        cases hc : (linkV n x.Link && betV x.Radius 1 1048576) with
        | true => rfl
        | false => exact absurd (Or.inl hc) h1
      simp only [Bool.and_eq_true] at hb
      refine ⟨?_, ?_⟩
      · simp only [shapeOk, Bool.and_eq_true, decide_eq_true_eq]; exact ⟨⟨hb.2, by omega⟩, h2⟩
      · have := hb.1; simp only [linkV, Bool.and_eq_true, decide_eq_true_eq] at this; exact this
    · cases h
theorem ref10_Points_e (s : S_Scene) (b : List S_Interval) (hbl : b.length < 4294967296) : (ref10_Points_C s b).o = some (pointsV s b) := by
  show (ref10_Points_T s b).run NN = _
  simp only [ref10_Points_T, T.run, ref6_CheckScene_e, ref10_IsBox_e _ b hbl, Option.bind_some, pointsV]
  by_cases h : sceneV s = 0
  · rw [bif_nne h, andC_out]
    cases hb : boxV s.Robot b
    · rw [if_neg (fun h => by cases h.2)]; rfl
    · have so := sceneV_ok h
      rw [if_pos ⟨h, rfl⟩, Bool.not_true, cond_false, ref10_Links_e so.robot hb, Option.bind_some]
      refine (loop_to (fun j => (tab (pointsF s b) j, (j : Int))) (tab (pointsF s b) s.Shapes.length) s.Shapes.length rfl (show s.Shapes.length < 4294967296 by have := so.len; omega) (fun j hj => ?_) ?_).trans rfl
      · have so2 := so.len
        have sl := (shapeV_ok (so.shape j hj)).2
        rw [bif_dpos (by simpa using hj)]
        simp only [Int.toNat_natCast, ref1_Rest_e, Option.bind_some]
        rw [grd_p ⟨by omega, by omega⟩, wn (by omega), tab_succ]
        by_cases hp : (s.Shapes.getD j default).Link = -1
        · have e : pointsF s b j = placeV (s.Shapes.getD j default) restV := by unfold pointsF linkP; rw [if_pos hp]
          rw [bif_nne hp]
          simp only [andC_out]
          rw [grd_p ⟨by omega, by omega⟩]
          simp only [ref10_Place_e, Option.bind_some]
          rw [grd_p ⟨by simp [tab_len]; omega, by simp [tab_len, maxLen_eq]; omega⟩, e]
        · have e : pointsF s b j = placeV (s.Shapes.getD j default) ((tab (lkP s.Robot b) s.Robot.Joints.length).getD (s.Shapes.getD j default).Link.toNat default) := by
            unfold pointsF linkP; rw [if_neg hp, tab_get (by omega)]
          rw [bif_neq hp, grd_p ⟨by omega, by omega⟩, grd_p ⟨by omega, by rw [tab_len]; omega⟩]
          simp only [andC_out]
          rw [grd_p ⟨by omega, by omega⟩]
          simp only [ref10_Place_e, Option.bind_some]
          rw [grd_p ⟨by simp [tab_len]; omega, by simp [tab_len, maxLen_eq]; omega⟩, e]
      · rw [bif_dneg (by simp)]
  · rw [bif_neq h, andC_out, cond_true, if_neg (fun h' => h h'.1)]
theorem kinematics_Points_e (s : S_Scene) (b : List S_Interval) (hbl : b.length < 4294967296) : (kinematics_Points_C s b).o = some (pointsV s b) := by
  show (kinematics_Points_T s b).run NN = _
  simp only [kinematics_Points_T, T.run, scene_Check_e, kinematics_isBox_e _ b hbl, Option.bind_some, pointsV]
  cases hb : boxV s.Robot b
  · rw [if_neg (fun h => by cases h.2)]; rfl
  · simp only [Bool.not_true, cond_false, andC_out]
    by_cases h : sceneV s = 0
    · have so := sceneV_ok h
      have so2 := so.len
      rw [if_pos ⟨h, trivial⟩, bif_nne h, kinematics_links_e so.robot hb, Option.bind_some, grd_p ⟨by omega, by omega, by omega, by omega⟩, Int.toNat_natCast]
      refine (loop_to (fun j => (half (pointsF s b) nl s.Shapes.length j, (j : Int))) (tab (pointsF s b) s.Shapes.length) s.Shapes.length ?_ (show s.Shapes.length < 4294967296 by omega) (fun j hj => ?_) ?_).trans rfl
      · rw [half_zero]; rfl
      · have sl := (shapeV_ok (so.shape j hj)).2
        rw [bif_dpos (by simpa using hj), grd_p ⟨by simp, by simpa using hj⟩]
        simp only [Int.toNat_natCast, pose_Identity_e, Option.bind_some, half_len (show j ≤ s.Shapes.length by omega)]
        rw [wn (by omega), ← half_set hj]
        by_cases hp : (s.Shapes.getD j default).Link = -1
        · have e : pointsF s b j = placeV (s.Shapes.getD j default) restV := by unfold pointsF linkP; rw [if_pos hp]
          rw [bif_nne hp]
          simp only [andC_out, shape_Place_e, Option.bind_some]
          rw [grd_p ⟨by omega, by omega⟩, grd_p ⟨hj, by omega⟩, e]
        · have e : pointsF s b j = placeV (s.Shapes.getD j default) ((tab (lkP s.Robot b) s.Robot.Joints.length).getD (s.Shapes.getD j default).Link.toNat default) := by
            unfold pointsF linkP; rw [if_neg hp, tab_get (by omega)]
          rw [bif_neq hp, grd_p ⟨by omega, by rw [tab_len]; omega⟩]
          simp only [andC_out, shape_Place_e, Option.bind_some]
          rw [grd_p ⟨by omega, by omega⟩, grd_p ⟨hj, by omega⟩, e]
      · rw [bif_dneg (by simp)]; simp only [half_all]
    · rw [if_neg (fun h' => h h'.1), bif_neq h]
end Go.Abs

/-
  Pairs of shapes: what the program and the reference compute is the same.
-/
namespace Go.Abs

/-! ### Trees whose nodes have lesser parents; 0 is the root -/
section
variable (par : Nat → Nat) (mv : Nat → Prop) [DecidablePred mv]
inductive AncN : Nat → Nat → Prop
  | self {m : Nat} : 0 < m → AncN m m
  | up {m x : Nat} : 0 < m → AncN (par m) x → AncN m x
def cF : Nat → Nat → Nat
  | 0, _ => 0
  | d + 1, m => if m = 0 then 0 else if mv m then m else cF d (par m)
end
section
variable {par : Nat → Nat} {mv : Nat → Prop} [DecidablePred mv]
theorem AncN.pos {m x : Nat} (h : AncN par m x) : 0 < m ∧ 0 < x := by
  induction h with
  | self h => exact ⟨h, h⟩
  | up h _ ih => exact ⟨h, ih.2⟩
theorem AncN.le {n m x : Nat} (hp : ∀ m, 0 < m → m ≤ n → par m < m) (h : AncN par m x) : m ≤ n → x ≤ m := by
  induction h with
  | self => intro _; exact Nat.le_refl _
  | up h0 _ ih => rename_i m x _; intro hm; have := hp m h0 hm; have := ih (by omega); omega
theorem cF_fuel {n : Nat} (hp : ∀ m, 0 < m → m ≤ n → par m < m) : ∀ (d d' m : Nat), m ≤ n → m < d → m < d' → cF par mv d m = cF par mv d' m
  | 0, _, _, _, h, _ => by omega
  | _, 0, _, _, _, h => by omega
  | d + 1, d' + 1, m, hm, h1, h2 => by
    simp only [cF]
    by_cases h0 : m = 0
    · simp only [h0, if_true]
    · simp only [h0, if_false]
      have := hp m (by omega) hm
      by_cases hv : mv m
      · simp only [hv, if_true]
      · simp only [hv, if_false]; exact cF_fuel hp d d' (par m) (by omega) (by omega) (by omega)
theorem cF_anc {n : Nat} (hp : ∀ m, 0 < m → m ≤ n → par m < m) : ∀ (d m : Nat), m ≤ n → m < d → (∀ x, mv x → (AncN par m x ↔ AncN par (cF par mv d m) x)) ∧ (cF par mv d m ≠ 0 → mv (cF par mv d m) ∧ AncN par m (cF par mv d m)) ∧ cF par mv d m ≤ m
  | 0, _, _, h => by omega
  | d + 1, m, hm, h => by
    simp only [cF]
    by_cases h0 : m = 0
    · rw [if_pos h0]; subst h0; exact ⟨fun _ _ => Iff.rfl, fun h => absurd rfl h, Nat.le_refl _⟩
    · simp only [h0, if_false]
      have hl := hp m (by omega) hm
      by_cases hv : mv m
      · rw [if_pos hv]; exact ⟨fun _ _ => Iff.rfl, fun _ => ⟨hv, .self (by omega)⟩, Nat.le_refl _⟩
      · simp only [hv, if_false]
        obtain ⟨h1, h2, h3⟩ := cF_anc hp d (par m) (by omega) (by omega)
        refine ⟨fun x hx => ?_, fun hn => ⟨(h2 hn).1, .up (by omega) (h2 hn).2⟩, by omega⟩
        rw [← h1 x hx]
        constructor
        · intro ha
          cases ha with
          | self => exact absurd hx hv
          | up _ ha => exact ha
        · intro ha; exact .up (by omega) ha
/-- Two nodes have the same last movable node exactly if the same movable nodes lie above them. -/
theorem same_car {n : Nat} (hp : ∀ m, 0 < m → m ≤ n → par m < m) {a b d : Nat} (ha : a ≤ n) (hb : b ≤ n) (hd : n < d) : cF par mv d a = cF par mv d b ↔ ∀ x, mv x → (AncN par a x ↔ AncN par b x) := by
  obtain ⟨a1, a2, a3⟩ := cF_anc (mv := mv) hp d a ha (by omega)
  obtain ⟨b1, b2, b3⟩ := cF_anc (mv := mv) hp d b hb (by omega)
  constructor
  · intro h x hx; rw [a1 x hx, b1 x hx, h]
  · intro h
    have key : ∀ {a b : Nat}, a ≤ n → b ≤ n → cF par mv d a ≠ 0 → (∀ x, mv x → (AncN par a x ↔ AncN par b x)) → cF par mv d a ≤ cF par mv d b := by
      intro a b ha hb hn h
      obtain ⟨a1, a2, a3⟩ := cF_anc (mv := mv) hp d a ha (by omega)
      obtain ⟨b1, b2, b3⟩ := cF_anc (mv := mv) hp d b hb (by omega)
      have := (b1 _ (a2 hn).1).1 ((h _ (a2 hn).1).1 (a2 hn).2)
      exact this.le hp (by omega)
    by_cases h0 : cF par mv d a = 0
    · by_cases h1 : cF par mv d b = 0
      · omega
      · have := key hb ha h1 (fun x hx => (h x hx).symm); omega
    · have h2 := key ha hb h0 h
      have h3 := key hb ha (by omega) (fun x hx => (h x hx).symm)
      omega
end

/-! ### The tree of a robot -/
section
variable (r : S_Robot)
def parN (m : Nat) : Nat := ((r.Joints.getD (m - 1) default).Parent + 1).toNat
def mvN (m : Nat) : Prop := (r.Joints.getD (m - 1) default).Lo ≠ (r.Joints.getD (m - 1) default).Hi
instance : DecidablePred (mvN r) := fun m => inferInstanceAs (Decidable (_ ≠ _))
def carN (m : Nat) : Nat := cF (parN r) (mvN r) (r.Joints.length + 1) m
end
variable {r : S_Robot} (hr : robotV r = 0)
include hr
theorem parN_lt : ∀ m, 0 < m → m ≤ r.Joints.length → parN r m < m := fun m h0 hm => by
  have := (robot_joint hr (show m - 1 < r.Joints.length by omega)).parent
  unfold parN; omega
omit hr in
theorem carN_zero : carN r 0 = 0 := by
  unfold carN; simp only [cF, if_true]
theorem carN_succ {i : Nat} (hi : i < r.Joints.length) : carN r (i + 1) = if (r.Joints.getD i default).Lo = (r.Joints.getD i default).Hi then carN r ((r.Joints.getD i default).Parent + 1).toNat else i + 1 := by
  have hl := parN_lt hr (i + 1) (by omega) (by omega)
  unfold carN
  conv => lhs; simp only [cF]
  rw [if_neg (by omega)]
  by_cases h : (r.Joints.getD i default).Lo = (r.Joints.getD i default).Hi
  · rw [if_neg (fun hm => hm h), if_pos h]
    exact cF_fuel (parN_lt hr) _ _ (parN r (i + 1)) (by omega) (by omega) (by omega)
  · rw [if_pos (show mvN r (i + 1) from h), if_neg h]
theorem carN_le {m : Nat} (hm : m ≤ r.Joints.length) : carN r m ≤ m := (cF_anc (parN_lt hr) _ m hm (by omega)).2.2
def caP (r : S_Robot) (m : Nat) : Int := (carN r m : Int) - 1
theorem scene_carriers_e : (scene_carriers_C r).o = some (tab (caP r) (r.Joints.length + 1)) := by
  have hr' := robotV_ok hr
  show (scene_carriers_T r).run NN = _
  simp only [scene_carriers_T, T.run]
  rw [wn (by omega), Int.toNat_natCast, grd_p ⟨by omega, by omega, by omega, by omega⟩]
  simp only [List.length_replicate]
  rw [grd_p ⟨by omega, by omega⟩, grd_p ⟨by simp, by omega⟩]
  refine (loop_to (fun j => (half (caP r) 0 (r.Joints.length + 1) (j + 1), (j : Int))) (tab (caP r) (r.Joints.length + 1)) r.Joints.length ?_ (show r.Joints.length < 4294967296 by omega) (fun j hj => ?_) ?_).trans rfl
  · rw [← half_set (by omega), half_zero]
    have : caP r 0 = -1 := by unfold caP; rw [carN_zero]; rfl
    rw [this]; rfl
  · have jp := (robot_joint hr hj).parent
    rw [bif_dpos (by simpa using hj), grd_p ⟨by simp, by simpa using hj⟩]
    simp only [Int.toNat_natCast, half_len (show j + 1 ≤ r.Joints.length + 1 by omega), List.length_set]
    rw [wn (by omega), Int.toNat_natCast, grd_p ⟨by omega, by omega⟩, grd_p ⟨by omega, by omega⟩, w64 (x := (r.Joints.getD j default).Parent + 1) (by omega) (by omega)]
    have e := carN_succ hr hj
    by_cases h : (r.Joints.getD j default).Lo = (r.Joints.getD j default).Hi
    · have e2 : caP r (j + 1) = caP r ((r.Joints.getD j default).Parent + 1).toNat := by unfold caP; rw [e, if_pos h]
      rw [bif_eq h, grd_p ⟨by omega, by omega⟩, grd_p (by omega), grd_p ⟨by omega, by omega⟩, grd_p ⟨by omega, by omega⟩, set_get_ne (by omega), half_get (by omega), andC_out, List.set_set, ← half_set (j := j + 1) (by omega), e2]
    · have e2 : caP r (j + 1) = (j : Int) := by unfold caP; rw [e, if_neg h]; omega
      rw [bif_ne h, andC_out, ← half_set (j := j + 1) (by omega), e2]
  · rw [bif_dneg (by simp)]; simp only [half_all]
theorem ref6_Chain_e {k : Int} (h0 : -1 ≤ k) (h1 : k < (r.Joints.length : Int)) : ∃ L : List Int, (ref6_Chain_C r k).o = some L ∧ L.length ≤ r.Joints.length ∧ ∀ x : Nat, (x : Int) ∈ L ↔ AncN (parN r) (k + 1).toNat (x + 1) := by
  have hr' := robotV_ok hr
  have e0 : (ref6_Chain_C r k).o = (ref6_Chain_T r k).run NN := rfl
  rw [e0]
  simp only [ref6_Chain_T, T.run, ref6_CheckRobot_e, hr, ref6_isLink_e, Option.bind_some]
  rw [bif_nne rfl, andC_out, show linkV r.Joints.length k = true by simp [linkV]; omega, Bool.not_true, cond_false]
  refine ex_loop (β := List Int) (g := fun L => some L) (P := fun L => L.length ≤ r.Joints.length ∧ ∀ x : Nat, (x : Int) ∈ L ↔ AncN (parN r) (k + 1).toNat (x + 1))
    (fun (y : List Int × Int) => -1 ≤ y.2 ∧ y.2 < (r.Joints.length : Int) ∧ y.1.length + (y.2 + 1).toNat ≤ r.Joints.length ∧ ∀ x : Nat, ((x : Int) ∈ y.1 ∨ AncN (parN r) (y.2 + 1).toNat (x + 1)) ↔ AncN (parN r) (k + 1).toNat (x + 1))
    (fun (y : List Int × Int) => (y.2 + 1).toNat) (fun (L : List Int) => L.length ≤ r.Joints.length ∧ ∀ x : Nat, (x : Int) ∈ L ↔ AncN (parN r) (k + 1).toNat (x + 1)) ⟨h0, h1, ?_, fun x => ?_⟩ ?_ (fun y hy => ?_) (fun L hL => ⟨L, rfl, hL⟩)
  · simp [nl]; omega
  · simp [nl]
  · show (k + 1).toNat < 4294967296; omega
  · obtain ⟨a1, a2, a3, a4⟩ := hy
    by_cases hk : y.2 = -1
    · refine .inr ⟨y.1, by rw [bif_nne hk], by omega, fun x => ?_⟩
      rw [← a4 x]
      constructor
      · exact Or.inl
      · rintro (h | h)
        · exact h
        · have := h.pos.1; rw [hk] at this; exact absurd this (by decide)
    · left
      have jp := (robot_joint hr (show y.2.toNat < r.Joints.length by omega)).parent
      refine ⟨(y.2 :: y.1, (r.Joints.getD y.2.toNat default).Parent), ?_, ⟨jp.1, by omega, by simp only [List.length_cons]; omega, fun x => ?_⟩, by simp only; omega⟩
      · rw [bif_neq hk, grd_p ⟨by simp; omega, by simp [maxLen_eq]; omega⟩, grd_p ⟨by omega, by omega⟩]; rfl
      · rw [← a4 x]
        have hpar : parN r (y.2 + 1).toNat = ((r.Joints.getD y.2.toNat default).Parent + 1).toNat := by
          unfold parN; rw [show (y.2 + 1).toNat - 1 = y.2.toNat by omega]
        simp only [List.mem_cons]
        constructor
        · rintro ((h | h) | h)
          · right; rw [show (y.2 + 1).toNat = x + 1 by omega]; exact .self (by omega)
          · exact Or.inl h
          · right; exact .up (by omega) (hpar ▸ h)
        · rintro (h | h)
          · exact Or.inl (Or.inr h)
          · generalize hm : (y.2 + 1).toNat = m at h
            cases h with
            | self h => left; left; omega
            | up h ha => right; rw [← hm, hpar] at ha; exact ha
omit hr in
theorem ref6_member_e (l : List Int) (x : Int) (h : l.length < 4294967296) : (ref6_member_C l x).o = some (decide (x ∈ l)) := by
  show (ref6_member_T l x).run NN = _
  simp only [ref6_member_T, T.run]
  refine (scanI (fun i => sw (l.getD i default == x) true) l.length h (fun j hj => ?_) ?_).trans ?_
  · rw [bif_dpos (by omega), grd_p (by omega), wn (by omega), Int.toNat_natCast, ← sw_fin]
  · rw [bif_dneg (by omega)]
  · rw [scan_sw]
    have : noneB (fun i => l.getD i default == x) l.length = !decide (x ∈ l) := by
      rw [Bool.eq_iff_iff, noneB_iff, Bool.not_eq_true', decide_eq_false_iff_not]
      constructor
      · intro hn hx
        obtain ⟨i, hi, e⟩ := List.getElem_of_mem hx
        have := hn i hi
        rw [List.getD_eq_getElem?_getD, List.getElem?_eq_getElem hi, Option.getD_some, e] at this
        simp at this
      · intro hn i hi
        rw [List.getD_eq_getElem?_getD, List.getElem?_eq_getElem hi, Option.getD_some]
        simp only [beq_eq_false_iff_ne, ne_eq]
        intro e; apply hn; rw [← e]; exact List.getElem_mem hi
    rw [this]; cases decide (x ∈ l) <;> rfl
def betL (p : Nat → Bool) (n : Nat) : List Int := ((List.range n).filter p).map fun (i : Nat) => (i : Int)
omit hr in
theorem betL_succ (p : Nat → Bool) (n : Nat) : betL p (n + 1) = if p n then betL p n ++ [(n : Int)] else betL p n := by
  unfold betL; rw [List.range_succ, List.filter_append, List.map_append]
  cases h : p n <;> simp [h]
omit hr in
theorem betL_len (p : Nat → Bool) (n : Nat) : (betL p n).length ≤ n := by
  unfold betL; rw [List.length_map]; exact Nat.le_trans (List.length_filter_le _ _) (by simp)
omit hr in
theorem betL_mem {p : Nat → Bool} {n : Nat} {x : Int} : x ∈ betL p n ↔ ∃ i : Nat, x = (i : Int) ∧ i < n ∧ p i = true := by
  unfold betL; simp only [List.mem_map, List.mem_filter, List.mem_range]
  constructor
  · rintro ⟨i, ⟨h1, h2⟩, rfl⟩; exact ⟨i, rfl, h1, h2⟩
  · rintro ⟨i, rfl, h1, h2⟩; exact ⟨i, ⟨h1, h2⟩, rfl⟩
theorem ref6_Between_e {a b : Int} (a0 : -1 ≤ a) (a1 : a < (r.Joints.length : Int)) (b0 : -1 ≤ b) (b1 : b < (r.Joints.length : Int)) :
    ∃ L : List Int, (ref6_Between_C r a b).o = some L ∧ L.length ≤ r.Joints.length ∧ ∀ x : Int, x ∈ L ↔ ∃ i : Nat, x = (i : Int) ∧ i < r.Joints.length ∧ ¬ (AncN (parN r) (a + 1).toNat (i + 1) ↔ AncN (parN r) (b + 1).toNat (i + 1)) := by
  have hr' := robotV_ok hr
  obtain ⟨X, x1, x2, x3⟩ := ref6_Chain_e hr a0 a1
  obtain ⟨Y, y1, y2, y3⟩ := ref6_Chain_e hr b0 b1
  let p : Nat → Bool := fun i => !(decide ((i : Int) ∈ X) == decide ((i : Int) ∈ Y))
  refine ⟨betL p r.Joints.length, ?_, betL_len _ _, fun x => ?_⟩
  · show (ref6_Between_T r a b).run NN = _
    simp only [ref6_Between_T, T.run, ref6_CheckRobot_e, hr, ref6_isLink_e, Option.bind_some]
    rw [bif_nne rfl, show linkV r.Joints.length a = true by simp [linkV]; omega, show linkV r.Joints.length b = true by simp [linkV]; omega]
    simp only [Bool.not_true, cond_false, andC_out, x1, y1, Option.bind_some]
    refine (loop_to (fun j => (betL p j, (j : Int))) (betL p r.Joints.length) r.Joints.length rfl (show r.Joints.length < 4294967296 by omega) (fun j hj => ?_) ?_).trans rfl
    · have := betL_len p j
      rw [bif_dpos (by simpa using hj)]
      simp only [ref6_member_e X _ (show X.length < 4294967296 by omega), ref6_member_e Y _ (show Y.length < 4294967296 by omega), Option.bind_some]
      rw [wn (by omega), betL_succ, grd_p ⟨by simp; omega, by simp [maxLen_eq]; omega⟩]
      show andC (bif p j then _ else _) _ = _
      cases p j <;> rfl
    · rw [bif_dneg (by simp)]
  · rw [betL_mem]
    constructor
    · rintro ⟨i, h1, h2, h3⟩
      refine ⟨i, h1, h2, ?_⟩
      rw [← x3, ← y3]
      intro hh
      simp only [p, Bool.not_eq_true', beq_eq_false_iff_ne, ne_eq, decide_eq_decide] at h3
      exact h3 hh
    · rintro ⟨i, h1, h2, h3⟩
      refine ⟨i, h1, h2, ?_⟩
      rw [← x3, ← y3] at h3
      simp only [p, Bool.not_eq_true', beq_eq_false_iff_ne, ne_eq, decide_eq_decide]
      exact h3
theorem ref6_Rigid_e {a b : Int} (a0 : -1 ≤ a) (a1 : a < (r.Joints.length : Int)) (b0 : -1 ≤ b) (b1 : b < (r.Joints.length : Int)) : (ref6_Rigid_C r a b).o = some (decide (carN r (a + 1).toNat = carN r (b + 1).toNat)) := by
  have hr' := robotV_ok hr
  obtain ⟨L, l1, l2, l3⟩ := ref6_Between_e hr a0 a1 b0 b1
  show (ref6_Rigid_T r a b).run NN = _
  simp only [ref6_Rigid_T, T.run, ref6_CheckRobot_e, hr, ref6_isLink_e, Option.bind_some]
  rw [bif_nne rfl, show linkV r.Joints.length a = true by simp [linkV]; omega, show linkV r.Joints.length b = true by simp [linkV]; omega]
  simp only [Bool.not_true, cond_false, andC_out, l1, Option.bind_some]
  have hin : ∀ j, j < L.length → 0 ≤ L.getD j default ∧ L.getD j default < (r.Joints.length : Int) := fun j hj => by
    have : L.getD j default ∈ L := by rw [List.getD_eq_getElem?_getD, List.getElem?_eq_getElem hj, Option.getD_some]; exact List.getElem_mem hj
    obtain ⟨i, h1, h2, -⟩ := (l3 _).1 this
    rw [h1]; omega
  refine (scanI (fun j => sw (decide ((r.Joints.getD (L.getD j default).toNat default).Lo < (r.Joints.getD (L.getD j default).toNat default).Hi)) false) L.length (by omega) (fun j hj => ?_) ?_).trans ?_
  · rw [bif_dpos (by omega), grd_p (by omega), Int.toNat_natCast, grd_p (hin j hj), grd_p (by omega), grd_p (hin j hj), wn (by omega), ← sw_fin]
  · rw [bif_dneg (by omega)]
  · rw [scan_sw]
    have : noneB (fun j => decide ((r.Joints.getD (L.getD j default).toNat default).Lo < (r.Joints.getD (L.getD j default).toNat default).Hi)) L.length = decide (carN r (a + 1).toNat = carN r (b + 1).toNat) := by
      rw [Bool.eq_iff_iff, noneB_iff, decide_eq_true_eq]
      unfold carN
      rw [same_car (parN_lt hr) (by omega) (by omega) (by omega)]
      constructor
      · intro h x hx
        by_cases hA : AncN (parN r) (a + 1).toNat x ↔ AncN (parN r) (b + 1).toNat x
        · exact hA
        · exfalso
          have hx0 : 0 < x ∧ x ≤ r.Joints.length := by
            by_cases h1 : AncN (parN r) (a + 1).toNat x
            · have := h1.le (parN_lt hr) (by omega); exact ⟨h1.pos.2, by omega⟩
            · by_cases h2 : AncN (parN r) (b + 1).toNat x
              · have := h2.le (parN_lt hr) (by omega); exact ⟨h2.pos.2, by omega⟩
              · exact absurd ⟨fun h => absurd h h1, fun h => absurd h h2⟩ hA
          obtain ⟨i, rfl⟩ : ∃ i, x = i + 1 := ⟨x - 1, by omega⟩
          have hm : (i : Int) ∈ L := (l3 _).2 ⟨i, rfl, by omega, hA⟩
          obtain ⟨j, hj, e⟩ := List.getElem_of_mem hm
          have := h j hj
          have e2 : L.getD j default = (i : Int) := by rw [List.getD_eq_getElem?_getD, List.getElem?_eq_getElem hj, Option.getD_some, e]
          rw [e2, Int.toNat_natCast, decide_eq_false_iff_not] at this
          have jo := (robot_joint hr (show i < r.Joints.length by omega)).lim.1
          apply hx
          simp only [Nat.add_sub_cancel]; omega
      · intro h j hj
        have : L.getD j default ∈ L := by rw [List.getD_eq_getElem?_getD, List.getElem?_eq_getElem hj, Option.getD_some]; exact List.getElem_mem hj
        obtain ⟨i, h1, h2, h3⟩ := (l3 _).1 this
        rw [h1, Int.toNat_natCast, decide_eq_false_iff_not]
        intro hlt
        exact h3 (h (i + 1) (by show (r.Joints.getD (i + 1 - 1) default).Lo ≠ (r.Joints.getD (i + 1 - 1) default).Hi; simp only [Nat.add_sub_cancel]; omega))
    rw [this]; cases decide (carN r (a + 1).toNat = carN r (b + 1).toNat) <;> rfl
omit hr

/-! ### Pairs -/
def skB (l : List S_Skip) (a b : Int) (i : Nat) : Bool := ((l.getD i default).A == a && (l.getD i default).B == b) || ((l.getD i default).A == b && (l.getD i default).B == a)
def skV (s : S_Scene) (a b : Int) : Bool := !noneB (skB s.Skips a b) s.Skips.length
theorem scene_Skipped_e (s : S_Scene) (a b : Int) (h : s.Skips.length < 4294967296) : (scene_Skipped_C s a b).o = some (skV s a b) := by
  show (scene_Skipped_T s a b).run NN = _
  simp only [scene_Skipped_T, T.run, bif_out, andC_out, Bool.and_true, bif_tb]
  refine (scanI (fun i => sw (skB s.Skips a b i) true) s.Skips.length h (fun j hj => ?_) ?_).trans ?_
  · rw [bif_dpos (by omega), grd_p (by omega), wn (by omega), Int.toNat_natCast, ← sw_fin]; rfl
  · rw [bif_dneg (by omega)]
  · rw [scan_sw]; unfold skV; cases noneB (skB s.Skips a b) s.Skips.length <;> rfl
theorem ref6_Skipped_e (s : S_Scene) (a b : Int) (h : s.Skips.length < 4294967296) : (ref6_Skipped_C s a b).o = some (skV s a b) := by
  show (ref6_Skipped_T s a b).run NN = _
  simp only [ref6_Skipped_T, T.run]
  refine (scanI (fun i => sw (skB s.Skips a b i) true) s.Skips.length h (fun j hj => ?_) ?_).trans ?_
  · rw [bif_dpos (by omega), grd_p (by omega), wn (by omega), Int.toNat_natCast, ← sw_fin]
    unfold skB
    cases (s.Skips.getD j default).A == a <;> cases (s.Skips.getD j default).B == b <;> cases (s.Skips.getD j default).A == b <;> cases (s.Skips.getD j default).B == a <;> rfl
  · rw [bif_dneg (by omega)]
  · rw [scan_sw]; unfold skV; cases noneB (skB s.Skips a b) s.Skips.length <;> rfl
section
variable (c : Nat → Nat → Bool)
def pin (L : List S_Pair) (i : Nat) : Nat → List S_Pair
  | 0 => L
  | m + 1 => if c i (i + 1 + m) then pin L i m ++ [⟨(i : Int), ((i + 1 + m : Nat) : Int)⟩] else pin L i m
def pou (n : Nat) : Nat → List S_Pair
  | 0 => nl
  | i + 1 => pin c (pou n i) i (n - (i + 1))
theorem pin_len (L : List S_Pair) (i : Nat) : ∀ m, (pin c L i m).length ≤ L.length + m
  | 0 => by simp [pin]
  | m + 1 => by
    have := pin_len L i m
    simp only [pin]; split
    · simp; omega
    · omega
theorem pou_len {n : Nat} : ∀ i, (pou c n i).length ≤ i * n
  | 0 => by simp [pou, nl]
  | i + 1 => by
    have h1 := pou_len (n := n) i
    have h2 := pin_len c (pou c n i) i (n - (i + 1))
    simp only [pou]; rw [Nat.add_mul]; omega
end
def linkOf (s : S_Scene) (i : Nat) : Int := (s.Shapes.getD i default).Link
def pairB (s : S_Scene) (i k : Nat) : Bool := !decide (carN s.Robot (linkOf s i + 1).toNat = carN s.Robot (linkOf s k + 1).toNat) && !skV s (linkOf s i) (linkOf s k)
def pairsV (s : S_Scene) : List S_Pair := if sceneV s = 0 then pou (pairB s) s.Shapes.length s.Shapes.length else nl
theorem ref6_Pairs_e (s : S_Scene) : (ref6_Pairs_C s).o = some (pairsV s) := by
  show (ref6_Pairs_T s).run NN = _
  simp only [ref6_Pairs_T, T.run, ref6_CheckScene_e, Option.bind_some, pairsV]
  by_cases h : sceneV s = 0
  · have so := sceneV_ok h
    have so2 := so.len
    have so3 := so.skips
    rw [bif_nne h, if_pos h]
    refine (loop_to (fun i => (pou (pairB s) s.Shapes.length i, (i : Int))) (pou (pairB s) s.Shapes.length s.Shapes.length) s.Shapes.length rfl (show s.Shapes.length < 4294967296 by omega) (fun i hi => ?_) ?_).trans rfl
    · rw [bif_dpos (by simpa using hi)]
      simp only [Int.toNat_natCast]
      rw [wn (by omega)]
      refine (loop_to (fun m => (pin (pairB s) (pou (pairB s) s.Shapes.length i) i m, ((i + 1 + m : Nat) : Int))) (pou (pairB s) s.Shapes.length (i + 1)) (s.Shapes.length - (i + 1)) rfl (show s.Shapes.length - (i + 1) < 4294967296 by omega) (fun m hm => ?_) ?_).trans rfl
      · have hk : i + 1 + m < s.Shapes.length := by omega
        have l1 := (shapeV_ok (so.shape i hi)).2
        have l2 := (shapeV_ok (so.shape (i + 1 + m) hk)).2
        have lp := pin_len (pairB s) (pou (pairB s) s.Shapes.length i) i m
        have lo := pou_len (pairB s) (n := s.Shapes.length) i
        have li : i * s.Shapes.length ≤ 24 * 24 := Nat.mul_le_mul (by omega) (by omega)
        simp only [Int.toNat_natCast]
        rw [bif_dpos (by omega), grd_p ⟨by omega, by omega⟩, grd_p ⟨by omega, by omega⟩, wn (by omega)]
        simp only [ref6_Rigid_e so.robot l1.1 l1.2 l2.1 l2.2, ref6_Skipped_e s _ _ (show s.Skips.length < 4294967296 by omega), Option.bind_some, pin]
        have e : (andC (bif (s.Shapes.getD i default).Link != (s.Shapes.getD (i + 1 + m) default).Link then bif !decide (carN s.Robot ((s.Shapes.getD i default).Link + 1).toNat = carN s.Robot ((s.Shapes.getD (i + 1 + m) default).Link + 1).toNat) then
            some (.out (!skV s (s.Shapes.getD i default).Link (s.Shapes.getD (i + 1 + m) default).Link)) else some (.out false) else some (.out false)) : (Bool → Option (Step3 Unit (List S_Pair) (Step3 (List S_Pair × Int) (List S_Pair) (Step3 (List S_Pair × Int) (List S_Pair) (List S_Pair))))) → _) = fun k => k (pairB s i (i + 1 + m)) := by
          funext k
          by_cases hl : (s.Shapes.getD i default).Link = (s.Shapes.getD (i + 1 + m) default).Link
          · rw [bif_nne hl, andC_out]
            have : pairB s i (i + 1 + m) = false := by simp only [pairB, linkOf, hl, decide_true, Bool.not_true, Bool.false_and]
            rw [this]
          · rw [bif_neq hl]; unfold pairB linkOf
            cases decide (carN s.Robot ((s.Shapes.getD i default).Link + 1).toNat = carN s.Robot ((s.Shapes.getD (i + 1 + m) default).Link + 1).toNat) <;> rfl
        rw [e]
        simp only
        rw [grd_p ⟨by simp; omega, by simp [maxLen_eq]; omega⟩]
        cases pairB s i (i + 1 + m) <;> rfl
      · rw [bif_dneg (by omega)]; rfl
    · rw [bif_dneg (by simp)]
  · rw [bif_neq h, if_neg h]
theorem scene_Pairs_e (s : S_Scene) : (scene_Pairs_C s).o = some (pairsV s) := by
  show (scene_Pairs_T s).run NN = _
  simp only [scene_Pairs_T, T.run, scene_Check_e, Option.bind_some, pairsV]
  by_cases h : sceneV s = 0
  · have so := sceneV_ok h
    have so2 := so.len
    have so3 := so.skips
    have so4 := robotV_ok so.robot
    rw [bif_nne h, if_pos h, scene_carriers_e so.robot, Option.bind_some]
    refine (loop_to (fun i => (pou (pairB s) s.Shapes.length i, (i : Int))) (pou (pairB s) s.Shapes.length s.Shapes.length) s.Shapes.length rfl (show s.Shapes.length < 4294967296 by omega) (fun i hi => ?_) ?_).trans rfl
    · rw [bif_dpos (by simpa using hi), grd_p ⟨by simp, by simpa using hi⟩]
      simp only [Int.toNat_natCast]
      rw [wn (by omega)]
      refine (loop_to (fun m => (pin (pairB s) (pou (pairB s) s.Shapes.length i) i m, ((i + 1 + m : Nat) : Int))) (pou (pairB s) s.Shapes.length (i + 1)) (s.Shapes.length - (i + 1)) rfl (show s.Shapes.length - (i + 1) < 4294967296 by omega) (fun m hm => ?_) ?_).trans rfl
      · have hk : i + 1 + m < s.Shapes.length := by omega
        have l1 := (shapeV_ok (so.shape i hi)).2
        have l2 := (shapeV_ok (so.shape (i + 1 + m) hk)).2
        have lp := pin_len (pairB s) (pou (pairB s) s.Shapes.length i) i m
        have lo := pou_len (pairB s) (n := s.Shapes.length) i
        have li : i * s.Shapes.length ≤ 24 * 24 := Nat.mul_le_mul (by omega) (by omega)
        simp only [Int.toNat_natCast, tab_len]
        rw [bif_dpos (by omega), grd_p ⟨by omega, by omega⟩, w64 (x := (s.Shapes.getD i default).Link + 1) (by omega) (by omega), w64 (x := (s.Shapes.getD (i + 1 + m) default).Link + 1) (by omega) (by omega),
          grd_p ⟨by omega, by omega⟩, grd_p ⟨by omega, by omega⟩, wn (by omega), tab_get (by omega), tab_get (by omega)]
        simp only [scene_Skipped_e s _ _ (show s.Skips.length < 4294967296 by omega), Option.bind_some, pin]
        have e : (andC (bif !(caP s.Robot ((s.Shapes.getD i default).Link + 1).toNat == caP s.Robot ((s.Shapes.getD (i + 1 + m) default).Link + 1).toNat) then
            some (.out (!skV s (s.Shapes.getD i default).Link (s.Shapes.getD (i + 1 + m) default).Link)) else some (.out false)) : (Bool → Option (Step3 Unit (List S_Pair) (Step3 (List S_Pair × Int) (List S_Pair) (Step3 (List S_Pair × Int) (List S_Pair) (List S_Pair))))) → _) = fun k => k (pairB s i (i + 1 + m)) := by
          funext k
          have e1 : (caP s.Robot ((s.Shapes.getD i default).Link + 1).toNat == caP s.Robot ((s.Shapes.getD (i + 1 + m) default).Link + 1).toNat) = decide (carN s.Robot ((s.Shapes.getD i default).Link + 1).toNat = carN s.Robot ((s.Shapes.getD (i + 1 + m) default).Link + 1).toNat) := by
            rw [Bool.eq_iff_iff]; unfold caP; simp only [beq_iff_eq, decide_eq_true_eq]; omega
          rw [e1]; unfold pairB linkOf
          cases decide (carN s.Robot ((s.Shapes.getD i default).Link + 1).toNat = carN s.Robot ((s.Shapes.getD (i + 1 + m) default).Link + 1).toNat) <;> rfl
        rw [e]
        simp only
        rw [grd_p ⟨by simp; omega, by simp [maxLen_eq]; omega⟩]
        cases pairB s i (i + 1 + m) <;> rfl
      · rw [bif_dneg (by omega)]; rfl
    · rw [bif_dneg (by simp)]
  · rw [bif_neq h, if_neg h]
end Go.Abs
