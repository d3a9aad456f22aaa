/-
  DL5 (a part of a claim: our own text).
-/
import Derived.Test.YtomogglfhepnmaaGreatXHDL4
import Derived.Test.YtomogglfhepnmaaGreatXHD3
namespace Go.Abs
open Go.Proofs
def PkB (x : S_Packed) : Prop := x.Table.length ≤ 2400000 ∧ x.Uses.length ≤ 4096 ∧ ∀ u ∈ x.Uses, u.Numbers.length ≤ 576
theorem compact_Unpack_x (p : S_Packed) (h : PkB p) : ∃ y, (compact_Unpack_C p).o = some y ∧ y.1.length ≤ 4096 := by
  obtain ⟨h0, h1, h2⟩ := h
  show ∃ y, (compact_Unpack_T p).run NN = some y ∧ _
  simp only [compact_Unpack_T, T.run, bif_out, andC_out, bif_tb]
  refine loop_mf (fun m (y : List S_Piece × Int) => ∃ j : Nat, y.2 = (j : Int) ∧ j + m = p.Uses.length ∧ y.1.length = j) (fun z : List S_Piece => z.length ≤ 4096) p.Uses.length ⟨0, rfl, by omega, by simp [nl]⟩ (by omega) ?_ (fun z hz => ⟨_, rfl, hz⟩)
  rintro m ⟨ps, i⟩ ⟨j, hj, hm, hp⟩
  simp only at hj hp ⊢
  subst hj
  cases m with
  | zero => exact .inr (.inl ⟨_, by rw [bif_dneg (by omega)], by omega⟩)
  | succ m =>
    rw [bif_dpos (by omega), grd_p (by omega), Int.toNat_natCast]
    have hxn := h2 _ (getD_mem (show j < p.Uses.length by omega))
    generalize p.Uses.getD j default = x at hxn ⊢
    suffices hi : ∃ r, _ = some r ∧ ((∃ ps' : List S_Piece, r = Step3.next (ps', ((j + 1 : Nat) : Int)) ∧ ps'.length = j + 1) ∨ r = .fin (nl, false)) by
      obtain ⟨r, e, ⟨ps', rfl, k1⟩ | rfl⟩ := hi
      · exact .inl ⟨_, m, e, Nat.lt_succ_self m, j + 1, rfl, by omega, k1⟩
      · exact .inr (.inr ⟨_, e, by simp [nl]⟩)
    refine loop_mf (fun m (y : List V3 × Int) => ∃ k : Nat, y.2 = (k : Int) ∧ k + m = x.Numbers.length ∧ y.1.length = k) (fun z : List V3 => True) x.Numbers.length ⟨0, rfl, by omega, by simp [nl]⟩ (by omega) ?_ ?_
    · rintro m' ⟨ns, k⟩ ⟨k', hk, hkm, hns⟩
      simp only at hk hns ⊢
      subst hk
      cases m' with
      | zero => exact .inr (.inl ⟨_, by rw [bif_dneg (by omega)], trivial⟩)
      | succ m' =>
        rw [bif_dpos (by omega), grd_p (by omega)]
        generalize x.Numbers.getD ((k' : Int)).toNat default = v
        by_cases c : v < 0 ∨ v ≥ (p.Table.length : Int)
        · rw [bif_pos (by simp only [Bool.or_eq_true, decide_eq_true_eq]; exact c)]
          exact .inr (.inr ⟨_, rfl, .inr rfl⟩)
        · rw [bif_neg (by simp only [Bool.or_eq_false_iff, decide_eq_false_iff_not]; omega), grd_p (by omega), grd_p (by simp only [List.length_cons, List.length_nil, maxLen_eq]; omega)]
          exact .inl ⟨_, m', rfl, Nat.lt_succ_self m', k' + 1, by simp only [wn (show k' < 4294967296 by omega)], by omega, by simp only [List.length_append, List.length_cons, List.length_nil]; omega⟩
    · intro ns _
      rw [grd_p (by simp only [List.length_cons, List.length_nil, maxLen_eq]; omega)]
      exact ⟨_, rfl, .inl ⟨_, by rw [wn (show j < 4294967296 by omega)], by simp only [List.length_append, List.length_cons, List.length_nil]; omega⟩⟩
noncomputable def unpV (p : S_Packed) : List S_Piece × Bool := (compact_Unpack_C p).o.getD default
theorem unpack_e {p : S_Packed} (h : PkB p) : (compact_Unpack_C p).o = some (unpV p) ∧ (unpV p).1.length ≤ 4096 := by
  obtain ⟨y, e, hy⟩ := compact_Unpack_x p h
  unfold unpV; rw [e]; exact ⟨rfl, hy⟩
def outP (r : S_Robot) (c : List (List Int)) (i : Nat) : Bool := !insideV r (c.getD i default)
def chkPV (s : S_Scene) (c : List (List Int)) : Int × Int := if sceneV s ≠ 0 then (0, 904) else if c.length < 2 ∨ c.length > 256 then (0, 2201) else
  match scan (fun i => sw (outP s.Robot c i) ((i : Int), (1201 : Int))) c.length 0 with | some r => r | none => (0, 0)
theorem path_checkPoints_e (s : S_Scene) (c : List (List Int)) : (path_checkPoints_C s c).o = some (chkPV s c) := by
  show (path_checkPoints_T s c).run NN = _
  simp only [path_checkPoints_T, T.run, scene_Check_e, Option.bind_some, config_Inside_e]
  unfold chkPV
  by_cases h : sceneV s = 0
  · rw [bif_nne h, if_neg (fun h' => h' h)]
    simp only [bif_out, andC_out, bif_tb]
    by_cases h2 : c.length < 2 ∨ c.length > 256
    · rw [if_pos h2, bif_pos (by simp only [Bool.or_eq_true, decide_eq_true_eq]; omega)]
    · rw [if_neg h2, bif_neg (by simp only [Bool.or_eq_false_iff, decide_eq_false_iff_not]; omega)]
      refine (scanI (fun i => sw (outP s.Robot c i) ((i : Int), (1201 : Int))) c.length (by omega) (fun j hj => ?_) ?_).trans ?_
      · rw [bif_dpos (by omega), grd_p (by omega), wn (by omega), Int.toNat_natCast, ← sw_fin]; rfl
      · rw [bif_dneg (by omega)]
      · cases scan (fun i => sw (outP s.Robot c i) ((i : Int), (1201 : Int))) c.length 0 <;> rfl
  · rw [bif_neq h, if_pos h]
theorem chkPV_iff {s : S_Scene} {c : List (List Int)} : (chkPV s c).2 = 0 ↔ sceneV s = 0 ∧ (2 ≤ c.length ∧ c.length ≤ 256) ∧ ∀ i, i < c.length → insideV s.Robot (c.getD i default) = true := by
  unfold chkPV
  constructor
  · intro h
    split at h
    · cases h
    · rename_i h1
      split at h
      · cases h
      · rename_i h2
        refine ⟨by simpa using h1, by omega, fun i hi => ?_⟩
        split at h
        · rename_i r hr
          obtain ⟨j, -, -, h3, -⟩ := scan_some _ _ hr
          cases hb : outP s.Robot c j with
          | false => rw [hb] at h3; cases h3
          | true => rw [hb] at h3; simp only [sw, cond_true, Option.some.injEq] at h3; rw [← h3] at h; cases h
        · rename_i hn
          have := (scan_none _ _).1 hn i (Nat.zero_le _) (by omega)
          cases hb : outP s.Robot c i with
          | false => simpa [outP] using hb
          | true => rw [hb] at this; cases this
  · rintro ⟨h1, h2, h3⟩
    rw [if_neg (fun h => h h1), if_neg (by omega)]
    have : scan (fun i => sw (outP s.Robot c i) ((i : Int), (1201 : Int))) c.length 0 = none := (scan_none _ _).2 fun j _ hj => by
      have := h3 j (by omega)
      unfold outP; rw [this]; rfl
    rw [this]
def CfB (c : List (List Int)) : Prop := c.length ≤ 256 ∧ ∀ x ∈ c, x.length ≤ 1000
theorem CfB.get {c : List (List Int)} (h : CfB c) {i : Nat} (hi : i < c.length) : (c.getD i default).length ≤ 1000 := h.2 _ (getD_mem hi)
theorem tail_get {c : List (List Int)} {i : Nat} (hi : i + 1 < c.length) : ((c.drop 1).take (c.length - 1)).getD i default = c.getD (i + 1) default := by
  simp only [List.getD_eq_getElem?_getD]
  rw [List.getElem?_take_of_lt (by omega), List.getElem?_drop, Nat.add_comm 1 i]
theorem tail_len {c : List (List Int)} (h : 1 ≤ c.length) : ((c.drop 1).take (c.length - 1)).length = c.length - 1 := by simp
theorem clone_ints (l : List Int) (h : l.length < 4294967296) : (slices_Clone_int64_int64_1_C l).o = some l := by
  show (slices_Clone_int64_int64_1_T l).run NN = _
  cases l with
  | nil => rfl
  | cons a l =>
    simp only [slices_Clone_int64_int64_1_T, T.run]
    simp only [List.length_cons] at h
    rw [grd_p (by simp), grd_p ⟨by simp only [List.length_nil, List.length_cons]; omega, by simp only [List.length_nil, List.length_cons, maxLen_eq]; omega⟩]; rfl
theorem clone_lists (l : List (List Int)) (h : l.length < 4294967296) : (slices_Clone_int64_int64_C l).o = some l := by
  show (slices_Clone_int64_int64_T l).run NN = _
  cases l with
  | nil => rfl
  | cons a l =>
    simp only [slices_Clone_int64_int64_T, T.run]
    simp only [List.length_cons] at h
    rw [grd_p (by simp), grd_p ⟨by simp only [List.length_nil, List.length_cons]; omega, by simp only [List.length_nil, List.length_cons, maxLen_eq]; omega⟩]; rfl
theorem clonePoints_e (c : List (List Int)) (hc : CfB c) : (path_clonePoints_C c).o = some c := by
  have hl := hc.1
  show (path_clonePoints_T c).run NN = _
  simp only [path_clonePoints_T, T.run, clone_lists c (by omega), Option.bind_some]
  refine (loop_to (fun j => (c, (j : Int))) c c.length rfl (show c.length < 4294967296 by omega) (fun j hj => ?_) ?_).trans rfl
  · have l1 := hc.get hj
    rw [bif_dpos (by simpa using hj), grd_p ⟨by simp, by simpa using hj⟩]
    simp only [Int.toNat_natCast]
    rw [grd_p hj, clone_ints _ (by omega), Option.bind_some, grd_p ⟨by omega, by omega⟩, grd_p ⟨hj, by omega⟩, wn (by omega)]
    exact congrArg (fun x => some (Step3.next (x, ((j + 1 : Nat) : Int)))) (set_self hj)
  · rw [bif_dneg (by simp)]
def PaB (x : S_Path) : Prop := CfB x.Points ∧ x.Edges.length ≤ 256 ∧ ∀ y ∈ x.Edges, PkB y
theorem awake22 : law22_awake_C.o = some true := by kernel_rfl
open Go.Proofs
theorem wn_pred {k : Nat} (h : k < 4294967296) : IntKind.i64.wrap (((k + 1 : Nat) : Int) - 1) = (k : Int) := by rw [w64 (by omega) (by omega)]; omega
def CoB (r : S_Robot) (c : List (List Int)) : Prop := (1 ≤ c.length ∧ c.length ≤ 5) ∧ (∀ x ∈ c, x.length = r.Joints.length) ∧ LimC r (c.getD 0 default)
theorem law22_corners_x (l m : List Int) (depth : Int) (hl : l.length < 4294967296) (hm : m.length < 4294967296) : ∃ y, (law22_corners_C l m depth).o = some y ∧ (0 ≤ y.2.2 ∧ y.2.2 < 5) ∧ CoB y.1.Robot y.2.1 ∧ y.1.Robot.Joints.length ≤ 3 := by
  have e0 : (law22_corners_C l m depth).o = (law22_corners_T l m depth).run NN := rfl
  rw [e0]
  obtain ⟨s, es, s1, s2, s3⟩ := make_Scene_x l hl
  obtain ⟨p, ep, lp, lm⟩ := make_Config_y s.Robot m hm s2 s3
  have ef : (make_From_C m).o = some (m, 0) := rfl
  obtain ⟨r0, p0, q0, u0, v0, w0, x0⟩ := Source_Next_x (l := m) (n := 0) hm (by omega) (by omega) (k := 4) (by decide) (by decide)
  simp only [law22_corners_T, T.run, es, ef, ep, q0, Option.bind_some]
  rw [make_Round_e (by decide) (by decide)]
  have hd : 0 ≤ depth % 5 ∧ depth % 5 < 5 := by omega
  refine loop_mf (fun k (y : List Int × Int × List (List Int) × Int) => y.1 = m ∧ (0 ≤ y.2.1 ∧ y.2.1 ≤ (m.length : Int)) ∧ y.2.2.2 = (k : Int) ∧ y.2.2.1.length + k ≤ 5 ∧ 1 ≤ y.2.2.1.length ∧ (∀ x ∈ y.2.2.1, x.length = s.Robot.Joints.length) ∧ LimC s.Robot (y.2.2.1.getD 0 default))
    (fun z : List (List Int) => CoB s.Robot z) (1 + r0).toNat ⟨rfl, ⟨w0, x0⟩, by simp only; rw [w64 (by omega) (by omega)]; omega, by simp; omega, by simp, fun x hx => by simp at hx; subst hx; exact lp, lm⟩ (by omega) ?_ (fun z hz => ⟨_, rfl, hd, hz, s2⟩)
  rintro k ⟨mm, ix, out, kk⟩ ⟨h1, ⟨h2, h3⟩, h4, h5, h6, h7, h8⟩
  simp only at h1 h2 h3 h4 h5 h6 h7 h8 ⊢
  subst h1 h4
  cases k with
  | zero => exact .inr (.inl ⟨_, by rw [bif_dneg (by omega)], ⟨by omega, by omega⟩, h7, h8⟩)
  | succ k =>
    obtain ⟨a1, n1, e1, -, -, i1, j1⟩ := Source_Next_x hm h2 h3 (k := 99) (by decide) (by decide)
    obtain ⟨a2, n2, e2, -, -, i2, j2⟩ := Source_Next_x hm i1 j1 (k := 1073741824) (by decide) (by decide)
    obtain ⟨a3, n3, e3, -, -, i3, j3⟩ := Source_Next_x hm i2 j2 (k := 99) (by decide) (by decide)
    obtain ⟨a4, n4, e4, -, -, i4, j4⟩ := Source_Next_x hm i3 j3 (k := 1073741824) (by decide) (by decide)
    obtain ⟨a5, n5, e5, -, -, i5, j5⟩ := Source_Next_x hm i4 j4 (k := 99) (by decide) (by decide)
    obtain ⟨a6, n6, e6, -, -, i6, j6⟩ := Source_Next_x hm i5 j5 (k := 1073741824) (by decide) (by decide)
    obtain ⟨cf, e7, l7, -⟩ := make_Config_y s.Robot [a1, a2, a3, a4, a5, a6] (by simp) s2 s3
    obtain ⟨a8, n8, e8, g1, g2, i8, j8⟩ := Source_Next_x hm i6 j6 (k := 3) (by decide) (by decide)
    rw [bif_dpos (by omega)]
    simp only [e1, e2, e3, e4, e5, e6, e7, e8, Option.bind_some]
    rw [grd_p (by simp only [List.length_cons, List.length_nil]; omega), grd_p (by simp only [List.length_cons, List.length_nil]; omega)]
    have hk : ([1, 16, 64] : List Int).getD a8.toNat default ≠ 0 := by
      have : a8.toNat = 0 ∨ a8.toNat = 1 ∨ a8.toNat = 2 := by omega
      rcases this with h | h | h <;> rw [h] <;> decide
    generalize ([1, 16, 64] : List Int).getD a8.toNat default = K at hk ⊢
    have z0 : (0 : Int).toNat = 0 := rfl
    have l0 : (out.getD 0 default).length = s.Robot.Joints.length := h7 _ (getD_mem (by omega))
    rw [wn_pred (k := k) (by omega)]
    suffices hi : ∃ r, _ = some r ∧ (∃ c' : List Int, r = Step3.next (mm, n8, out ++ [c'], (k : Int)) ∧ c'.length = s.Robot.Joints.length) by
      obtain ⟨r, e, c', rfl, lc⟩ := hi
      refine .inl ⟨_, k, e, Nat.lt_succ_self k, rfl, ⟨i8, j8⟩, rfl, by simp only [List.length_append, List.length_cons, List.length_nil]; omega, by simp only [List.length_append]; omega, fun x hx => ?_, ?_⟩
      · rcases List.mem_append.1 hx with hx | hx
        · exact h7 x hx
        · simp at hx; subst hx; exact lc
      · have : (out ++ [c']).getD 0 default = out.getD 0 default := by
          simp only [List.getD_eq_getElem?_getD]; rw [List.getElem?_append_left (by omega)]
        simp only; rw [this]; exact h8
    refine loop_mf (fun k' (y : List Int × Int) => y.1.length = cf.length ∧ ∃ j : Nat, y.2 = (j : Int) ∧ j + k' = cf.length) (fun z : List Int => z.length = cf.length) cf.length ⟨rfl, 0, rfl, by omega⟩ (by omega) ?_ ?_
    · rintro k' ⟨c', i⟩ ⟨hc', j, hj, hk'⟩
      simp only at hc' hj ⊢
      subst hj
      cases k' with
      | zero => exact .inr (.inl ⟨_, by rw [bif_dneg (by omega)], hc'⟩)
      | succ k' =>
        have g3 : 0 ≤ (j : Int) ∧ (j : Int) < ((out.getD 0 default).length : Int) := by omega
        have g4 : 0 ≤ (j : Int) ∧ (j : Int) < (c'.length : Int) := by omega
        have g5 : (0 : Int) ≤ 0 ∧ (0 : Int) < (out.length : Int) := by omega
        have g6 : 0 < out.length := by omega
        rw [bif_dpos (by omega)]
        simp only [z0, Int.toNat_natCast, grd_p g3, grd_p g4, grd_p g5, grd_p g6, grd_p (show j < c'.length by omega), grd_p (show j < c'.length ∧ 0 ≤ j by omega), grd_p hk]
        exact .inl ⟨_, k', rfl, Nat.lt_succ_self k', by simp only [List.length_set]; exact hc', j + 1, by simp only [wn (show j < 4294967296 by omega)], by omega⟩
    · intro c' hc'
      rw [grd_p (by simp only [List.length_cons, List.length_nil, maxLen_eq]; omega)]
      exact ⟨_, rfl, c', rfl, by omega⟩
open Go.Proofs
theorem CoB.cf {r : S_Robot} {c : List (List Int)} (h : CoB r c) (hr : r.Joints.length ≤ 3) : CfB c := ⟨by have := h.1; omega, fun x hx => by have := h.2.1 x hx; omega⟩
open Go.Proofs
theorem key3 (a b : V3) : keyEq (cells_arr_3_int64 a) (cells_arr_3_int64 b) = decide (a = b) := by
  obtain ⟨a1, a2, a3⟩ := a; obtain ⟨b1, b2, b3⟩ := b
  simp only [keyEq, cells_arr_3_int64, cellsEq, if_true, Option.map_some]
  rw [Bool.eq_iff_iff]; simp
theorem getD_app1 {α : Type} [Inhabited α] {l l' : List α} {i : Nat} (h : i < l.length) : (l ++ l').getD i default = l.getD i default := by
  simp only [List.getD_eq_getElem?_getD]; rw [List.getElem?_append_left h]
theorem getD_app2 {α : Type} [Inhabited α] {l l' : List α} {i : Nat} (h : l.length ≤ i) : (l ++ l').getD i default = l'.getD (i - l.length) default := by
  simp only [List.getD_eq_getElem?_getD]; rw [List.getElem?_append_right h]
theorem getD_app0 {α : Type} [Inhabited α] {l : List α} {a : α} : (l ++ [a]).getD l.length default = a := by
  rw [getD_app2 (Nat.le_refl _), Nat.sub_self]; rfl
def TbM (tb : List V3) (m : List (V3 × Int)) : Prop := ∀ v, mdom cells_arr_3_int64 m (cells_arr_3_int64 v) = true → ∃ i : Nat, mget cells_arr_3_int64 m (cells_arr_3_int64 v) = (i : Int) ∧ i < tb.length ∧ tb.getD i default = v
theorem TbM.nil : TbM nl nl := fun v h => by cases h
theorem TbM.add {tb : List V3} {m : List (V3 × Int)} (h : TbM tb m) (v : V3) : TbM (tb ++ [v]) ((v, ((tb.length : Nat) : Int)) :: m) := by
  intro u hu
  simp only [mdom, mget, key3] at hu ⊢
  by_cases e : u = v
  · subst e
    rw [decide_eq_true rfl]
    exact ⟨tb.length, rfl, by simp, getD_app0⟩
  · rw [decide_eq_false e] at hu ⊢
    obtain ⟨i, h1, h2, h3⟩ := h u (by simpa using hu)
    exact ⟨i, by simpa using h1, by simp; omega, by rw [getD_app1 h2]; exact h3⟩
def NumOk (tb : List V3) (ns : List Int) (xs : List V3) (k : Nat) : Prop := ns.length = k ∧ ∀ j, j < k → ∃ i : Nat, ns.getD j default = (i : Int) ∧ i < tb.length ∧ tb.getD i default = xs.getD j default
theorem NumOk.more {tb : List V3} {ns : List Int} {xs : List V3} {k : Nat} (h : NumOk tb ns xs k) (t : List V3) : NumOk (tb ++ t) ns xs k :=
  ⟨h.1, fun j hj => by
    obtain ⟨i, h1, h2, h3⟩ := h.2 j hj
    exact ⟨i, h1, by simp; omega, by rw [getD_app1 h2]; exact h3⟩⟩
theorem NumOk.snoc {tb : List V3} {ns : List Int} {xs : List V3} {k : Nat} (h : NumOk tb ns xs k) {i : Nat} (h2 : i < tb.length) (h3 : tb.getD i default = xs.getD k default) : NumOk tb (ns ++ [(i : Int)]) xs (k + 1) := by
  refine ⟨by simp [h.1], fun j hj => ?_⟩
  by_cases e : j = k
  · subst e
    refine ⟨i, ?_, h2, h3⟩
    rw [← h.1]; exact getD_app0
  · obtain ⟨i', q1, q2, q3⟩ := h.2 j (by omega)
    exact ⟨i', by rw [getD_app1 (by rw [h.1]; omega)]; exact q1, q2, q3⟩
def UseOk (tb : List V3) (u : S_Use) (x : S_Piece) : Prop := u.Depth = x.Depth ∧ u.Index = x.Index ∧ NumOk tb u.Numbers x.Normals x.Normals.length
def UsesOk (tb : List V3) (us : List S_Use) (l : List S_Piece) (k : Nat) : Prop := us.length = k ∧ ∀ j, j < k → UseOk tb (us.getD j default) (l.getD j default)
theorem pack_rt (l : List S_Piece) (h : PsB l) : ∃ x, (compact_Pack_C l).o = some x ∧ PkB x ∧ UsesOk x.Table x.Uses l l.length := by
  obtain ⟨h1, h2⟩ := h
  show ∃ x, (compact_Pack_T l).run NN = some x ∧ _
  simp only [compact_Pack_T, T.run]
  refine loop_mf (P := fun x => PkB x ∧ UsesOk x.Table x.Uses l l.length) (fun m (y : List V3 × List S_Use × List (V3 × Int) × Int) => ∃ j : Nat, y.2.2.2 = (j : Int) ∧ j + m = l.length ∧ y.1.length ≤ 576 * j ∧ (∀ u ∈ y.2.1, u.Numbers.length ≤ 576) ∧ TbM y.1 y.2.2.1 ∧ UsesOk y.1 y.2.1 l j)
    (fun z : List V3 × List S_Use => z.1.length ≤ 2400000 ∧ (∀ u ∈ z.2, u.Numbers.length ≤ 576) ∧ UsesOk z.1 z.2 l l.length) l.length ⟨0, rfl, by omega, by simp [nl], (fun u hu => by cases hu), TbM.nil, rfl, fun j hj => by omega⟩ (by omega) ?_ (fun z hz => ⟨_, rfl, ⟨hz.1, by rw [hz.2.2.1]; omega, hz.2.1⟩, hz.2.2⟩)
  rintro m ⟨tb, us, mp, i⟩ ⟨j, hj, hm, ht, hn, hmp, hus⟩
  simp only at hj ht hn hmp hus ⊢
  subst hj
  cases m with
  | zero =>
    obtain rfl : j = l.length := by omega
    exact .inr (.inl ⟨_, by rw [bif_dneg (by omega)], by simp only; omega, hn, hus⟩)
  | succ m =>
    rw [bif_dpos (by omega), grd_p (by omega), Int.toNat_natCast]
    have hxn := h2 _ (getD_mem (show j < l.length by omega))
    generalize hx : l.getD j default = x at hxn ⊢
    suffices hi : ∃ r, _ = some r ∧ (∃ (t : List V3) (u : S_Use) (mp' : List (V3 × Int)), r = Step3.next (tb ++ t, us ++ [u], mp', ((j + 1 : Nat) : Int)) ∧ (tb ++ t).length ≤ 576 * (j + 1) ∧ u.Numbers.length ≤ 576 ∧ TbM (tb ++ t) mp' ∧ UseOk (tb ++ t) u x) by
      obtain ⟨r, e, t, u, mp', rfl, k1, k2, k3, k4⟩ := hi
      refine .inl ⟨_, m, e, Nat.lt_succ_self m, j + 1, rfl, by omega, k1, fun v hv => ?_, k3, by simp [hus.1], fun j' hj' => ?_⟩
      · rcases List.mem_append.1 hv with hv | hv
        · exact hn v hv
        · simp at hv; subst hv; exact k2
      · by_cases e1 : j' = j
        · subst e1
          have : (us ++ [u]).getD j' default = u := by rw [← hus.1]; exact getD_app0
          simp only; rw [this, hx]; exact k4
        · have := hus.2 j' (by omega)
          simp only; rw [getD_app1 (by rw [hus.1]; omega)]
          exact ⟨this.1, this.2.1, this.2.2.more t⟩
    refine loop_mf (fun m (y : List V3 × List (V3 × Int) × List Int × Int) => ∃ k : Nat, y.2.2.2 = (k : Int) ∧ k + m = x.Normals.length ∧ y.1.length ≤ 576 * j + k ∧ (∃ t, y.1 = tb ++ t) ∧ TbM y.1 y.2.1 ∧ NumOk y.1 y.2.2.1 x.Normals k)
      (fun z : List V3 × List (V3 × Int) × List Int => z.1.length ≤ 576 * (j + 1) ∧ (∃ t, z.1 = tb ++ t) ∧ TbM z.1 z.2.1 ∧ NumOk z.1 z.2.2 x.Normals x.Normals.length) x.Normals.length ⟨0, rfl, by omega, by simp only; omega, ⟨[], by simp⟩, hmp, rfl, fun j hj => by omega⟩ (by omega) ?_ ?_
    · rintro m' ⟨t2, m2, ns, k⟩ ⟨k', hk, hkm, ht2, ⟨t, het⟩, hmm, hns⟩
      simp only at hk ht2 het hmm hns ⊢
      subst hk
      cases m' with
      | zero =>
        obtain rfl : k' = x.Normals.length := by omega
        exact .inr (.inl ⟨_, by rw [bif_dneg (by omega)], by simp only; omega, ⟨t, het⟩, hmm, hns⟩)
      | succ m' =>
        have hnl := hns.1
        rw [bif_dpos (by omega), grd_p (by omega)]
        have g1 : (ns.length + [(0 : Int)].length) * 8 ≤ 140737488355328 ∧ ns.length + [(0 : Int)].length ≤ maxLen := by simp only [List.length_cons, List.length_nil, maxLen_eq]; omega
        rw [Int.toNat_natCast]
        generalize hv : x.Normals.getD k' default = v
        cases hd : mdom cells_arr_3_int64 m2 (cells_arr_3_int64 v) with
        | false =>
          simp only [Bool.not_false, cond_true]
          rw [grd_p (by simp only [List.length_cons, List.length_nil, maxLen_eq]; omega), andC_out, grd_p (by simp only [List.length_cons, List.length_nil, maxLen_eq]; omega)]
          refine .inl ⟨_, m', rfl, Nat.lt_succ_self m', k' + 1, by simp only [wn (show k' < 4294967296 by omega)], by omega, by simp only [List.length_append, List.length_cons, List.length_nil]; omega, ⟨t ++ [v], by simp only [het, List.append_assoc]⟩, hmm.add v, ?_⟩
          exact (hns.more [v]).snoc (i := t2.length) (by simp) (by rw [getD_app0, hv])
        | true =>
          simp only [Bool.not_true, cond_false, andC_out]
          rw [grd_p (by simp only [List.length_cons, List.length_nil, maxLen_eq]; omega)]
          obtain ⟨i, q1, q2, q3⟩ := hmm v hd
          refine .inl ⟨_, m', rfl, Nat.lt_succ_self m', k' + 1, by simp only [wn (show k' < 4294967296 by omega)], by omega, by simp only; omega, ⟨t, het⟩, hmm, ?_⟩
          simp only [q1]
          exact hns.snoc q2 (by rw [q3, hv])
    · rintro ⟨t2, m2, ns⟩ ⟨k1, ⟨t, het⟩, k2, k3⟩
      simp only at k1 het k2 k3 ⊢
      subst het
      have hul := hus.1
      rw [grd_p (by simp only [List.length_cons, List.length_nil, maxLen_eq]; omega)]
      refine ⟨_, rfl, t, _, _, by rw [wn (show j < 4294967296 by omega)], k1, ?_, k2, rfl, rfl, k3⟩
      simp only [k3.1]; omega
theorem unpack_rt (p : S_Packed) (l : List S_Piece) (hp : PkB p) (h : PsB l) (hu : UsesOk p.Table p.Uses l l.length) : unpV p = (l, true) := by
  obtain ⟨h1, h2⟩ := h
  obtain ⟨hul, hua⟩ := hu
  have key : (compact_Unpack_C p).o = some (l, true) := by
    show (compact_Unpack_T p).run NN = _
    simp only [compact_Unpack_T, T.run, bif_out, andC_out, bif_tb]
    refine (loop_to (fun j => (l.take j, (j : Int))) l l.length (by simp [nl]) (by show _ < 4294967296; omega) (fun j hj => ?_) ?_).trans rfl
    · rw [bif_dpos (by omega), grd_p (by omega), Int.toNat_natCast]
      have hxn := h2 _ (getD_mem hj)
      obtain ⟨u1, u2, u3, u4⟩ := hua j hj
      rw [take_snoc hj]
      generalize l.getD j default = x at hxn u1 u2 u3 u4 ⊢
      generalize p.Uses.getD j default = u at u1 u2 u3 u4 ⊢
      have hlt : (l.take j).length ≤ 4096 := by simp; omega
      refine (loop_to (fun k => (x.Normals.take k, (k : Int))) x.Normals x.Normals.length (by simp [nl]) (by show _ < 4294967296; omega) (fun k hk => ?_) ?_).trans ?_
      · obtain ⟨i, q1, q2, q3⟩ := u4 k hk
        have hkl : (x.Normals.take k).length ≤ 4096 := by simp; omega
        rw [bif_dpos (by omega), grd_p (by omega), Int.toNat_natCast, q1]
        rw [bif_neg (by simp only [Bool.or_eq_false_iff, decide_eq_false_iff_not]; omega), grd_p (by omega), grd_p (by simp only [List.length_cons, List.length_nil, maxLen_eq]; omega), Int.toNat_natCast, q3, ← take_snoc hk, wn (by omega)]
      · rw [bif_dneg (by omega)]; simp
      · rw [grd_p (by simp only [List.length_cons, List.length_nil, maxLen_eq]; omega), wn (by omega), u1, u2]
    · rw [bif_dneg (by omega)]; simp
  unfold unpV; rw [key]; rfl
theorem pack_unp (l : List S_Piece) (h : PsB l) : ∃ x, (compact_Pack_C l).o = some x ∧ PkB x ∧ unpV x = (l, true) := by
  obtain ⟨x, e, hx, hu⟩ := pack_rt l h
  exact ⟨x, e, hx, unpack_rt x l hx h hu⟩
open Go.Proofs
theorem clone_uses (l : List S_Use) (h : l.length < 4294967296) : (slices_Clone_api_Use_api_Use_C l).o = some l := by
  show (slices_Clone_api_Use_api_Use_T l).run NN = _
  cases l with
  | nil => rfl
  | cons a l =>
    simp only [slices_Clone_api_Use_api_Use_T, T.run]
    simp only [List.length_cons] at h
    rw [grd_p (by simp), grd_p ⟨by simp only [List.length_nil, List.length_cons]; omega, by simp only [List.length_nil, List.length_cons, maxLen_eq]; omega⟩]; rfl
theorem clone_packs (l : List S_Packed) (h : l.length < 4294967296) : (slices_Clone_api_Packed_api_Packed_C l).o = some l := by
  show (slices_Clone_api_Packed_api_Packed_T l).run NN = _
  cases l with
  | nil => rfl
  | cons a l =>
    simp only [slices_Clone_api_Packed_api_Packed_T, T.run]
    simp only [List.length_cons] at h
    rw [grd_p (by simp), grd_p ⟨by simp only [List.length_nil, List.length_cons]; omega, by simp only [List.length_nil, List.length_cons, maxLen_eq]; omega⟩]; rfl
theorem clone_nums (l : List Int) (h : l.length < 4294967296) : (slices_Clone_int_int_C l).o = some l := by
  show (slices_Clone_int_int_T l).run NN = _
  cases l with
  | nil => rfl
  | cons a l =>
    simp only [slices_Clone_int_int_T, T.run]
    simp only [List.length_cons] at h
    rw [grd_p (by simp), grd_p ⟨by simp only [List.length_nil, List.length_cons]; omega, by simp only [List.length_nil, List.length_cons, maxLen_eq]; omega⟩]; rfl
def PkF (x : S_Packed) : Prop := x.Table.length ≤ 4194304 ∧ x.Uses.length ≤ 4194304 ∧ ∀ u ∈ x.Uses, u.Numbers.length ≤ 4194304
def PaF (x : S_Path) : Prop := x.Points.length ≤ 8388608 ∧ (∀ c ∈ x.Points, c.length ≤ 4194304) ∧ x.Edges.length ≤ 8388608 ∧ ∀ y ∈ x.Edges, PkF y
theorem PkB.f {x : S_Packed} (h : PkB x) : PkF x := ⟨by have := h.1; omega, by have := h.2.1; omega, fun u hu => by have := h.2.2 u hu; omega⟩
theorem PaB.f {x : S_Path} (h : PaB x) : PaF x := ⟨by have := h.1.1; omega, fun c hc => by have := h.1.2 c hc; omega, by have := h.2.1; omega, fun y hy => (h.2.2 y hy).f⟩
theorem clonePoints_f (c : List (List Int)) (h : c.length < 4294967296) (hn : ∀ x ∈ c, x.length < 4294967296) : (path_clonePoints_C c).o = some c := by
  show (path_clonePoints_T c).run NN = _
  simp only [path_clonePoints_T, T.run, clone_lists c h, Option.bind_some]
  refine (loop_to (fun j => (c, (j : Int))) c c.length rfl (show c.length < 4294967296 by omega) (fun j hj => ?_) ?_).trans rfl
  · have l1 := hn _ (getD_mem hj)
    rw [bif_dpos (by simpa using hj), grd_p ⟨by simp, by simpa using hj⟩]
    simp only [Int.toNat_natCast]
    rw [grd_p hj, clone_ints _ (by omega), Option.bind_some, grd_p ⟨by omega, by omega⟩, grd_p ⟨hj, by omega⟩, wn (by omega)]
    exact congrArg (fun x => some (Step3.next (x, ((j + 1 : Nat) : Int)))) (set_self hj)
  · rw [bif_dneg (by simp)]
theorem clonePacked_e (p : S_Packed) (h : PkF p) : (path_clonePacked_C p).o = some p := by
  obtain ⟨h0, h1, h2⟩ := h
  show (path_clonePacked_T p).run NN = _
  simp only [path_clonePacked_T, T.run, clone_uses p.Uses (by omega), Option.bind_some]
  refine (loop_to (fun j => (p.Uses, (j : Int))) p.Uses p.Uses.length rfl (show p.Uses.length < 4294967296 by omega) (fun j hj => ?_) ?_).trans ?_
  · have l1 := h2 _ (getD_mem hj)
    rw [bif_dpos (by simpa using hj), grd_p ⟨by simp, by simpa using hj⟩]
    simp only [Int.toNat_natCast]
    rw [grd_p hj, clone_nums _ (by omega), Option.bind_some, grd_p ⟨by omega, by omega⟩, grd_p ⟨hj, by omega⟩, wn (by omega)]
    exact congrArg (fun x => some (Step3.next (x, ((j + 1 : Nat) : Int)))) (set_self hj)
  · rw [bif_dneg (by simp)]
  · rw [clone_vec p.Table (by omega)]; rfl
theorem clonePath_e (p : S_Path) (h : PaF p) : (path_clone_C p).o = some p := by
  obtain ⟨h0, h1, h2, h3⟩ := h
  show (path_clone_T p).run NN = _
  simp only [path_clone_T, T.run, clone_packs p.Edges (by omega), Option.bind_some]
  refine (loop_to (fun j => (p.Edges, (j : Int))) p.Edges p.Edges.length rfl (show p.Edges.length < 4294967296 by omega) (fun j hj => ?_) ?_).trans ?_
  · rw [bif_dpos (by simpa using hj), grd_p ⟨by simp, by simpa using hj⟩]
    simp only [Int.toNat_natCast]
    rw [grd_p hj, clonePacked_e _ (h3 _ (getD_mem hj)), Option.bind_some, grd_p ⟨by omega, by omega⟩, grd_p ⟨hj, by omega⟩, wn (by omega)]
    exact congrArg (fun x => some (Step3.next (x, ((j + 1 : Nat) : Int)))) (set_self hj)
  · rw [bif_dneg (by simp)]
  · rw [clonePoints_f p.Points (by omega) (fun x hx => by have := h1 x hx; omega)]; rfl
def eqV (a b : List Int) : Bool := if a.length = b.length then match scan (fun j => sw (a.getD j default != b.getD j default) false) a.length 0 with | some r => r | none => true else false
theorem eqV_iff {a b : List Int} : eqV a b = true ↔ a = b := by
  unfold eqV
  constructor
  · intro h
    split at h
    · rename_i hl
      split at h
      · rename_i r hr
        obtain ⟨j, -, -, h3, -⟩ := scan_some _ _ hr
        cases hb : (a.getD j default != b.getD j default) with
        | false => rw [hb] at h3; cases h3
        | true => rw [hb] at h3; simp only [sw, cond_true, Option.some.injEq] at h3; rw [← h3] at h; cases h
      · rename_i hn
        refine List.ext_getElem hl (fun i h1 h2 => ?_)
        have := (scan_none _ _).1 hn i (Nat.zero_le _) (by omega)
        cases hb : (a.getD i default != b.getD i default) with
        | true => rw [hb] at this; cases this
        | false =>
          simp only [bne_eq_false_iff_eq, List.getD_eq_getElem?_getD, List.getElem?_eq_getElem h1, List.getElem?_eq_getElem h2, Option.getD_some] at hb
          exact hb
    · cases h
  · rintro rfl
    rw [if_pos rfl]
    have : scan (fun j => sw (a.getD j default != a.getD j default) false) a.length 0 = none := (scan_none _ _).2 fun j _ _ => by simp [sw]
    rw [this]
theorem equal_e (a b : List Int) (h : a.length < 4294967296) : (slices_Equal_int64_int64_C a b).o = some (eqV a b) := by
  show (slices_Equal_int64_int64_T a b).run NN = _
  simp only [slices_Equal_int64_int64_T, T.run]
  unfold eqV
  by_cases e : a.length = b.length
  · rw [if_pos e, bif_nne (by omega)]
    refine (scanI (fun j => sw (a.getD j default != b.getD j default) false) a.length h (fun j hj => ?_) ?_).trans ?_
    · rw [bif_dpos (by omega), grd_p (by omega), grd_p (by omega), wn (by omega), Int.toNat_natCast, ← sw_fin]
    · rw [bif_dneg (by omega)]
    · cases scan (fun j => sw (a.getD j default != b.getD j default) false) a.length 0 <;> rfl
  · rw [if_neg e, bif_neq (by omega)]
theorem sameNums_e (a b : List Int) (h : a.length < 4294967296) : (ref19_SameNumbers_C a b).o = some (eqV a b) := by
  show (ref19_SameNumbers_T a b).run NN = _
  simp only [ref19_SameNumbers_T, T.run]
  unfold eqV
  by_cases e : a.length = b.length
  · rw [if_pos e, bif_nne (by omega)]
    refine (scanI (fun j => sw (a.getD j default != b.getD j default) false) a.length h (fun j hj => ?_) ?_).trans ?_
    · rw [bif_dpos (by omega), grd_p (by omega), grd_p (by omega), wn (by omega), Int.toNat_natCast, ← sw_fin]
    · rw [bif_dneg (by omega)]
    · cases scan (fun j => sw (a.getD j default != b.getD j default) false) a.length 0 <;> rfl
  · rw [if_neg e, bif_neq (by omega)]
theorem same_ints (a : List Int) (h : a.length < 4294967296) : (make_Same_int64_C a a).o = some true := by
  show (make_Same_int64_T a a).run NN = _
  simp only [make_Same_int64_T, T.run]
  rw [bif_nne rfl]
  refine (scanI (fun _ => none) a.length h (fun j hj => ?_) ?_).trans ?_
  · rw [bif_dpos (by omega), grd_p (by omega), grd_p (by omega), wn (by omega), bif_nne rfl]
  · rw [bif_dneg (by omega)]
  · rw [(scan_none _ _).2 (fun _ _ _ => rfl)]
theorem same_nums (a : List Int) (h : a.length < 4294967296) : (make_Same_int_C a a).o = some true := by
  show (make_Same_int_T a a).run NN = _
  simp only [make_Same_int_T, T.run]
  rw [bif_nne rfl]
  refine (scanI (fun _ => none) a.length h (fun j hj => ?_) ?_).trans ?_
  · rw [bif_dpos (by omega), grd_p (by omega), grd_p (by omega), wn (by omega), bif_nne rfl]
  · rw [bif_dneg (by omega)]
  · rw [(scan_none _ _).2 (fun _ _ _ => rfl)]
theorem same_lists (a : List (List Int)) (h : a.length < 4294967296) (hn : ∀ x ∈ a, x.length < 4294967296) : (make_SameLists_int64_C a a).o = some true := by
  show (make_SameLists_int64_T a a).run NN = _
  simp only [make_SameLists_int64_T, T.run]
  rw [bif_nne rfl]
  refine (scanI (fun _ => none) a.length h (fun j hj => ?_) ?_).trans ?_
  · rw [bif_dpos (by omega), grd_p (by omega), grd_p (by omega), wn (by omega), Int.toNat_natCast, same_ints _ (hn _ (getD_mem hj))]; rfl
  · rw [bif_dneg (by omega)]
  · rw [(scan_none _ _).2 (fun _ _ _ => rfl)]
theorem same_packed (x : S_Packed) (h : PkF x) : (make_SamePacked_C x x).o = some true := by
  obtain ⟨h0, h1, h2⟩ := h
  show (make_SamePacked_T x x).run NN = _
  simp only [make_SamePacked_T, T.run, same_vec x.Table (by omega), Option.bind_some, Bool.not_true, cond_false, bne_self_eq_false, andC_out]
  refine (scanI (fun _ => none) x.Uses.length (by omega) (fun j hj => ?_) ?_).trans ?_
  · have l1 := h2 _ (getD_mem hj)
    rw [bif_dpos (by omega), grd_p (by omega), grd_p (by omega), wn (by omega), Int.toNat_natCast, same_nums _ (by omega)]; rfl
  · rw [bif_dneg (by omega)]
  · rw [(scan_none _ _).2 (fun _ _ _ => rfl)]
theorem same_path (x : S_Path) (h : PaF x) : (make_SamePath_C x x).o = some true := by
  obtain ⟨h0, h1, h2, h3⟩ := h
  show (make_SamePath_T x x).run NN = _
  simp only [make_SamePath_T, T.run, same_lists x.Points (by omega) (fun c hc => by have := h1 c hc; omega), Option.bind_some, Bool.not_true, cond_false, bne_self_eq_false, andC_out]
  refine (scanI (fun _ => none) x.Edges.length (by omega) (fun j hj => ?_) ?_).trans ?_
  · rw [bif_dpos (by omega), grd_p (by omega), grd_p (by omega), wn (by omega), Int.toNat_natCast, same_packed _ (h3 _ (getD_mem hj))]; rfl
  · rw [bif_dneg (by omega)]
  · rw [(scan_none _ _).2 (fun _ _ _ => rfl)]
def formP (x : S_Path) : Prop := 2 ≤ x.Points.length ∧ x.Edges.length + 1 = x.Points.length
instance (x : S_Path) : Decidable (formP x) := by unfold formP; infer_instance
def joinB (a b : S_Path) : Prop := formP a ∧ formP b ∧ eqV (a.Points.getD (a.Points.length - 1) default) (b.Points.getD 0 default) = true ∧ a.Points.length + b.Points.length ≤ 257
instance (a b : S_Path) : Decidable (joinB a b) := by unfold joinB; infer_instance
def jn (a b : S_Path) : S_Path := ⟨a.Points ++ (b.Points.drop 1).take (b.Points.length - 1), a.Edges ++ b.Edges⟩
def joinPV (a b : S_Path) : S_Path × Bool := if joinB a b then (jn a b, true) else (⟨nl, nl⟩, false)
def PaH (x : S_Path) : Prop := x.Points.length ≤ 4194304 ∧ (∀ c ∈ x.Points, c.length ≤ 4194304) ∧ x.Edges.length ≤ 4194304 ∧ ∀ y ∈ x.Edges, PkF y
theorem PaB.h {x : S_Path} (h : PaB x) : PaH x := ⟨by have := h.1.1; omega, h.f.2.1, by have := h.2.1; omega, h.f.2.2.2⟩
theorem jn_f {a b : S_Path} (ha : PaH a) (hb : PaH b) : PaF (jn a b) := by
  obtain ⟨a1, a2, a3, a4⟩ := ha
  obtain ⟨b1, b2, b3, b4⟩ := hb
  refine ⟨by simp only [jn, List.length_append, List.length_take, List.length_drop]; omega, fun c hc => ?_, by simp only [jn, List.length_append]; omega, fun y hy => ?_⟩
  · rcases List.mem_append.1 hc with hc | hc
    · exact a2 c hc
    · exact b2 c (List.mem_of_mem_drop (List.mem_of_mem_take hc))
  · rcases List.mem_append.1 hy with hy | hy
    · exact a4 y hy
    · exact b4 y hy
theorem wpred {n : Nat} (h1 : 1 ≤ n) (h : n < 4294967296) : IntKind.i64.wrap ((n : Int) - 1) = ((n - 1 : Nat) : Int) := by rw [w64 (by omega) (by omega)]; omega
theorem wjoin {n m : Nat} (h1 : 1 ≤ n) (hn : n < 4294967296) (hm : m < 4294967296) : IntKind.i64.wrap (IntKind.i64.wrap ((n : Int) + (m : Int)) - 1) = ((n + m - 1 : Nat) : Int) := by
  rw [w64 (x := (n : Int) + (m : Int)) (by omega) (by omega), w64 (by omega) (by omega)]; omega
theorem path_Join_e (a b : S_Path) (ha : PaH a) (hb : PaH b) : (path_Join_C a b).o = some (joinPV a b) := by
  have hjf := jn_f ha hb
  obtain ⟨a1, a2, a3, a4⟩ := ha
  obtain ⟨b1, b2, b3, b4⟩ := hb
  show (path_Join_T a b).run NN = _
  have z1 : (1 : Int).toNat = 1 := rfl
  have z0 : (0 : Int).toNat = 0 := rfl
  simp only [path_Join_T, T.run, bif_out, andC_out, bif_tb]
  unfold joinPV
  by_cases c : formP a ∧ formP b
  · obtain ⟨⟨f1, f2⟩, f3, f4⟩ := c
    rw [wpred (n := a.Points.length) (by omega) (by omega), wpred (n := b.Points.length) (by omega) (by omega), wjoin (by omega) (by omega) (by omega)]
    rw [bif_neg (by simp only [Bool.or_eq_false_iff, decide_eq_false_iff_not, bne_eq_false_iff_eq]; omega)]
    have l1 := a2 _ (getD_mem (show a.Points.length - 1 < a.Points.length by omega))
    rw [grd_p (by omega), grd_p (by omega), Int.toNat_natCast, z0, equal_e _ _ (by omega)]
    simp only [Option.bind_some, bif_out, andC_out, bif_tb]
    by_cases e : joinB a b
    · obtain ⟨-, -, e1, e2⟩ := e
      rw [if_pos ⟨⟨f1, f2⟩, ⟨f3, f4⟩, e1, e2⟩, bif_neg (by rw [e1]; simp; omega)]
      have t1 : a.Points.take a.Points.length = a.Points := List.take_length
      have t2 : a.Edges.take (a.Points.length - 1) = a.Edges := by rw [show a.Points.length - 1 = a.Edges.length by omega]; exact List.take_length
      have t3 : ((b.Points.drop 1).take (b.Points.length - 1)).length = b.Points.length - 1 := by simp
      simp only [Int.toNat_natCast, z1, t1, t2, t3]
      rw [grd_p ⟨by omega, by omega, trivial⟩, grd_p (by omega), grd_p ⟨by omega, by simp only [maxLen_eq]; omega, by omega⟩, grd_p ⟨by omega, by omega, trivial⟩, grd_p ⟨by omega, by simp only [maxLen_eq]; omega, by omega⟩]
      have := clonePath_e _ hjf
      unfold jn at this ⊢
      rw [this]; rfl
    · rw [if_neg e, bif_pos ?_]
      cases he : eqV (a.Points.getD (a.Points.length - 1) default) (b.Points.getD 0 default) with
      | false => rfl
      | true =>
        simp only [Bool.not_true, Bool.false_or, decide_eq_true_eq]
        by_cases hl : a.Points.length + b.Points.length ≤ 257
        · exact absurd ⟨⟨f1, f2⟩, ⟨f3, f4⟩, he, hl⟩ e
        · omega
  · rw [if_neg (fun e => c ⟨e.1, e.2.1⟩), bif_pos ?_]
    by_cases h1 : a.Points.length < 2
    · have : ((a.Points.length : Nat) : Int) < 2 := by omega
      simp [this]
    · rw [wpred (n := a.Points.length) (by omega) (by omega)]
      by_cases h2 : a.Edges.length + 1 = a.Points.length
      · by_cases h3 : b.Points.length < 2
        · have : ((b.Points.length : Nat) : Int) < 2 := by omega
          simp [this]
        · rw [wpred (n := b.Points.length) (by omega) (by omega)]
          have h4 : ¬ ((b.Edges.length : Nat) : Int) = ((b.Points.length - 1 : Nat) : Int) := fun h4 => c ⟨⟨by omega, h2⟩, by omega, by omega⟩
          simp [bne, h4]
      · have h4 : ¬ ((a.Edges.length : Nat) : Int) = ((a.Points.length - 1 : Nat) : Int) := by omega
        simp [bne, h4]
theorem formed_e (x : S_Path) (h : x.Points.length < 4294967296) : (ref19_formed_C x).o = some (decide (formP x)) := by
  show (ref19_formed_T x).run NN = _
  simp only [ref19_formed_T, T.run]
  unfold formP
  by_cases h1 : 2 ≤ x.Points.length
  · rw [bif_dpos (by omega), wpred (by omega) h]
    by_cases h2 : x.Edges.length + 1 = x.Points.length
    · rw [decide_eq_true (p := 2 ≤ x.Points.length ∧ x.Edges.length + 1 = x.Points.length) ⟨h1, h2⟩]
      simp; omega
    · rw [decide_eq_false (p := 2 ≤ x.Points.length ∧ x.Edges.length + 1 = x.Points.length) (fun h => h2 h.2)]
      simp; omega
  · rw [bif_dneg (by omega), decide_eq_false (p := 2 ≤ x.Points.length ∧ x.Edges.length + 1 = x.Points.length) (fun h => h1 h.1)]
theorem ref_Join_e (a b : S_Path) (ha : PaH a) (hb : PaH b) : (ref19_Join_C a b).o = some (joinPV a b) := by
  obtain ⟨a1, a2, a3, a4⟩ := ha
  obtain ⟨b1, b2, b3, b4⟩ := hb
  show (ref19_Join_T a b).run NN = _
  have z1 : (1 : Int).toNat = 1 := rfl
  have z0 : (0 : Int).toNat = 0 := rfl
  have ea : (⟨a.Points, a.Edges⟩ : S_Path) = a := rfl
  have eb : (⟨b.Points, b.Edges⟩ : S_Path) = b := rfl
  simp only [ref19_Join_T, T.run, ea, eb, formed_e a (by omega), formed_e b (by omega), Option.bind_some]
  unfold joinPV
  by_cases c1 : formP a
  · by_cases c2 : formP b
    · obtain ⟨f1, f2⟩ := c1
      obtain ⟨f3, f4⟩ := c2
      rw [decide_eq_true (p := formP a) ⟨f1, f2⟩, decide_eq_true (p := formP b) ⟨f3, f4⟩]
      simp only [Bool.not_true, cond_false]
      rw [wpred (n := a.Points.length) (by omega) (by omega), wjoin (by omega) (by omega) (by omega)]
      have l1 := a2 _ (getD_mem (show a.Points.length - 1 < a.Points.length by omega))
      rw [grd_p (by omega), grd_p (by omega), Int.toNat_natCast, z0, sameNums_e _ _ (by omega)]
      simp only [Option.bind_some, bif_out, andC_out, bif_tb]
      by_cases e : joinB a b
      · obtain ⟨-, -, e1, e2⟩ := e
        rw [if_pos ⟨⟨f1, f2⟩, ⟨f3, f4⟩, e1, e2⟩, bif_neg (by rw [e1]; simp; omega)]
        have t3 : ((b.Points.drop 1).take (b.Points.length - 1)).length = b.Points.length - 1 := by simp
        simp only [Int.toNat_natCast, z1, t3]
        rw [grd_p ⟨by omega, by simp only [maxLen_eq]; omega⟩, grd_p ⟨by omega, by simp only [maxLen_eq]; omega⟩, grd_p (by omega), grd_p ⟨by omega, by simp only [maxLen_eq]; omega⟩, grd_p ⟨by omega, by simp only [maxLen_eq]; omega⟩]
        rfl
      · rw [if_neg e, bif_pos ?_]
        cases he : eqV (a.Points.getD (a.Points.length - 1) default) (b.Points.getD 0 default) with
        | false => rfl
        | true =>
          simp only [Bool.not_true, Bool.false_or, decide_eq_true_eq]
          by_cases hl : a.Points.length + b.Points.length ≤ 257
          · exact absurd ⟨⟨f1, f2⟩, ⟨f3, f4⟩, he, hl⟩ e
          · omega
    · rw [if_neg (fun e => c2 e.2.1), decide_eq_true c1, decide_eq_false c2]; rfl
  · rw [if_neg (fun e => c1 e.1), decide_eq_false c1]; rfl
theorem joins_e (a b : S_Path) (ha : PaH a) (hb : PaH b) : (law22_joins_C a b).o = some true := by
  show (law22_joins_T a b).run NN = _
  have ea : (⟨a.Points, a.Edges⟩ : S_Path) = a := rfl
  have eb : (⟨b.Points, b.Edges⟩ : S_Path) = b := rfl
  have hf : PaF (joinPV a b).1 := by
    unfold joinPV
    split
    · exact jn_f ha hb
    · exact ⟨by simp [nl], (fun c hc => by cases hc), by simp [nl], (fun c hc => by cases hc)⟩
  simp only [law22_joins_T, T.run, ea, eb, path_Join_e a b ha hb, ref_Join_e a b ha hb, Option.bind_some, same_path _ hf, cond_true, beq_self_eq_true]
open Go.Proofs
def OkP (s : S_Scene) (x : S_Path) : Prop := (chkPV s x.Points).2 = 0 ∧ x.Points.length = x.Edges.length + 1 ∧
  ∀ i, i < x.Edges.length → (unpV (x.Edges.getD i default)).2 = true ∧ (checkV s (x.Points.getD i default) (x.Points.getD (i + 1) default) (unpV (x.Edges.getD i default)).1).2 = 0
theorem path_Check_ok (s : S_Scene) (x : S_Path) (hx : PaB x) (h : OkP s x) : (path_Check_C s x).o = some (0, 0) := by
  obtain ⟨hc, he, hp⟩ := hx
  obtain ⟨k1, k2, k3⟩ := h
  have hl := hc.1
  have e0 : (path_Check_C s x).o = (path_Check_T s x).run NN := rfl
  rw [e0]
  simp only [path_Check_T, T.run, path_checkPoints_e, Option.bind_some]
  rw [bif_nne k1, bif_nne (by rw [w64 (by omega) (by omega)]; omega)]
  refine (scanI (fun _ => none) x.Edges.length (by omega) (fun j hj => ?_) ?_).trans ?_
  · have ue := unpack_e (hp _ (getD_mem hj))
    have l1 := hc.get (show j < x.Points.length by omega)
    have l2 := hc.get (show j + 1 < x.Points.length by omega)
    obtain ⟨u1, u2⟩ := k3 j hj
    rw [bif_dpos (by omega), grd_p (by omega), Int.toNat_natCast, ue.1]
    simp only [Option.bind_some, u1, Bool.not_true, cond_false, wn (show j < 4294967296 by omega), Int.toNat_natCast]
    rw [grd_p (by omega), grd_p (by omega), edgecheck_Check_e s _ _ _ (by omega) (by omega)]
    simp only [Option.bind_some]
    rw [bif_nne u2]
  · rw [bif_dneg (by omega)]
  · rw [(scan_none _ _).2 (fun _ _ _ => rfl)]
theorem prover_y (s : S_Scene) {d : Int} (h0 : 0 ≤ d) (h20 : d ≤ 20) (p q : List Int) (hp : p.length < 4294967296) (hq : q.length < 4294967296) :
    ∃ x k, (prover_prove_C ⟨s, d⟩ p q).o = some (x, k) ∧ PkB x ∧ (k = true → (unpV x).2 = true ∧ (checkV s p q (unpV x).1).2 = 0) := by
  obtain ⟨r, e, ok⟩ := prove_all s p q hp hq h0 h20
  have e0 : (prover_prove_C ⟨s, d⟩ p q).o = (prover_prove_T ⟨s, d⟩ p q).run NN := rfl
  rw [e0]
  simp only [prover_prove_T, T.run, e, Option.bind_some]
  by_cases c : r.Kind = 1
  · have hn : ∀ x ∈ r.Pieces, x.Normals.length < 4294967296 := fun x hx => by have := ok.bd.2 x hx; omega
    have hl := ok.bd.1
    have hc := prove_check h0 h20 ok c
    have em : mergeV s p q r.Pieces = mergeL (joinV s p q) r.Pieces := by unfold mergeV; rw [if_neg (fun h => h hc)]
    have mc := merge_check hc
    have mb : PsB (mergeL (joinV s p q) r.Pieces) := by
      refine ⟨(check_tlb.1 mc).2.1, fun x hx => ?_⟩
      have h1 := (check_tlb.1 mc).2.2.2 x hx
      have h2 := (free_iff.1 h1).2.2.1
      have := pairs_len s
      omega
    obtain ⟨x, ex, hx, hu⟩ := pack_unp _ mb
    refine ⟨x, true, ?_, hx, fun _ => by rw [hu]; exact ⟨rfl, mc⟩⟩
    rw [bif_nne c, compact_Merge_e s hp hq r.Pieces (by omega) hn]
    simp only [Option.bind_some, em, ex]
  · refine ⟨⟨nl, nl⟩, false, ?_, ⟨by simp [nl], by simp [nl], (fun u hu => by cases hu)⟩, (fun h => by cases h)⟩
    rw [bif_neq c]
theorem path_connect_y (s : S_Scene) {d : Int} (h0 : 0 ≤ d) (h20 : d ≤ 20) (c : List (List Int)) (hc : CfB c) (h1 : 1 ≤ c.length) :
    ∃ y, (path_connect_C c ⟨s, d⟩).o = some y ∧ (y.1.length ≤ 256 ∧ ∀ x ∈ y.1, PkB x) ∧ (y.2.2 = 0 → c.length = y.1.length + 1 ∧
      ∀ i, i < y.1.length → (unpV (y.1.getD i default)).2 = true ∧ (checkV s (c.getD i default) (c.getD (i + 1) default) (unpV (y.1.getD i default)).1).2 = 0) := by
  have hl := hc.1
  show ∃ y, (path_connect_T c ⟨s, d⟩).run NN = some y ∧ _
  have z1 : (1 : Int).toNat = 1 := rfl
  simp only [path_connect_T, T.run, z1, Int.toNat_natCast, tail_len h1]
  rw [grd_p (by omega)]
  refine loop_mf (P := fun y : List S_Packed × Int × Int => (y.1.length ≤ 256 ∧ ∀ x ∈ y.1, PkB x) ∧ (y.2.2 = 0 → c.length = y.1.length + 1 ∧
      ∀ i, i < y.1.length → (unpV (y.1.getD i default)).2 = true ∧ (checkV s (c.getD i default) (c.getD (i + 1) default) (unpV (y.1.getD i default)).1).2 = 0))
    (fun m (y : List S_Packed × Int) => ∃ j : Nat, y.2 = (j : Int) ∧ j + m = c.length - 1 ∧ y.1.length = j ∧ (∀ x ∈ y.1, PkB x) ∧ ∀ i, i < j → (unpV (y.1.getD i default)).2 = true ∧ (checkV s (c.getD i default) (c.getD (i + 1) default) (unpV (y.1.getD i default)).1).2 = 0)
    (fun z : List S_Packed => z.length = c.length - 1 ∧ (∀ x ∈ z, PkB x) ∧ ∀ i, i < z.length → (unpV (z.getD i default)).2 = true ∧ (checkV s (c.getD i default) (c.getD (i + 1) default) (unpV (z.getD i default)).1).2 = 0)
    (c.length - 1) ⟨0, rfl, by omega, by simp [nl], (fun x hx => by cases hx), fun i hi => by omega⟩ (by omega) ?_ (fun z hz => ⟨_, rfl, ⟨by simp only; omega, hz.2.1⟩, fun _ => ⟨by simp only; omega, hz.2.2⟩⟩)
  rintro m ⟨es, i⟩ ⟨j, hj, hm, he, hx, ha⟩
  simp only at hj he hx ha ⊢
  subst hj
  cases m with
  | zero =>
    refine .inr (.inl ⟨_, by rw [bif_dneg (by omega)], by omega, hx, fun i hi => ha i (by omega)⟩)
  | succ m =>
    have l1 := hc.get (show j < c.length by omega)
    have l2 := hc.get (show j + 1 < c.length by omega)
    obtain ⟨x, k, e, hk, hu⟩ := prover_y s h0 h20 (c.getD j default) (c.getD (j + 1) default) (by omega) (by omega)
    rw [bif_dpos (by omega), grd_p (by omega), grd_p (by omega), Int.toNat_natCast, tail_get (by omega), e]
    simp only [Option.bind_some]
    cases k with
    | false => exact .inr (.inr ⟨_, rfl, ⟨by simp [nl], fun x hx => by cases hx⟩, fun h => by cases h⟩)
    | true =>
      simp only [Bool.not_true, cond_false]
      rw [grd_p (by simp only [List.length_cons, List.length_nil, maxLen_eq]; omega)]
      refine .inl ⟨_, m, rfl, Nat.lt_succ_self m, j + 1, by simp only [wn (show j < 4294967296 by omega)], by omega, by simp only [List.length_append, List.length_cons, List.length_nil]; omega, fun y hy => ?_, fun i hi => ?_⟩
      · rcases List.mem_append.1 hy with hy | hy
        · exact hx y hy
        · simp at hy; subst hy; exact hk
      · simp only
        by_cases e1 : i = j
        · subst e1
          have : (es ++ [x]).getD i default = x := by rw [← he]; exact getD_app0
          rw [this]; exact hu rfl
        · rw [getD_app1 (by omega)]; exact ha i (by omega)
theorem path_Build_y (s : S_Scene) {d : Int} (h0 : 0 ≤ d) (h20 : d ≤ 20) (c : List (List Int)) (hc : CfB c) : ∃ y, (path_Build_C s c d).o = some y ∧ PaB y.1 ∧ (y.2.2 = 0 → y.1.Points = c ∧ OkP s y.1) := by
  have nb : PaB ⟨nl, nl⟩ := ⟨⟨by simp [nl], fun x hx => by cases hx⟩, by simp [nl], fun x hx => by cases hx⟩
  have e0 : (path_Build_C s c d).o = (path_Build_T s c d).run NN := rfl
  rw [e0]
  simp only [path_Build_T, T.run, path_checkPoints_e, Option.bind_some]
  by_cases k : (chkPV s c).2 = 0
  · have kk := chkPV_iff.1 k
    obtain ⟨y, ey, ⟨h1, h2⟩, h3⟩ := path_connect_y s h0 h20 c hc (by omega)
    rw [bif_nne k, show (⟨s.Robot, s.Shapes, s.Skips⟩ : S_Scene) = s from rfl, ey]
    simp only [Option.bind_some]
    by_cases k2 : y.2.2 = 0
    · rw [bif_nne k2, clonePoints_e c hc]
      obtain ⟨q1, q2⟩ := h3 k2
      exact ⟨_, rfl, ⟨hc, h1, h2⟩, fun _ => ⟨rfl, k, q1, q2⟩⟩
    · rw [bif_neq k2]; exact ⟨_, rfl, nb, fun h => absurd h k2⟩
  · rw [bif_neq k]; exact ⟨_, rfl, nb, fun h => absurd h k⟩
theorem distance_x (r : S_Robot) (p q : List Int) (hp : p.length < 4294967296) (hq : q.length < 4294967296) : ∃ z, (config_Distance_C r p q).o = some z := by
  suffices h : ∃ z, (config_Distance_C r p q).o = some z ∧ True by
    obtain ⟨z, h1, -⟩ := h; exact ⟨z, h1⟩
  show ∃ z, (config_Distance_T r p q).run NN = some z ∧ True
  simp only [config_Distance_T, T.run, config_small_e p hp, config_small_e q hq, robot_Check_e, Option.bind_some]
  by_cases c1 : p.length = r.Joints.length
  · by_cases c2 : q.length = r.Joints.length
    · rw [bif_nne (by omega), bif_nne (by omega)]
      simp only [bif_out, andC_out]
      generalize (bif !smallV p then true else bif !smallV q then true else robotV r != 0) = b
      cases b with
      | true => exact ⟨_, rfl, trivial⟩
      | false =>
        simp only [cond_false]
        refine loop_mf (P := fun _ : Int => True) (fun m (y : Int × Int) => ∃ j : Nat, y.2 = (j : Int) ∧ j + m = r.Joints.length) (fun _ : Int => True) r.Joints.length ⟨0, rfl, by omega⟩ (by omega) ?_ (fun z hz => ⟨_, rfl, hz⟩)
        rintro m ⟨a, i⟩ ⟨j, hj, hm⟩
        simp only at hj ⊢
        subst hj
        cases m with
        | zero => exact .inr (.inl ⟨_, by rw [bif_dneg (by omega)], trivial⟩)
        | succ m =>
          have g1 : 0 ≤ (j : Int) ∧ (j : Int) < (r.Joints.length : Int) := by omega
          have g2 : 0 ≤ (j : Int) ∧ (j : Int) < (p.length : Int) := by omega
          have g3 : 0 ≤ (j : Int) ∧ (j : Int) < (q.length : Int) := by omega
          rw [bif_dpos (by omega)]
          simp only [grd_p g1, grd_p g2, grd_p g3, wn (show j < 4294967296 by omega)]
          exact .inl ⟨_, m, rfl, Nat.lt_succ_self m, j + 1, rfl, by omega⟩
    · rw [bif_nne (by omega), bif_neq (by omega), andC_out]; exact ⟨_, rfl, trivial⟩
  · rw [bif_neq (by omega), andC_out]; exact ⟨_, rfl, trivial⟩
noncomputable def distV (r : S_Robot) (p q : List Int) : Int := (config_Distance_C r p q).o.getD 0
theorem distance_e (r : S_Robot) (p q : List Int) (hp : p.length < 4294967296) (hq : q.length < 4294967296) : (config_Distance_C r p q).o = some (distV r p q) := by
  obtain ⟨z, e⟩ := distance_x r p q hp hq
  unfold distV; rw [e]; rfl
noncomputable def lenN (r : S_Robot) (c : List (List Int)) : Nat → Int
  | 0 => 0
  | n + 1 => IntKind.i64.wrap (lenN r c n + distV r (c.getD n default) (c.getD (n + 1) default))
theorem path_Length_e (s : S_Scene) (x : S_Path) (hx : PaB x) (h : OkP s x) : (path_Length_C s x).o = some (lenN s.Robot x.Points x.Edges.length) := by
  have hc := hx.1
  have hl := hc.1
  have k2 := h.2.1
  show (path_Length_T s x).run NN = _
  simp only [path_Length_T, T.run, path_Check_ok s x hx h, Option.bind_some]
  rw [bif_nne rfl]
  refine (loop_to (fun j => (lenN s.Robot x.Points j, (j : Int))) (lenN s.Robot x.Points x.Edges.length) x.Edges.length rfl (by show _ < 4294967296; omega) (fun j hj => ?_) ?_).trans rfl
  · have l1 := hc.get (show j < x.Points.length by omega)
    have l2 := hc.get (show j + 1 < x.Points.length by omega)
    rw [bif_dpos (by omega), grd_p (by omega), wn (by omega), grd_p (by omega), Int.toNat_natCast, Int.toNat_natCast, distance_e _ _ _ (by omega) (by omega)]
    rfl
  · rw [bif_dneg (by omega)]
theorem wrap_def (x : Int) : IntKind.i64.wrap x = if x % 18446744073709551616 ≥ 9223372036854775808 then x % 18446744073709551616 - 18446744073709551616 else x % 18446744073709551616 := by
  have : IntKind.i64.wrap x = if (true && decide (x % 18446744073709551616 ≥ 9223372036854775808)) = true then x % 18446744073709551616 - 18446744073709551616 else x % 18446744073709551616 := rfl
  rw [this]; simp
theorem wrap_l (a b : Int) : IntKind.i64.wrap (IntKind.i64.wrap a + b) = IntKind.i64.wrap (a + b) := by
  rw [wrap_def a, wrap_def, wrap_def]
  split <;> split <;> split <;> omega
theorem wrap_r (a b : Int) : IntKind.i64.wrap (a + IntKind.i64.wrap b) = IntKind.i64.wrap (a + b) := by
  rw [Int.add_comm, wrap_l, Int.add_comm]
theorem lenN_wrap (r : S_Robot) (c : List (List Int)) (n : Nat) : IntKind.i64.wrap (lenN r c n) = lenN r c n := by
  cases n with
  | zero => rfl
  | succ n =>
    have := wrap_l (lenN r c n + distV r (c.getD n default) (c.getD (n + 1) default)) 0
    simp only [Int.add_zero] at this
    exact this
theorem getD_drop {α : Type} [Inhabited α] {l : List α} {k i : Nat} : (l.drop k).getD i default = l.getD (k + i) default := by
  simp only [List.getD_eq_getElem?_getD, List.getElem?_drop]
theorem getD_take {α : Type} [Inhabited α] {l : List α} {k i : Nat} (h : i < k) : (l.take k).getD i default = l.getD i default := by
  simp only [List.getD_eq_getElem?_getD, List.getElem?_take_of_lt h]
theorem lenN_congr (r : S_Robot) {c c' : List (List Int)} : ∀ n, (∀ i, i ≤ n → c.getD i default = c'.getD i default) → lenN r c n = lenN r c' n
  | 0, _ => rfl
  | n + 1, h => by
    simp only [lenN]
    rw [lenN_congr r n (fun i hi => h i (by omega)), h n (by omega), h (n + 1) (by omega)]
theorem lenN_add (r : S_Robot) (c : List (List Int)) (k : Nat) : ∀ j, lenN r c (k + j) = IntKind.i64.wrap (lenN r c k + lenN r (c.drop k) j)
  | 0 => by
    have h0 : lenN r (c.drop k) 0 = 0 := rfl
    rw [h0, Int.add_zero, lenN_wrap]; rfl
  | j + 1 => by
    have h1 : lenN r c (k + (j + 1)) = IntKind.i64.wrap (lenN r c (k + j) + distV r (c.getD (k + j) default) (c.getD (k + j + 1) default)) := rfl
    have h2 : lenN r (c.drop k) (j + 1) = IntKind.i64.wrap (lenN r (c.drop k) j + distV r ((c.drop k).getD j default) ((c.drop k).getD (j + 1) default)) := rfl
    rw [h1, h2, lenN_add r c k j, wrap_l, wrap_r, getD_drop, getD_drop, Int.add_assoc]; rfl
open Go.Proofs
theorem jn_ok {s : S_Scene} {c : List (List Int)} {k : Nat} (hk : k < c.length) (hl : c.length ≤ 256) {x y : S_Path} (hx : x.Points = c.take (k + 1)) (hy : y.Points = c.drop k) (ox : OkP s x) (oy : OkP s y) : joinB x y ∧ (jn x y).Points = c ∧ OkP s (jn x y) := by
  obtain ⟨x1, x2, x3⟩ := ox
  obtain ⟨y1, y2, y3⟩ := oy
  have lx : x.Points.length = k + 1 := by rw [hx, List.length_take]; omega
  have ly : y.Points.length = c.length - k := by rw [hy, List.length_drop]
  obtain ⟨a1, a2, a3⟩ := chkPV_iff.1 x1
  obtain ⟨b1, b2, b3⟩ := chkPV_iff.1 y1
  have hpt : (jn x y).Points = c := by
    simp only [jn]
    have : (y.Points.drop 1).take (y.Points.length - 1) = c.drop (k + 1) := by
      rw [List.take_of_length_le (by simp), hy, List.drop_drop]
    rw [this, hx, List.take_append_drop]
  have hel : (jn x y).Edges.length = x.Edges.length + y.Edges.length := by simp only [jn, List.length_append]
  refine ⟨⟨⟨by omega, by omega⟩, ⟨by omega, by omega⟩, ?_, by omega⟩, hpt, ?_, ?_, ?_⟩
  · rw [eqV_iff, hx, hy, getD_take (by rw [List.length_take]; omega), getD_drop, List.length_take]
    congr 1; omega
  · rw [hpt, chkPV_iff]
    refine ⟨a1, by omega, fun i hi => ?_⟩
    by_cases h : i ≤ k
    · have := a3 i (by omega)
      rw [hx, getD_take (by omega)] at this; exact this
    · have := b3 (i - k) (by omega)
      rw [hy, getD_drop, show k + (i - k) = i by omega] at this; exact this
  · rw [hpt, hel]; omega
  · intro i hi
    rw [hpt]
    rw [hel] at hi
    by_cases h : i < k
    · have h2 := x3 i (by omega)
      rw [hx, getD_take (by omega), getD_take (by omega)] at h2
      have h3 : (jn x y).Edges.getD i default = x.Edges.getD i default := by simp only [jn]; rw [getD_app1 (by omega)]
      rw [h3]; exact h2
    · have h2 := y3 (i - k) (by omega)
      rw [hy, getD_drop, getD_drop, show k + (i - k) = i by omega, show k + (i - k + 1) = i + 1 by omega] at h2
      have h3 : (jn x y).Edges.getD i default = y.Edges.getD (i - k) default := by simp only [jn]; rw [getD_app2 (by omega), show i - x.Edges.length = i - k by omega]
      rw [h3]; exact h2
theorem jn_len (r : S_Robot) {c : List (List Int)} {k j : Nat} {x y : List (List Int)} (hx : x = c.take (k + 1)) (hy : y = c.drop k) : lenN r c (k + j) = IntKind.i64.wrap (lenN r x k + lenN r y j) := by
  rw [lenN_add, hy]
  congr 2
  exact lenN_congr r k fun i hi => by rw [hx, getD_take (by omega)]
theorem pathJoins_true (a b : S_Path) (l m : List Int) (depth at' : Int) (ha : PaH a) (hb : PaH b) (hl : l.length < 4294967296) (hm : m.length < 4294967296) : (law22_PathJoins_C a b l m depth at').o = some true := by
  suffices h : ∃ r, (law22_PathJoins_C a b l m depth at').o = some r ∧ r = true by
    obtain ⟨r, h1, rfl⟩ := h; exact h1
  show ∃ r, (law22_PathJoins_T a b l m depth at').run NN = some r ∧ r = true
  obtain ⟨⟨s, c, d⟩, e1, ⟨d0, d1⟩, hc, hr⟩ := law22_corners_x l m depth hl hm
  simp only at d0 d1 hc hr
  have es : (⟨s.Robot, s.Shapes, s.Skips⟩ : S_Scene) = s := rfl
  have ep : ∀ x : S_Path, (⟨x.Points, x.Edges⟩ : S_Path) = x := fun _ => rfl
  have z0 : (0 : Int).toNat = 0 := rfl
  have c1 := hc.1
  have cf := hc.cf hr
  obtain ⟨k, hk, hkl⟩ : ∃ k : Nat, at' % (c.length : Int) = (k : Int) ∧ k < c.length := by
    have a1 := Int.emod_nonneg at' (show (c.length : Int) ≠ 0 by omega)
    have a2 := Int.emod_lt_of_pos at' (show (0 : Int) < (c.length : Int) by omega)
    exact ⟨(at' % (c.length : Int)).toNat, by omega, by omega⟩
  have cf1 : CfB (c.take (k + 1)) := ⟨by rw [List.length_take]; omega, fun x hx => cf.2 x (List.mem_of_mem_take hx)⟩
  have cf2 : CfB (c.drop k) := ⟨by rw [List.length_drop]; omega, fun x hx => cf.2 x (List.mem_of_mem_drop hx)⟩
  have t1 : (c.drop 0).take (k + 1 - 0) = c.take (k + 1) := by simp
  have t2 : (c.drop k).take (c.length - k) = c.drop k := List.take_of_length_le (by simp)
  obtain ⟨⟨x, i, e⟩, ex, px, ox⟩ := path_Build_y s d0 (by omega) _ cf1
  obtain ⟨⟨y, j, f⟩, ey, py, oy⟩ := path_Build_y s d0 (by omega) _ cf2
  simp only at px ox py oy
  simp only [law22_PathJoins_T, T.run, e1, Option.bind_some]
  rw [make_Round_e (by omega) (by omega), hk]
  simp only [Option.bind_some, es, ep]
  rw [wn (by omega), grd_p (by omega)]
  simp only [Int.toNat_natCast, z0, t1, t2, ex, ey, Option.bind_some]
  rw [grd_p (by omega)]
  simp only [joins_e _ _ ha hb, joins_e _ _ px.h py.h, joins_e _ _ ha px.h, joins_e _ _ px.h px.h, Option.bind_some, Bool.not_true, cond_false, andC_out, bif_out, bif_tb, awake22, cond_true]
  by_cases ke : e = 0
  · by_cases kf : f = 0
    · obtain ⟨qx, ok1⟩ := ox ke
      obtain ⟨qy, ok2⟩ := oy kf
      obtain ⟨jb, jp, jo⟩ := jn_ok hkl (by omega) qx qy ok1 ok2
      subst ke; subst kf
      simp only [bne_self_eq_false, Bool.or_self, cond_false, path_Join_e _ _ px.h py.h]
      have pj : PaB (jn x y) := by
        refine ⟨by rw [jp]; exact cf, ?_, fun z hz => ?_⟩
        · have := jo.2.1; rw [jp] at this; omega
        · rcases List.mem_append.1 hz with hz | hz
          · exact px.2.2 z hz
          · exact py.2.2 z hz
      have hj : joinPV x y = (jn x y, true) := by unfold joinPV; rw [if_pos jb]
      rw [hj]
      simp only [Option.bind_some, path_Check_ok s _ pj jo, cond_true, path_Length_e s _ pj jo, path_Length_e s _ px ok1, path_Length_e s _ py ok2]
      rw [bif_eq rfl, bif_pos ?_, jp, same_lists c (by omega) (fun v hv => by have := cf.2 v hv; omega)]
      · exact ⟨_, rfl, rfl⟩
      · have h1 : (jn x y).Edges.length = k + y.Edges.length := by
          have := ok1.2.1
          rw [qx, List.length_take] at this
          simp only [jn, List.length_append]; omega
        have h2 : x.Edges.length = k := by
          have := ok1.2.1
          rw [qx, List.length_take] at this; omega
        rw [h1, h2, jp, jn_len s.Robot qx qy]
        simp
    · have hb : (e != 0 || f != 0) = true := by simp [kf]
      simp only [hb, cond_true]; exact ⟨_, rfl, rfl⟩
  · have hb : (e != 0 || f != 0) = true := by simp [ke]
    simp only [hb, cond_true]; exact ⟨_, rfl, rfl⟩
end Go.Abs
