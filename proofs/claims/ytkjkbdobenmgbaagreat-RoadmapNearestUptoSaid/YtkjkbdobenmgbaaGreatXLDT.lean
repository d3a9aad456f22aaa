/-
  DT (a part of a claim: our own text).
-/
import Derived.Test.YtkjkbdobenmgbaaGreatXLDS
import Derived.Test.YtkjkbdobenmgbaaGreatXLDL2
namespace Go.Abs
open Go.Proofs
open Go.Sort (SWO)
def vK (P : List (List Int)) (ax x : Int) : Int := (P.getD x.toNat default).getD ax.toNat default
def ltK (P : List (List Int)) (ax x y : Int) : Bool := decide (vK P ax x < vK P ax y ∨ (vK P ax x = vK P ax y ∧ x < y))
theorem ltK_iff {P : List (List Int)} {ax x y : Int} : ltK P ax x y = true ↔ vK P ax x < vK P ax y ∨ (vK P ax x = vK P ax y ∧ x < y) := by unfold ltK; rw [decide_eq_true_eq]
theorem ltK_not {P : List (List Int)} {ax x y : Int} : ltK P ax x y = false ↔ ¬ (vK P ax x < vK P ax y ∨ (vK P ax x = vK P ax y ∧ x < y)) := by unfold ltK; rw [decide_eq_false_iff_not]
theorem swoK (P : List (List Int)) (ax : Int) : SWO (ltK P ax) where
  irrefl x := ltK_not.2 (by omega)
  trans x y z h1 h2 := by rw [ltK_iff] at *; omega
  ntrans x y z h1 h2 := by rw [ltK_not] at *; omega
theorem cmpI64 (a b : Int) : (cmp_Compare_int64_C a b).o = some (cmpI' a b) := by
  have h : ∀ x, (cmp_isNaN_int64_C x).o = some (x != x) := fun _ => rfl
  show (cmp_Compare_int64_T a b).run NN = _
  simp only [cmp_Compare_int64_T, T.run, h, Option.bind_some, bne_self_eq_false, cond_false]
  unfold cmpI'
  by_cases c1 : a < b
  · rw [bif_dpos c1, if_pos c1]
  · rw [bif_dneg c1, if_neg c1]
    by_cases c2 : a > b
    · rw [bif_dpos c2, if_pos c2]
    · rw [bif_dneg c2, if_neg c2]
def PtsOk (P : List (List Int)) (J : Nat) : Prop := P.length ≤ 1000 ∧ (1 ≤ J ∧ J ≤ 10) ∧ ∀ c ∈ P, c.length = J ∧ ∀ x ∈ c, -4194304 ≤ x ∧ x ≤ 4194304
def InP (P : List (List Int)) (x : Int) : Prop := 0 ≤ x ∧ x < (P.length : Int)
theorem PtsOk.at {P : List (List Int)} {J : Nat} (h : PtsOk P J) {x : Int} (hx : InP P x) : (P.getD x.toNat default).length = J := (h.2.2 _ (getD_mem (by unfold InP at hx; omega))).1
theorem order_e {P : List (List Int)} {J : Nat} (h : PtsOk P J) {ax x y : Int} (ha : 0 ≤ ax ∧ ax < (J : Int)) (hx : InP P x) (hy : InP P y) : ∃ z, (neighbor_order_C P ax x y).o = some z ∧ decide (z < 0) = ltK P ax x y := by
  have l1 := h.at hx
  have l2 := h.at hy
  refine ⟨if cmpI' (vK P ax x) (vK P ax y) ≠ 0 then cmpI' (vK P ax x) (vK P ax y) else cmpI' x y, ?_, ?_⟩
  · show (neighbor_order_T P ax x y).run NN = _
    simp only [neighbor_order_T, T.run]
    unfold InP at hx hy
    have hI : (cmp_Compare_int_C x y).o = some (cmpI' x y) := cmpI x y
    rw [grd_p (by omega), grd_p (by omega), grd_p (by omega), grd_p (by omega), cmpI64, hI]
    simp only [Option.bind_some]
    rw [cmpOr2]; rfl
  · rw [Bool.eq_iff_iff, decide_eq_true_eq, ltK_iff]
    unfold cmpI'
    generalize vK P ax x = a
    generalize vK P ax y = b
    split <;> split <;> (try split) <;> omega
theorem cmpK_ok {P : List (List Int)} {J : Nat} (h : PtsOk P J) {ax : Int} (ha : 0 ≤ ax ∧ ax < (J : Int)) : CmpOk (InP P) (cmp_int P ax) (ltK P ax) := fun x y hx hy => by
  obtain ⟨z, z1, z2⟩ := order_e h ha hx hy
  refine ⟨z, ?_, z2⟩
  show (neighbor_Build_2_1_T x y P ax).run NN = _
  simp only [neighbor_Build_2_1_T, T.run, z1, Option.bind_some]
theorem small_e (c : List Int) (hl : c.length ≤ 10) (hc : ∀ x ∈ c, -4194304 ≤ x ∧ x ≤ 4194304) : (neighbor_small_C c).o = some true := by
  show (neighbor_small_T c).run NN = _
  simp only [neighbor_small_T, T.run]
  refine (scanI (fun _ => none) c.length (by omega) (fun j hj => ?_) (by rw [bif_dneg (by omega)])).trans ?_
  · have := hc _ (getD_mem hj)
    rw [bif_dpos (by omega), grd_p (by omega), Int.toNat_natCast, bif_dneg (by omega), decide_eq_false (by omega), andC_out, wn (by omega)]; rfl
  · rw [(scan_none _ _).2 (fun _ _ _ => rfl)]
theorem validPts_e {P : List (List Int)} {J : Nat} (h : PtsOk P J) : (neighbor_validPoints_C P).o = some true := by
  obtain ⟨h1, h2, h3⟩ := h
  show (neighbor_validPoints_T P).run NN = _
  simp only [neighbor_validPoints_T, T.run]
  rw [bif_dneg (by omega)]
  refine (scanI (fun _ => none) P.length (by omega) (fun j hj => ?_) (by rw [bif_dneg (by omega)])).trans ?_
  · obtain ⟨q1, q2⟩ := h3 _ (getD_mem hj)
    obtain ⟨q3, -⟩ := h3 _ (getD_mem (show 0 < P.length by omega))
    have z0 : (0 : Int).toNat = 0 := rfl
    rw [bif_dpos (by omega), grd_p (by omega), Int.toNat_natCast, z0, bif_dneg (by omega), bif_dneg (by omega), grd_p (by omega), bif_nne (by omega), small_e _ (by omega) q2]
    simp only [Option.bind_some, andC_out, Bool.not_true, cond_false]
    rw [wn (by omega)]
  · rw [(scan_none _ _).2 (fun _ _ _ => rfl)]
abbrev nd (Q : List S_KdNode) (j : Nat) : S_KdNode := Q.getD j default
inductive KD (P : List (List Int)) (J : Nat) (Q : List S_KdNode) : Int → Nat → Nat → Prop
  | nil (b : Nat) : KD P J Q (-1) b b
  | node (b m e : Nat) (hb : b < Q.length) (h1 : KD P J Q (nd Q b).Low (b + 1) m) (h2 : KD P J Q (nd Q b).High m e) (ha : 0 ≤ (nd Q b).Axis ∧ (nd Q b).Axis < (J : Int)) (hp : InP P (nd Q b).Point)
    (o1 : ∀ j, b + 1 ≤ j → j < m → ltK P (nd Q b).Axis (nd Q j).Point (nd Q b).Point = true) (o2 : ∀ j, m ≤ j → j < e → ltK P (nd Q b).Axis (nd Q b).Point (nd Q j).Point = true) : KD P J Q (b : Int) b e
theorem KD.le {P : List (List Int)} {J : Nat} {Q : List S_KdNode} {i : Int} {b e : Nat} (h : KD P J Q i b e) : b ≤ e := by
  induction h with
  | nil b => exact Nat.le_refl _
  | node b m e hb h1 h2 ha hp o1 o2 i1 i2 => omega
theorem KD.congr {P : List (List Int)} {J : Nat} {Q Q' : List S_KdNode} {i : Int} {b e : Nat} (h : KD P J Q i b e) (he : e ≤ Q'.length) (hT : ∀ j, b ≤ j → j < e → nd Q j = nd Q' j) : KD P J Q' i b e := by
  induction h with
  | nil b => exact .nil b
  | node b m e hb h1 h2 ha hp o1 o2 i1 i2 =>
    have l1 := h1.le
    have l2 := h2.le
    have e0 := hT b (Nat.le_refl _) (by omega)
    have k1 := i1 (by omega) fun j h1 h2 => hT j (by omega) (by omega)
    have k2 := i2 he fun j h1 h2 => hT j (by omega) h2
    rw [e0] at k1 k2 ha hp o1 o2
    exact .node b m e (by omega) k1 k2 ha hp (fun j h1 h2 => by rw [← hT j (by omega) (by omega)]; exact o1 j h1 h2) (fun j h1 h2 => by rw [← hT j (by omega) (by omega)]; exact o2 j h1 h2)
theorem nd_app_left {Q U : List S_KdNode} {j : Nat} (h : j < Q.length) : nd (Q ++ U) j = nd Q j := by
  simp [nd, List.getD_eq_getElem?_getD, List.getElem?_append_left h]
theorem nd_app_right {Q U : List S_KdNode} {j : Nat} (h : Q.length ≤ j) : nd (Q ++ U) j = nd U (j - Q.length) := by
  simp [nd, List.getD_eq_getElem?_getD, List.getElem?_append_right h]
theorem nd_mem {U : List S_KdNode} {j : Nat} (h : j < U.length) : (nd U j).Point ∈ U.map (·.Point) := List.mem_map.2 ⟨_, getD_mem h, rfl⟩
theorem build2_x {P : List (List Int)} {J : Nat} (hP : PtsOk P J) : ∀ (N : Nat) (X R Y : List Int) (lv : Nat) (Q : List S_KdNode), R.length < N → (∀ x ∈ R, InP P x) → R.Nodup → lv + R.length ≤ 2000 → Q.length + R.length ≤ 2000 → R.length ≤ 1000 →
    ∃ s seg i, (RecS.fix neighbor_Build_2_S N).o (X ++ R ++ Y, X.length, R.length, (lv : Int), P, Q) = some (i, X ++ s ++ Y, Q ++ seg) ∧ s.Perm R ∧ seg.length = R.length ∧ (seg.map (·.Point)).Perm R ∧ KD P J (Q ++ seg) i Q.length (Q.length + R.length)
  | 0, _, _, _, _, _, h, _, _, _, _, _ => by omega
  | N + 1, X, R, Y, lv, Q, hN, hR, hnd, hlv, hTl, hRl => by
    have ho : (RecS.fix neighbor_Build_2_S (N + 1)).o (X ++ R ++ Y, X.length, R.length, (lv : Int), P, Q) = (neighbor_Build_2_T (RecS.fix neighbor_Build_2_S N) (X ++ R ++ Y) X.length R.length (lv : Int) P Q).run NN := rfl
    rw [ho]
    simp only [neighbor_Build_2_T, T.run]
    by_cases h0 : R.length = 0
    · obtain rfl := List.length_eq_zero_iff.1 h0
      rw [bif_eq (by simp)]
      exact ⟨[], [], -1, by simp, List.Perm.refl _, rfl, List.Perm.refl _, .nil _⟩
    rw [bif_ne (by omega)]
    obtain ⟨hp1, hp2, hp3⟩ := hP
    have hP : PtsOk P J := ⟨hp1, hp2, hp3⟩
    have hpl : 0 < P.length := by
      obtain ⟨x, hx⟩ := List.exists_mem_of_length_pos (show 0 < R.length by omega)
      have := hR x hx; unfold InP at this; omega
    have hJ := (hp3 _ (getD_mem hpl)).1
    have z0 : (0 : Int).toNat = 0 := rfl
    have eax : Int.tmod (lv : Int) (J : Int) = ((lv % J : Nat) : Int) := by rw [Int.tmod_eq_emod_of_nonneg (by omega)]; omega
    have hax : lv % J < J := Nat.mod_lt _ (by omega)
    have e2 : IntKind.i64.wrap (Int.tdiv (R.length : Int) 2) = ((R.length / 2 : Nat) : Int) := by rw [Int.tdiv_eq_ediv_of_nonneg (by omega), w64 (by omega) (by omega)]; omega
    have e3 : IntKind.i64.wrap (((R.length / 2 : Nat) : Int) + 1) = ((R.length / 2 + 1 : Nat) : Int) := wn (by omega)
    have e4 : IntKind.i64.wrap ((lv : Int) + 1) = ((lv + 1 : Nat) : Int) := wn (by omega)
    simp only [z0, hJ, eax, e2, e3, e4, Int.toNat_natCast, Nat.add_zero, Nat.sub_zero]
    have hdr : (X ++ R ++ Y).drop X.length = R ++ Y := by rw [List.append_assoc, List.drop_left]
    have htk : ((X ++ R ++ Y).drop X.length).take R.length = R := by rw [hdr, List.take_left]
    obtain ⟨s, s1, s2, s3⟩ := sort_int P ((lv % J : Nat) : Int) (cmpK_ok hP ⟨by omega, by omega⟩) (swoK P _) (X ++ R ++ Y) X.length R.length (by simp) (by omega) (by rw [htk]; exact hR)
    rw [htk] at s2
    have etk : (X ++ R ++ Y).take X.length = X := by rw [List.append_assoc, List.take_left]
    have edr : (X ++ R ++ Y).drop (X.length + R.length) = Y := by rw [← List.length_append, List.drop_left]
    rw [etk, edr] at s1
    rw [grd_p (by omega), grd_p (by omega), s1]
    simp only [Option.bind_some]
    have hsl : s.length = R.length := s2.length_eq
    obtain ⟨h, hh⟩ : ∃ h, h = R.length / 2 := ⟨_, rfl⟩
    rw [← hh]
    have hlt : h < s.length := by omega
    obtain ⟨p, hpv⟩ : ∃ p, p = s.getD h default := ⟨_, rfl⟩
    have hsp : s = s.take h ++ p :: s.drop (h + 1) := by
      conv => lhs; rw [← List.take_append_drop h s]
      rw [List.drop_eq_getElem_cons hlt, hpv, List.getD_eq_getElem?_getD, List.getElem?_eq_getElem hlt, Option.getD_some]
    have hl1 : (s.take h).length = h := by rw [List.length_take]; omega
    have hl2 : (s.drop (h + 1)).length = R.length - (h + 1) := by rw [List.length_drop]; omega
    generalize s.take h = A at *
    generalize s.drop (h + 1) = B at *
    have hgp : (X ++ s ++ Y).getD (X.length + h) default = p := by
      rw [hsp]; simp [List.getD_eq_getElem?_getD, ← hl1, List.getElem?_append]
    have hXs : (X ++ s ++ Y).length = X.length + R.length + Y.length := by simp only [List.length_append, hsl]
    have hs_nd : s.Nodup := s2.nodup_iff.2 hnd
    rw [hsp] at hs_nd s3
    obtain ⟨n1, n2, n3⟩ := List.nodup_append.1 hs_nd
    obtain ⟨n4, n5⟩ := List.nodup_cons.1 n2
    obtain ⟨w1, w2, w3⟩ := List.pairwise_append.1 s3
    have w4 := (List.pairwise_cons.1 w2).1
    have hS : ∀ x ∈ A ++ p :: B, InP P x := fun x hx => hR x (s2.mem_iff.1 (by rw [hsp]; exact hx))
    rw [grd_p (by omega), grd_p (by omega), hgp]
    obtain ⟨D, hD⟩ : ∃ D : S_KdNode, D = ⟨p, ((lv % J : Nat) : Int), 0, 0⟩ := ⟨_, rfl⟩
    rw [← hD, grd_p (by simp only [List.length_cons, List.length_nil, maxLen_eq]; omega), grd_p (by omega)]
    have ea : X ++ s ++ Y = X ++ A ++ (p :: B ++ Y) := by rw [hsp]; simp
    obtain ⟨sA, gA, iA, a1, a2, a3, a4, a5⟩ := build2_x hP N X A (p :: B ++ Y) (lv + 1) (Q ++ [D]) (by omega) (fun x hx => hS x (List.mem_append_left _ hx)) n1 (by omega) (by simp; omega) (by omega)
    have hcA : ((RecS.fix neighbor_Build_2_S N).C (X ++ s ++ Y, X.length, h, ((lv + 1 : Nat) : Int), P, Q ++ [D])).o = some (iA, X ++ sA ++ (p :: B ++ Y), Q ++ [D] ++ gA) := by
      rw [ea, ← hl1]; exact a1
    rw [hcA]
    simp only [Option.bind_some]
    have hslA : sA.length = A.length := a2.length_eq
    have eb : X ++ sA ++ (p :: B ++ Y) = (X ++ sA ++ [p]) ++ B ++ Y := by simp
    obtain ⟨sB, gB, iB, b1, b2, b3, b4, b5⟩ := build2_x hP N (X ++ sA ++ [p]) B Y (lv + 1) (Q ++ [D] ++ gA) (by omega) (fun x hx => hS x (by simp [hx])) n5 (by omega) (by simp; omega) (by omega)
    have hcB : ((RecS.fix neighbor_Build_2_S N).C (X ++ sA ++ (p :: B ++ Y), X.length + (h + 1), R.length - (h + 1), ((lv + 1 : Nat) : Int), P, Q ++ [D] ++ gA)).o = some (iB, (X ++ sA ++ [p]) ++ sB ++ Y, Q ++ [D] ++ gA ++ gB) := by
      have : X.length + (h + 1) = (X ++ sA ++ [p]).length := by simp; omega
      rw [eb, this, ← hl2]; exact b1
    rw [grd_p (by omega), hcB]
    simp only [Option.bind_some]
    have hg : Q ++ [D] ++ gA ++ gB = Q ++ D :: (gA ++ gB) := by simp
    rw [hg]
    have hgl : (Q ++ D :: (gA ++ gB)).length = Q.length + R.length := by simp; omega
    have hgd : (Q ++ D :: (gA ++ gB)).getD Q.length default = D := by simp [List.getD_eq_getElem?_getD]
    have hst : ∀ E F : S_KdNode, (Q ++ F :: (gA ++ gB)).set Q.length E = Q ++ E :: (gA ++ gB) := fun E F => by
      rw [List.set_append_right _ _ (Nat.le_refl _)]; simp
    rw [grd_p (by omega), grd_p (by omega), grd_p (by rw [List.length_set]; omega), grd_p (by rw [List.length_set]; omega), hgd, hst]
    obtain ⟨F, hF⟩ : ∃ F : S_KdNode, F = ⟨p, ((lv % J : Nat) : Int), iA, iB⟩ := ⟨_, rfl⟩
    have hFp : F.Point = p := by rw [hF]
    have hFa : F.Axis = ((lv % J : Nat) : Int) := by rw [hF]
    have hFl : F.Low = iA := by rw [hF]
    have hFh : F.High = iB := by rw [hF]
    refine ⟨sA ++ p :: sB, F :: (gA ++ gB), (Q.length : Int), ?_, ?_, by simp; omega, ?_, ?_⟩
    · rw [hst, hD, hF]
      have hq : ∀ E : S_KdNode, (Q ++ E :: (gA ++ gB)).getD Q.length default = E := fun E => by simp [List.getD_eq_getElem?_getD]
      simp only [hq, List.append_assoc, List.cons_append, List.nil_append]
    · refine List.Perm.trans ?_ s2
      rw [hsp]
      exact a2.append (b2.cons p)
    · refine List.Perm.trans ?_ s2
      rw [hsp]
      simp only [List.map_cons, List.map_append, hF]
      exact (List.Perm.cons p (a4.append b4)).trans List.perm_middle.symm
    · have hnF : nd (Q ++ F :: (gA ++ gB)) Q.length = F := by simp [nd, List.getD_eq_getElem?_getD]
      have hag : ∀ j, Q.length < j → nd (Q ++ [D] ++ gA ++ gB) j = nd (Q ++ F :: (gA ++ gB)) j := fun j hj => by
        rw [hg, nd_app_right (by omega), nd_app_right (by omega)]
        obtain ⟨t, ht⟩ : ∃ t, j - Q.length = t + 1 := ⟨j - Q.length - 1, by omega⟩
        rw [ht]; rfl
      have hpA : ∀ j, Q.length + 1 ≤ j → j < Q.length + 1 + h → (nd (Q ++ F :: (gA ++ gB)) j).Point ∈ A := fun j h1 h2 => by
        rw [nd_app_right (by omega)]
        obtain ⟨t, ht⟩ : ∃ t, j - Q.length = t + 1 := ⟨j - Q.length - 1, by omega⟩
        have : nd (F :: (gA ++ gB)) (t + 1) = nd gA t := by
          show nd (gA ++ gB) t = _
          exact nd_app_left (by omega)
        rw [ht, this]
        exact a4.mem_iff.1 (nd_mem (by omega))
      have hpB : ∀ j, Q.length + 1 + h ≤ j → j < Q.length + R.length → (nd (Q ++ F :: (gA ++ gB)) j).Point ∈ B := fun j h1 h2 => by
        rw [nd_app_right (by omega)]
        obtain ⟨t, ht⟩ : ∃ t, j - Q.length = t + 1 := ⟨j - Q.length - 1, by omega⟩
        have : nd (F :: (gA ++ gB)) (t + 1) = nd gB (t - gA.length) := by
          show nd (gA ++ gB) t = _
          exact nd_app_right (by omega)
        rw [ht, this]
        exact b4.mem_iff.1 (nd_mem (by omega))
      have tot : ∀ x y, x ≠ y → ltK P ((lv % J : Nat) : Int) y x = false → ltK P ((lv % J : Nat) : Int) x y = true := fun x y hxy hf => by
        rw [ltK_not] at hf; rw [ltK_iff]; omega
      have hlen : (Q ++ [D]).length = Q.length + 1 := by simp
      have hlen2 : (Q ++ [D] ++ gA).length = Q.length + 1 + h := by simp; omega
      refine .node Q.length (Q.length + 1 + h) _ (by rw [List.length_append, List.length_cons]; omega) ?_ ?_ ?_ ?_ (fun j h1 h2 => ?_) (fun j h1 h2 => ?_)
      · rw [hnF, hFl]
        rw [hlen] at a5
        rw [show A.length = h from hl1] at a5
        refine a5.congr (by simp; omega) fun j h1 h2 => ?_
        rw [← hag j (by omega), nd_app_left (Q := Q ++ [D] ++ gA) (by omega)]
      · rw [hnF, hFh]
        rw [hlen2] at b5
        have : Q.length + 1 + h + B.length = Q.length + R.length := by omega
        rw [this] at b5
        exact b5.congr (by simp; omega) fun j h1 h2 => hag j (by omega)
      · rw [hnF, hFa]; omega
      · rw [hnF, hFp]; exact hS p (by simp)
      · rw [hnF, hFa, hFp]
        have hm := hpA j h1 h2
        exact tot _ _ (fun e => n3 _ hm p (List.mem_cons_self ..) e) (w3 _ hm p (List.mem_cons_self ..))
      · rw [hnF, hFa, hFp]
        have hm := hpB j h1 h2
        exact tot _ _ (fun e => n4 (by rw [show p = _ from e]; exact hm)) (w4 _ hm)
open Go.Proofs
theorem casts_range_nodup (n : Nat) : (casts (List.range n)).Nodup := by
  refine List.Pairwise.map _ (fun a b h => ?_) (List.nodup_range (n := n))
  simp only [ne_eq]; omega
theorem build_e {P : List (List Int)} {J : Nat} (hP : PtsOk P J) : ∃ Q i, (neighbor_Build_C P).o = some Q ∧ Q.length = P.length ∧ (Q.map (·.Point)).Perm (casts (List.range P.length)) ∧ KD P J Q i 0 P.length := by
  show ∃ Q i, (neighbor_Build_T P).run NN = some Q ∧ _
  have h1 := hP.1
  simp only [neighbor_Build_T, T.run, validPts_e hP, Option.bind_some, Bool.not_true, cond_false, Int.toNat_natCast, List.length_replicate]
  rw [grd_p (by omega)]
  have key : ∀ k : List Int → Option (List S_KdNode), andK (iter (fun x : List Int × Int => bif decide (x.2 < ((P.length : Nat) : Int)) then grd (0 ≤ x.2 ∧ x.2 < ((x.1.length : Nat) : Int)) (grd ((x.2).toNat < x.1.length ∧ 0 ≤ (x.2).toNat) (some (Step3.next (x.1.set (x.2).toNat x.2, IntKind.i64.wrap (x.2 + 1))))) else some (Step3.out x.1)) NN (List.replicate P.length (0 : Int), 0)) k = k (casts (List.range P.length)) := fun k => by
    refine loop_o _ (fun m (y : List Int × Int) => ∃ j : Nat, y.2 = (j : Int) ∧ j + m = P.length ∧ y.1.length = P.length ∧ ∀ t, t < j → y.1.getD t default = (t : Int)) P.length ⟨0, rfl, by omega, by simp, fun t ht => by omega⟩ (by omega) ?_
    rintro m ⟨z, y⟩ ⟨j, hj, hjm, hz, ht⟩
    simp only at hj hz ht ⊢
    subst hj
    cases m with
    | zero =>
      rw [bif_dneg (by omega)]
      refine .inr ?_
      have : z = casts (List.range P.length) := getD_ext (by simp [hz]) fun i hi => by
        rw [ht i (by omega), casts_get (by simp; omega)]
        simp [List.getD_eq_getElem?_getD, List.getElem?_range (show i < P.length by omega)]
      rw [this]
    | succ m =>
      rw [bif_dpos (by omega), grd_p (by omega), Int.toNat_natCast, grd_p (by omega), wn (by omega)]
      refine .inl ⟨_, m, rfl, Nat.lt_succ_self m, j + 1, rfl, by omega, by simp only [List.length_set]; exact hz, fun t h => ?_⟩
      simp only
      rw [getD_set (by omega)]
      split
      · omega
      · exact ht t (by omega)
  rw [key]
  have hl : (casts (List.range P.length)).length = P.length := by simp
  obtain ⟨s, seg, i, q1, q2, q3, q4, q5⟩ := build2_x hP NN [] (casts (List.range P.length)) [] 0 [] (by rw [hl]; show _ < 4294967296; omega) (fun x hx => by
    obtain ⟨t, ht, rfl⟩ := List.mem_map.1 hx
    have := List.mem_range.1 ht
    unfold InP; omega) (casts_range_nodup _) (by omega) (by rw [hl]; simp; omega) (by omega)
  have hC : (neighbor_Build_2_C (casts (List.range P.length)) 0 (casts (List.range P.length)).length 0 P nl).o = some (i, [] ++ s ++ [], [] ++ seg) := by
    rw [← q1]; simp [nl]; rfl
  rw [hC]
  refine ⟨seg, i, rfl, by omega, q4, ?_⟩
  simpa [hl] using q5
def Pa (Q : List S_KdNode) (p c : Nat) : Prop := (nd Q p).Low = (c : Int) ∨ (nd Q p).High = (c : Int)
section
variable {P : List (List Int)} {J : Nat} {Q : List S_KdNode}
theorem KD.root {i : Int} {b e : Nat} (h : KD P J Q i b e) : (i = -1 ∧ b = e) ∨ (i = (b : Int) ∧ b < e) := by
  cases h with
  | nil b => exact .inl ⟨rfl, rfl⟩
  | node b m e hb h1 h2 ha hp o1 o2 => exact .inr ⟨rfl, by have := h1.le; have := h2.le; omega⟩
theorem KD.child {i : Int} {b e : Nat} (h : KD P J Q i b e) : ∀ p, b ≤ p → p < e → ((nd Q p).Low = -1 ∨ ((p : Int) < (nd Q p).Low ∧ (nd Q p).Low < (e : Int))) ∧ ((nd Q p).High = -1 ∨ ((p : Int) < (nd Q p).High ∧ (nd Q p).High < (e : Int))) := by
  induction h with
  | nil b => intro p h1 h2; omega
  | node b m e hb h1 h2 ha hp o1 o2 i1 i2 =>
    intro p hp1 hp2
    have l1 := h1.le
    have l2 := h2.le
    have r1 := h1.root
    have r2 := h2.root
    by_cases c : p = b
    · subst c; omega
    · by_cases c2 : p < m
      · have := i1 p (by omega) c2; omega
      · exact i2 p (by omega) hp2
theorem KD.parent {i : Int} {b e : Nat} (h : KD P J Q i b e) : ∀ c, b < c → c < e → ∃ p, b ≤ p ∧ p < c ∧ Pa Q p c := by
  induction h with
  | nil b => intro c h1 h2; omega
  | node b m e hb h1 h2 ha hp o1 o2 i1 i2 =>
    intro c hc1 hc2
    have l1 := h1.le
    have l2 := h2.le
    have r1 := h1.root
    have r2 := h2.root
    by_cases c1 : c < m
    · by_cases c2 : c = b + 1
      · exact ⟨b, Nat.le_refl _, by omega, .inl (by omega)⟩
      · obtain ⟨p, p1, p2, p3⟩ := i1 c (by omega) c1
        exact ⟨p, by omega, p2, p3⟩
    · by_cases c2 : c = m
      · exact ⟨b, Nat.le_refl _, by omega, .inr (by omega)⟩
      · obtain ⟨p, p1, p2, p3⟩ := i2 c (by omega) hc2
        exact ⟨p, by omega, p2, p3⟩
theorem KD.single {i : Int} {b e : Nat} (h : KD P J Q i b e) : ∀ p q c, b ≤ p → p < e → b ≤ q → q < e → Pa Q p c → Pa Q q c → p = q := by
  induction h with
  | nil b => intro p q c h1 h2; omega
  | node b m e hb h1 h2 ha hp o1 o2 i1 i2 =>
    intro p q c hp1 hp2 hq1 hq2 hp hq
    have l1 := h1.le
    have l2 := h2.le
    have r1 := h1.root
    have r2 := h2.root
    have loc : ∀ p, b ≤ p → p < e → Pa Q p c → (p = b ∧ (c = b + 1 ∧ b + 1 < m ∨ c = m ∧ m < e)) ∨ ((b + 1 ≤ p ∧ p < m) ∧ b + 1 < c ∧ c < m) ∨ ((m ≤ p ∧ p < e) ∧ m < c ∧ c < e) := fun p hp1 hp2 hp => by
      unfold Pa at hp
      by_cases c1 : p = b
      · subst c1; exact .inl ⟨rfl, by omega⟩
      · by_cases c2 : p < m
        · have := h1.child p (by omega) c2
          exact .inr (.inl ⟨⟨by omega, c2⟩, by omega⟩)
        · have := h2.child p (by omega) hp2
          exact .inr (.inr ⟨⟨by omega, hp2⟩, by omega⟩)
    rcases loc p hp1 hp2 hp with ⟨a1, a2⟩ | ⟨a1, a2⟩ | ⟨a1, a2⟩ <;> rcases loc q hq1 hq2 hq with ⟨b1, b2⟩ | ⟨b1, b2⟩ | ⟨b1, b2⟩ <;> first | omega | exact i1 p q c a1.1 a1.2 b1.1 b1.2 hp hq | exact i2 p q c a1.1 a1.2 b1.1 b1.2 hp hq
theorem KD.lowHigh {i : Int} {b e : Nat} (h : KD P J Q i b e) : ∀ p, b ≤ p → p < e → (nd Q p).Low = (nd Q p).High → (nd Q p).Low = -1 := by
  induction h with
  | nil b => intro p h1 h2; omega
  | node b m e hb h1 h2 ha hp o1 o2 i1 i2 =>
    intro p hp1 hp2 he
    have l1 := h1.le
    have r1 := h1.root
    have r2 := h2.root
    by_cases c : p = b
    · subst c; omega
    · by_cases c2 : p < m
      · exact i1 p (by omega) c2 he
      · exact i2 p (by omega) hp2 he
theorem KD.sub {i : Int} {b e : Nat} (h : KD P J Q i b e) : ∀ p, b ≤ p → p < e → ∃ e', KD P J Q (p : Int) p e' ∧ e' ≤ e := by
  induction h with
  | nil b => intro p h1 h2; omega
  | node b m e hb h1 h2 ha hp o1 o2 i1 i2 =>
    intro p hp1 hp2
    have l2 := h2.le
    by_cases c : p = b
    · subst c; exact ⟨e, .node p m e hb h1 h2 ha hp o1 o2, Nat.le_refl _⟩
    · by_cases c2 : p < m
      · obtain ⟨e', k1, k2⟩ := i1 p (by omega) c2
        exact ⟨e', k1, by omega⟩
      · exact i2 p (by omega) hp2
theorem KD.data {i : Int} {b e : Nat} (h : KD P J Q i b e) : ∀ p, b ≤ p → p < e → p < Q.length ∧ (0 ≤ (nd Q p).Axis ∧ (nd Q p).Axis < (J : Int)) ∧ InP P (nd Q p).Point := by
  induction h with
  | nil b => intro p h1 h2; omega
  | node b m e hb h1 h2 ha hp o1 o2 i1 i2 =>
    intro p hp1 hp2
    by_cases c : p = b
    · subst c; exact ⟨hb, ha, hp⟩
    · by_cases c2 : p < m
      · exact i1 p (by omega) c2
      · exact i2 p (by omega) hp2
theorem KD.inv {b e : Nat} (h : KD P J Q (b : Int) b e) : ∃ m, KD P J Q (nd Q b).Low (b + 1) m ∧ KD P J Q (nd Q b).High m e ∧ (∀ j, b + 1 ≤ j → j < m → ltK P (nd Q b).Axis (nd Q j).Point (nd Q b).Point = true) ∧ ∀ j, m ≤ j → j < e → ltK P (nd Q b).Axis (nd Q b).Point (nd Q j).Point = true := by
  generalize hi : (b : Int) = i at h
  cases h with
  | nil b => omega
  | node b m e hb h1 h2 ha hp o1 o2 => exact ⟨m, h1, h2, o1, o2⟩
theorem KD.det {i : Int} {b e : Nat} (h : KD P J Q i b e) : ∀ e', KD P J Q i b e' → e = e' := by
  induction h with
  | nil b =>
    intro e' h
    have := h.root; omega
  | node b m e hb h1 h2 ha hp o1 o2 i1 i2 =>
    intro e' h
    obtain ⟨m', k1, k2, -, -⟩ := h.inv
    have := i1 m' k1
    subst this
    exact i2 e' k2
end
open Go.Proofs
section
variable {P : List (List Int)} {J : Nat} {Q : List S_KdNode}
def P2 (Q : List S_KdNode) (j t p c : Nat) : Prop := (p < j ∧ Pa Q p c) ∨ (p = j ∧ ((1 ≤ t ∧ (nd Q j).Low = (c : Int)) ∨ (2 ≤ t ∧ (nd Q j).High = (c : Int))))
def AbAt (Q : List S_KdNode) (j t c : Nat) (v : Int) : Prop := (v = -1 ∧ ∀ p, ¬ P2 Q j t p c) ∨ ∃ p, P2 Q j t p c ∧ v = (p : Int)
theorem AbAt.congr {j t j' t' c : Nat} {v : Int} (h : AbAt Q j t c v) (hp : ∀ p, P2 Q j t p c ↔ P2 Q j' t' p c) : AbAt Q j' t' c v := by
  rcases h with ⟨h1, h2⟩ | ⟨p, h1, h2⟩
  · exact .inl ⟨h1, fun p hp' => h2 p ((hp p).2 hp')⟩
  · exact .inr ⟨p, (hp p).1 h1, h2⟩
structure KDw (P : List (List Int)) (J : Nat) (Q : List S_KdNode) : Prop where
  len : Q.length = P.length
  kd : ∃ i, KD P J Q i 0 P.length
  inj : ∀ p q, p < P.length → q < P.length → (nd Q p).Point = (nd Q q).Point → p = q
theorem parents_e (hP : PtsOk P J) (h : KDw P J Q) : ∃ A, (neighbor_parents_C P Q).o = some (A, true) ∧ A.length = P.length ∧ ∀ c, c < P.length → (c = 0 ∧ A.getD c default = -1) ∨ ∃ p, p < c ∧ Pa Q p c ∧ A.getD c default = (p : Int) := by
  obtain ⟨hl, ⟨i0, hk⟩, hinj⟩ := h
  have hn := hP.1
  have kch := hk.child
  have kpa := hk.parent
  have ksi := hk.single
  have klh := hk.lowHigh
  have kda := hk.data
  suffices hs : ∃ r, (neighbor_parents_C P Q).o = some r ∧ (r.2 = true ∧ r.1.length = P.length ∧ ∀ c, c < P.length → AbAt Q P.length 0 c (r.1.getD c default)) by
    obtain ⟨⟨A, b⟩, h1, h2, h3, h4⟩ := hs
    simp only at h2 h3 h4
    subst h2
    refine ⟨A, h1, h3, fun c hc => ?_⟩
    rcases h4 c hc with ⟨k1, k2⟩ | ⟨p, k1, k2⟩
    · by_cases c0 : c = 0
      · exact .inl ⟨c0, k1⟩
      · obtain ⟨p, p1, p2, p3⟩ := kpa c (by omega) hc
        exact absurd (.inl ⟨by omega, p3⟩) (k2 p)
    · rcases k1 with ⟨q1, q2⟩ | ⟨rfl, q⟩
      · have := kch p (by omega) q1
        unfold Pa at q2
        exact .inr ⟨p, by omega, q2, k2⟩
      · omega
  show ∃ r, (neighbor_parents_T P Q).run NN = some r ∧ _
  simp only [neighbor_parents_T, T.run, Int.toNat_natCast, List.length_replicate]
  rw [grd_p (by omega), hl]
  refine loop_mf (P := fun r : List Int × Bool => r.2 = true ∧ r.1.length = P.length ∧ ∀ c, c < P.length → AbAt Q P.length 0 c (r.1.getD c default)) (fun m (y : List Int × Int) => ∃ j : Nat, y.2 = (j : Int) ∧ j + m = P.length ∧ y.1.length = P.length ∧ ∀ t, t < j → y.1.getD t default = -1)
    (fun z : List Int => z.length = P.length ∧ ∀ t, t < P.length → z.getD t default = -1) P.length ⟨0, rfl, by omega, by simp, fun t ht => by omega⟩ (by omega) ?_ ?_
  · rintro m ⟨z, y⟩ ⟨j, hj, hjm, hz, ht⟩
    simp only at hj hz ht ⊢
    subst hj
    cases m with
    | zero =>
      rw [bif_dneg (by omega)]
      exact .inr (.inl ⟨_, rfl, hz, fun t h => ht t (by omega)⟩)
    | succ m =>
      rw [bif_dpos (by omega), grd_p (by omega), Int.toNat_natCast, grd_p (by omega), wn (by omega)]
      refine .inl ⟨_, m, rfl, Nat.lt_succ_self m, j + 1, rfl, by omega, by simp only [List.length_set]; exact hz, fun t h => ?_⟩
      simp only
      rw [getD_set (by omega)]
      split
      · rfl
      · exact ht t (by omega)
  · rintro A0 ⟨hA0, hA1⟩
    rw [grd_p (by omega)]
    refine loop_mf (P := fun r : List Int × Bool => r.2 = true ∧ r.1.length = P.length ∧ ∀ c, c < P.length → AbAt Q P.length 0 c (r.1.getD c default))
      (fun m (y : List Int × List Bool × Int) => ∃ j : Nat, y.2.2 = (j : Int) ∧ j + m = P.length ∧ y.1.length = P.length ∧ y.2.1.length = P.length ∧ (∀ c, c < P.length → AbAt Q j 0 c (y.1.getD c default)) ∧ ∀ x, x < P.length → y.2.1.getD x default = true → ∃ t, t < j ∧ (nd Q t).Point = (x : Int))
      (fun z : List Int => z.length = P.length ∧ ∀ c, c < P.length → AbAt Q P.length 0 c (z.getD c default)) P.length
      ⟨0, rfl, by omega, hA0, by simp, fun c hc => .inl ⟨hA1 c hc, fun p hp => by unfold P2 at hp; omega⟩, fun x hx hu => by simp [List.getD_eq_getElem?_getD, hx] at hu⟩ (by omega) ?_ (fun z hz => ⟨_, rfl, rfl, hz⟩)
    rintro m ⟨A, U, y⟩ ⟨j, hj, hjm, hA, hU, hAb, hUs⟩
    simp only at hj hA hU hAb hUs ⊢
    subst hj
    cases m with
    | zero =>
      obtain rfl : j = P.length := by omega
      rw [bif_dneg (by omega)]
      exact .inr (.inl ⟨_, rfl, hA, hAb⟩)
    | succ m =>
      have hjn : j < P.length := by omega
      obtain ⟨-, hax, hpt⟩ := kda j (by omega) hjn
      have hch := kch j (by omega) hjn
      have hpl := (hP.2.2 _ (getD_mem (show 0 < P.length by omega))).1
      have z0 : (0 : Int).toNat = 0 := rfl
      have hnd : Q.getD j default = nd Q j := rfl
      have hu0 : U.getD (nd Q j).Point.toNat default = false := by
        cases hu : U.getD (nd Q j).Point.toNat default with
        | false => rfl
        | true =>
          unfold InP at hpt
          obtain ⟨t, t1, t2⟩ := hUs _ (by omega) hu
          have := hinj t j (by omega) hjn (by omega)
          omega
      simp only [Int.toNat_natCast, hnd, z0, hpl]
      have hpt' := hpt
      unfold InP at hpt'
      rw [bif_dpos (by omega), grd_p (by omega), bif_dneg (by omega), bif_dneg (by omega), grd_p (by omega), grd_p (by omega), hu0, andC_out]
      simp only [cond_false]
      rw [grd_p (by omega), grd_p (by omega), bif_dneg (by omega), grd_p (by omega), decide_eq_false (p := (nd Q j).Axis ≥ (J : Int)) (by omega), andC_out]
      simp only [cond_false]
      suffices hi : ∃ s, _ = some s ∧ (∃ A' : List Int, s = Step3.next (A', U.set (nd Q j).Point.toNat true, ((j + 1 : Nat) : Int)) ∧ A'.length = P.length ∧ ∀ c, c < P.length → AbAt Q (j + 1) 0 c (A'.getD c default)) by
        obtain ⟨s, e, A', rfl, k1, k2⟩ := hi
        refine .inl ⟨_, m, e, Nat.lt_succ_self m, j + 1, rfl, by omega, k1, by simp only [List.length_set]; exact hU, k2, fun x hx hu => ?_⟩
        simp only at hu
        rw [getD_set (by omega)] at hu
        split at hu
        · exact ⟨j, by omega, by omega⟩
        · obtain ⟨t, t1, t2⟩ := hUs x hx hu
          exact ⟨t, by omega, t2⟩
      have e2 : (([(nd Q j).Low, (nd Q j).High] : List Int).length : Int) = 2 := rfl
      simp only [e2]
      refine loop_mf (fun m (y : List Int × Int) => ∃ t : Nat, y.2 = (t : Int) ∧ t + m = 2 ∧ y.1.length = P.length ∧ ∀ c, c < P.length → AbAt Q j t c (y.1.getD c default)) (fun z : List Int => z.length = P.length ∧ ∀ c, c < P.length → AbAt Q j 2 c (z.getD c default)) 2 ⟨0, rfl, by omega, hA, hAb⟩ (by omega) ?_ ?_
      · rintro m ⟨A1, y⟩ ⟨t, ht, htm, hA1, hAb1⟩
        simp only at ht hA1 hAb1 ⊢
        subst ht
        cases m with
        | zero =>
          obtain rfl : t = 2 := by omega
          rw [bif_dneg (by omega)]
          exact .inr (.inl ⟨_, rfl, hA1, hAb1⟩)
        | succ m =>
          obtain ⟨z, hz⟩ : ∃ z, z = ([(nd Q j).Low, (nd Q j).High] : List Int).getD t default := ⟨_, rfl⟩
          have hzc : (t = 0 ∧ z = (nd Q j).Low) ∨ (t = 1 ∧ z = (nd Q j).High) := by
            have : t = 0 ∨ t = 1 := by omega
            rcases this with rfl | rfl
            · exact .inl ⟨rfl, hz⟩
            · exact .inr ⟨rfl, hz⟩
          simp only [Int.toNat_natCast, ← hz]
          rw [bif_dpos (by omega), grd_p (by omega), grd_p (by simp only [List.length_cons, List.length_nil]; omega), wn (by omega)]
          by_cases hz1 : z = -1
          · rw [bif_eq hz1, andC_out]
            refine .inl ⟨_, m, rfl, Nat.lt_succ_self m, t + 1, rfl, by omega, hA1, fun c hc => (hAb1 c hc).congr fun p => ?_⟩
            unfold P2
            constructor
            · rintro (h | ⟨h1, h2⟩)
              · exact .inl h
              · exact .inr ⟨h1, by omega⟩
            · rintro (h | ⟨h1, h2⟩)
              · exact .inl h
              · exact .inr ⟨h1, by omega⟩
          · have hzr : (j : Int) < z ∧ z < (P.length : Int) := by omega
            obtain ⟨c, hc⟩ : ∃ c : Nat, z = (c : Int) := ⟨z.toNat, by omega⟩
            have hpc : Pa Q j c := by unfold Pa; omega
            have hlh := klh j (by omega) hjn
            have hno : ∀ p, ¬ P2 Q j t p c := fun p hp => by
              rcases hp with ⟨p1, p2⟩ | ⟨p1, p2⟩
              · have := ksi p j c (by omega) (by omega) (by omega) hjn p2 hpc
                omega
              · have : (nd Q j).Low = (nd Q j).High := by omega
                have := hlh this
                omega
            have hac : A1.getD c default = -1 := by
              rcases hAb1 c (by omega) with ⟨k1, -⟩ | ⟨p, k1, -⟩
              · exact k1
              · exact absurd k1 (hno p)
            rw [bif_ne hz1, bif_dneg (by omega), bif_dneg (by omega), grd_p (by omega), hc, Int.toNat_natCast, grd_p (by omega), hac, andC_out]
            have hb : ((-1 : Int) != -1) = false := rfl
            rw [hb]
            simp only [cond_false]
            rw [grd_p (by omega), grd_p (by omega), andC_out]
            refine .inl ⟨_, m, rfl, Nat.lt_succ_self m, t + 1, rfl, by omega, by simp only [List.length_set]; exact hA1, fun d hd => ?_⟩
            simp only
            rw [getD_set (by omega)]
            by_cases hcd : c = d
            · subst hcd
              rw [if_pos rfl]
              exact .inr ⟨j, .inr ⟨rfl, by omega⟩, rfl⟩
            · rw [if_neg hcd]
              refine (hAb1 d hd).congr fun p => ?_
              unfold P2
              constructor
              · rintro (h | ⟨h1, h2⟩)
                · exact .inl h
                · exact .inr ⟨h1, by omega⟩
              · rintro (h | ⟨h1, h2⟩)
                · exact .inl h
                · exact .inr ⟨h1, by omega⟩
      · rintro A2 ⟨hA2, hAb2⟩
        have hAb3 : ∀ c, c < P.length → AbAt Q (j + 1) 0 c (A2.getD c default) := fun c hc => (hAb2 c hc).congr fun p => by
          unfold P2 Pa
          constructor
          · rintro (⟨h1, h2⟩ | ⟨rfl, h2⟩)
            · exact .inl ⟨by omega, h2⟩
            · exact .inl ⟨by omega, by omega⟩
          · rintro (⟨h1, h2⟩ | ⟨h1, h2⟩)
            · by_cases e : p = j
              · subst e; exact .inr ⟨rfl, by omega⟩
              · exact .inl ⟨by omega, h2⟩
            · omega
        by_cases h0 : 0 < j
        · have hne : A2.getD j default ≠ -1 := by
            obtain ⟨p, p1, p2, p3⟩ := kpa j h0 hjn
            rcases hAb3 j hjn with ⟨k1, k2⟩ | ⟨p', k1, k2⟩
            · exact absurd (.inl ⟨by omega, p3⟩) (k2 p)
            · omega
          have hb : (A2.getD j default == -1) = false := by simpa using hne
          rw [bif_dpos (by omega), grd_p (by omega), grd_p (by omega), hb, andC_out]
          simp only [cond_false]
          rw [wn (by omega)]
          exact ⟨_, rfl, A2, rfl, hA2, hAb3⟩
        · rw [bif_dneg (by omega), andC_out]
          simp only [cond_false]
          rw [wn (by omega)]
          exact ⟨_, rfl, A2, rfl, hA2, hAb3⟩
theorem ordered_kd (hP : PtsOk P J) (h : KDw P J Q) {A : List Int} (hA : A.length = P.length) (hpa : ∀ c, c < P.length → (c = 0 ∧ A.getD c default = -1) ∨ ∃ p, p < c ∧ Pa Q p c ∧ A.getD c default = (p : Int)) : (neighbor_ordered_C P Q A).o = some true := by
  obtain ⟨hl, ⟨i0, hk⟩, hinj⟩ := h
  have hn := hP.1
  have ksu := hk.sub
  have kda := hk.data
  show (neighbor_ordered_T P Q A).run NN = _
  simp only [neighbor_ordered_T, T.run]
  rw [hl]
  refine (scanI (fun _ => none) P.length (by omega) (fun j hj => ?_) (by rw [bif_dneg (by omega)])).trans ?_
  · rw [bif_dpos (by omega), grd_p (by omega), grd_p (by omega), Int.toNat_natCast, wn (by omega)]
    obtain ⟨-, -, hptj⟩ := kda j (by omega) hj
    have hnd : ∀ x, Q.getD x default = nd Q x := fun _ => rfl
    obtain ⟨ej, kj, -⟩ := ksu j (by omega) hj
    have key : andK (iter (fun x : Int × Int => bif x.2 != -1 then grd (0 ≤ x.2 ∧ x.2 < (P.length : Int)) (grd (0 ≤ x.2 ∧ x.2 < (P.length : Int)) ((neighbor_order_C P (Q.getD x.2.toNat default).Axis (Q.getD j default).Point (Q.getD x.2.toNat default).Point).o.bind fun y => grd (0 ≤ x.2 ∧ x.2 < (P.length : Int)) (bif !(decide (y < 0) == (x.1 == (Q.getD x.2.toNat default).Low)) then some (Step3.fin (Step3.fin false)) else grd (0 ≤ x.2 ∧ x.2 < (A.length : Int)) (some (Step3.next (x.2, A.getD x.2.toNat default)))))) else some (Step3.out U0.u)) NN ((j : Int), A.getD j default)) (fun _ => some (Step3.next ((j + 1 : Nat) : Int))) = (some (Step3.next ((j + 1 : Nat) : Int)) : Option (Step3 Int U0 Bool)) := by
      refine loop_o U0.u (fun m (y : Int × Int) => ∃ c e : Nat, y.1 = (c : Int) ∧ y.2 = A.getD c default ∧ c ≤ m ∧ c < P.length ∧ KD P J Q (c : Int) c e ∧ c ≤ j ∧ j < e) j ⟨j, ej, rfl, rfl, Nat.le_refl _, hj, kj, Nat.le_refl _, by have := kj.root; omega⟩ (by omega) ?_
      rintro m ⟨y1, y2⟩ ⟨c, e, hy1, hy2, hcm, hcn, kc, hcj, hje⟩
      simp only at hy1 hy2 ⊢
      subst hy1; subst hy2
      rcases hpa c hcn with ⟨-, h2⟩ | ⟨p, p1, p2, p3⟩
      · rw [h2, bif_nne rfl]; exact .inr rfl
      · obtain ⟨-, hax, hptp⟩ := kda p (by omega) (by omega)
        obtain ⟨ep, kp, -⟩ := ksu p (by omega) (by omega)
        obtain ⟨z, z1, z2⟩ := order_e hP hax hptj hptp
        obtain ⟨mm, k1, k2, o1, o2⟩ := kp.inv
        have r1 := k1.root
        have r2 := k2.root
        have l1 := k1.le
        have l2 := k2.le
        rw [p3, bif_neq (by omega), grd_p (by omega), grd_p (by omega), Int.toNat_natCast, hnd, hnd, z1]
        simp only [Option.bind_some]
        rw [grd_p (by omega), z2]
        have hsame : (!(ltK P (nd Q p).Axis (nd Q j).Point (nd Q p).Point == ((c : Int) == (nd Q p).Low))) = false ∧ j < ep := by
          unfold Pa at p2
          by_cases hlow : (nd Q p).Low = (c : Int)
          · have hcp : c = p + 1 := by omega
            have : KD P J Q (c : Int) c mm := by rw [← hlow, hcp]; exact k1
            have := kc.det mm this
            have ho := o1 j (by omega) (by omega)
            rw [ho, hlow]
            exact ⟨by simp, by omega⟩
          · have hhigh : (nd Q p).High = (c : Int) := by omega
            have hcm : c = mm := by omega
            have : KD P J Q (c : Int) c ep := by rw [← hhigh, hcm]; exact k2
            have := kc.det ep this
            have ho := o2 j (by omega) (by omega)
            have hf : ltK P (nd Q p).Axis (nd Q j).Point (nd Q p).Point = false := by
              rw [ltK_iff] at ho; rw [ltK_not]; omega
            have hb : ((c : Int) == (nd Q p).Low) = false := by
              simp only [beq_eq_false_iff_ne, ne_eq]; omega
            rw [hf, hb]
            exact ⟨rfl, by omega⟩
        rw [hsame.1]
        simp only [cond_false]
        rw [grd_p (by omega)]
        exact .inl ⟨_, p, rfl, by omega, p, ep, rfl, rfl, Nat.le_refl _, by omega, kp, by omega, hsame.2⟩
    exact key
  · rw [(scan_none _ _).2 (fun _ _ _ => rfl)]
theorem valid_kd (hP : PtsOk P J) (h : KDw P J Q) : (neighbor_Valid_C P Q).o = some true := by
  obtain ⟨A, h1, h2, h3⟩ := parents_e hP h
  show (neighbor_Valid_T P Q).run NN = _
  simp only [neighbor_Valid_T, T.run, validPts_e hP, h1, Option.bind_some, Bool.not_true, cond_false]
  have hb : ((Q.length : Int) != (P.length : Int)) = false := by simp [h.len]
  rw [hb, andC_out]
  simp only [cond_false, cond_true]
  rw [ordered_kd hP h h2 h3]; rfl
end
open Go.Proofs
def dv (ds : List Int) (x : Int) : Int := ds.getD x.toNat default
def gtD (ds : List Int) (x y : Int) : Bool := decide (dv ds x > dv ds y ∨ (dv ds x = dv ds y ∧ x > y))
theorem gtD_iff {ds : List Int} {x y : Int} : gtD ds x y = true ↔ dv ds x > dv ds y ∨ (dv ds x = dv ds y ∧ x > y) := by unfold gtD; rw [decide_eq_true_eq]
def Wo (ds : List Int) (x y : Int) : Prop := dv ds x > dv ds y ∨ (dv ds x = dv ds y ∧ x > y)
def InD (ds h : List Int) : Prop := ∀ x ∈ h, 0 ≤ x ∧ x < (ds.length : Int)
abbrev gd (h : List Int) (i : Nat) : Int := h.getD i default
def sw2 (h : List Int) (i j : Nat) : List Int := (h.set i (gd h j)).set j (gd h i)
theorem sw2_len (h : List Int) (i j : Nat) : (sw2 h i j).length = h.length := by simp [sw2]
theorem sw2_get {h : List Int} {i j : Nat} (hi : i < h.length) (hj : j < h.length) (k : Nat) : gd (sw2 h i j) k = if j = k then gd h i else if i = k then gd h j else gd h k := by
  unfold sw2 gd
  rw [getD_set (by rw [List.length_set]; exact hj), getD_set hi]
theorem sw2_perm {h : List Int} {i j : Nat} (hi : i < h.length) (hj : j < h.length) : (sw2 h i j).Perm h := by
  have := Go.Sort.perm_set_set h i j hi hj
  unfold sw2 gd
  simpa only [List.getD_eq_getElem?_getD, List.getElem?_eq_getElem hi, List.getElem?_eq_getElem hj, Option.getD_some] using this
theorem InD.perm {ds h h' : List Int} (hd : InD ds h) (hp : h'.Perm h) : InD ds h' := fun x hx => hd x (hp.mem_iff.1 hx)
theorem less_e {ds h : List Int} (hd : InD ds h) {i j : Nat} (hi : i < h.length) (hj : j < h.length) : (pointHeap_Less_C h ds (i : Int) (j : Int)).o = some (gtD ds (gd h i) (gd h j), h, ds) := by
  have h1 := hd _ (getD_mem hi)
  have h2 := hd _ (getD_mem hj)
  show (pointHeap_Less_T h ds (i : Int) (j : Int)).run NN = _
  simp only [pointHeap_Less_T, T.run, Int.toNat_natCast]
  have hc : ∀ a b : Int, 0 ≤ a ∧ a < (ds.length : Int) → 0 ≤ b ∧ b < (ds.length : Int) → (neighbor_Nearest_2_C a b ds).o = some (gtD ds a b, ds) := fun a b ha hb => by
    show (neighbor_Nearest_2_T a b ds).run NN = _
    simp only [neighbor_Nearest_2_T, T.run]
    have hI : (cmp_Compare_int_C a b).o = some (cmpI' a b) := cmpI a b
    rw [grd_p (by omega), grd_p (by omega), grd_p (by omega), grd_p (by omega), cmpI64, hI]
    simp only [Option.bind_some]
    rw [cmpOr2]
    simp only [Option.bind_some]
    congr 2
    rw [Bool.eq_iff_iff, decide_eq_true_eq, gtD_iff]
    unfold cmpI' dv
    generalize ds.getD a.toNat default = x
    generalize ds.getD b.toNat default = y
    split <;> split <;> (try split) <;> omega
  rw [grd_p (by omega), grd_p (by omega), grd_p (by omega), grd_p (by omega), hc _ _ h1 h2]
  rfl
theorem swap_e {ds h : List Int} {i j : Nat} (hi : i < h.length) (hj : j < h.length) : (pointHeap_Swap_C h ds (i : Int) (j : Int)).o = some (sw2 h i j, ds) := by
  show (pointHeap_Swap_T h ds (i : Int) (j : Int)).run NN = _
  simp only [pointHeap_Swap_T, T.run, Int.toNat_natCast]
  rw [grd_p (by omega), grd_p (by omega), grd_p (by omega), grd_p (by omega), grd_p (by omega), grd_p (by omega), grd_p (by rw [List.length_set]; omega), grd_p (by rw [List.length_set]; omega)]; rfl
theorem len_e (h ds : List Int) : (pointHeap_Len_C h ds).o = some ((h.length : Int), h, ds) := rfl
def HP (ds h : List Int) (n : Nat) : Prop := ∀ k, 0 < k → k < n → ¬ Wo ds (gd h k) (gd h ((k - 1) / 2))
theorem up_x {ds h : List Int} (hd : InD ds h) (hl : h.length ≤ 100000) {j : Nat} (hj : j < h.length) (h1 : ∀ k, 0 < k → k < h.length → k ≠ j → ¬ Wo ds (gd h k) (gd h ((k - 1) / 2)))
    (h2 : ∀ k, 0 < k → k < h.length → (k - 1) / 2 = j → 0 < j → ¬ Wo ds (gd h k) (gd h ((j - 1) / 2))) : ∃ h', (container_heap_up_C h ds (j : Int)).o = some (h', ds) ∧ h'.Perm h ∧ HP ds h' h.length := by
  suffices hs : ∃ r, (container_heap_up_C h ds (j : Int)).o = some r ∧ (r.2 = ds ∧ r.1.Perm h ∧ HP ds r.1 h.length) by
    obtain ⟨⟨h', d'⟩, q1, q2, q3⟩ := hs
    simp only at q2 q3
    subst q2
    exact ⟨h', q1, q3⟩
  show ∃ r, (container_heap_up_T h ds (j : Int)).run NN = some r ∧ _
  simp only [container_heap_up_T, T.run]
  refine loop_mf (P := fun r : List Int × List Int => r.2 = ds ∧ r.1.Perm h ∧ HP ds r.1 h.length) (x := (h, ds, (j : Int)))
    (fun m (y : List Int × List Int × Int) => ∃ j : Nat, y.2.1 = ds ∧ y.2.2 = (j : Int) ∧ j ≤ m ∧ j < h.length ∧ y.1.Perm h ∧ (∀ k, 0 < k → k < h.length → k ≠ j → ¬ Wo ds (gd y.1 k) (gd y.1 ((k - 1) / 2))) ∧ ∀ k, 0 < k → k < h.length → (k - 1) / 2 = j → 0 < j → ¬ Wo ds (gd y.1 k) (gd y.1 ((j - 1) / 2)))
    (fun z : List Int × List Int => z.2 = ds ∧ z.1.Perm h ∧ HP ds z.1 h.length) j ⟨j, rfl, rfl, Nat.le_refl _, hj, List.Perm.refl _, h1, h2⟩ (by omega) ?_ (fun z hz => ⟨_, rfl, hz⟩)
  rintro m ⟨g, d', y⟩ ⟨j, hd', hy, hjm, hjl, hp, g1, g2⟩
  simp only at hd' hy hp g1 g2 ⊢
  rw [hd']; subst hy
  have hgl := hp.length_eq
  have hdg := hd.perm hp
  by_cases hj0 : j = 0
  · subst hj0
    have e1 : IntKind.i64.wrap ((IntKind.i64.wrap (((0 : Nat) : Int) - 1)).tdiv 2) = ((0 : Nat) : Int) := by decide
    rw [e1, bif_eq rfl, andC_out]
    exact .inr (.inl ⟨_, rfl, rfl, hp, fun k hk1 hk2 => g1 k hk1 hk2 (by omega)⟩)
  · have e1 : IntKind.i64.wrap ((IntKind.i64.wrap ((j : Int) - 1)).tdiv 2) = (((j - 1) / 2 : Nat) : Int) := by
      rw [wpred (by omega) (by omega), Int.tdiv_eq_ediv_of_nonneg (by omega), w64 (by omega) (by omega)]; omega
    rw [e1, bif_ne (by omega), less_e hdg (by omega) (by omega)]
    simp only [Option.bind_some, andC_out]
    cases hlt : gtD ds (gd g j) (gd g ((j - 1) / 2)) with
    | false =>
      simp only [Bool.not_false, cond_true]
      refine .inr (.inl ⟨_, rfl, rfl, hp, fun k hk1 hk2 => ?_⟩)
      by_cases hkj : k = j
      · subst hkj
        intro hw
        rw [gtD_iff.2 hw] at hlt; cases hlt
      · exact g1 k hk1 hk2 hkj
    | true =>
      have hw := gtD_iff.1 hlt
      simp only [Bool.not_true, cond_false]
      rw [swap_e (by omega) (by omega)]
      simp only [Option.bind_some]
      have gg := fun k => sw2_get (h := g) (i := (j - 1) / 2) (j := j) (by omega) (by omega) k
      refine .inl ⟨_, (j - 1) / 2, rfl, by omega, (j - 1) / 2, rfl, rfl, Nat.le_refl _, by omega, (sw2_perm (by omega) (by omega)).trans hp, fun k hk1 hk2 hk3 => ?_, fun k hk1 hk2 hk3 hk4 => ?_⟩
      · simp only
        rw [gg, gg]
        by_cases c1 : j = k
        · subst c1
          rw [if_pos rfl, if_neg (by omega), if_pos rfl]
          unfold Wo at *; omega
        · rw [if_neg c1, if_neg (Ne.symm hk3)]
          have hk := g1 k hk1 hk2 (Ne.symm c1)
          by_cases c2 : j = (k - 1) / 2
          · rw [if_pos c2]
            exact g2 k hk1 hk2 c2.symm (by omega)
          · rw [if_neg c2]
            by_cases c3 : (j - 1) / 2 = (k - 1) / 2
            · rw [if_pos c3]
              rw [← c3] at hk
              unfold Wo at *; omega
            · rw [if_neg c3]; exact hk
      · simp only
        rw [gg, gg, if_neg (show ¬ j = ((j - 1) / 2 - 1) / 2 by omega), if_neg (show ¬ (j - 1) / 2 = ((j - 1) / 2 - 1) / 2 by omega)]
        have hq := g1 ((j - 1) / 2) hk4 (by omega) (by omega)
        by_cases c1 : j = k
        · rw [if_pos c1]; exact hq
        · rw [if_neg c1, if_neg (by omega)]
          have hk := g1 k hk1 hk2 (Ne.symm c1)
          rw [hk3] at hk
          unfold Wo at *; omega
theorem down_x {ds h : List Int} (hd : InD ds h) (hl : h.length ≤ 100000) {n : Nat} (hn : n ≤ h.length) (h1 : ∀ k, 0 < k → k < n → (k - 1) / 2 ≠ 0 → ¬ Wo ds (gd h k) (gd h ((k - 1) / 2))) :
    ∃ b h', (container_heap_down_C h ds 0 (n : Int)).o = some (b, h', ds) ∧ h'.Perm h ∧ (∀ k, n ≤ k → gd h' k = gd h k) ∧ HP ds h' n := by
  suffices hs : ∃ r, (container_heap_down_C h ds 0 (n : Int)).o = some r ∧ (r.2.2 = ds ∧ r.2.1.Perm h ∧ (∀ k, n ≤ k → gd r.2.1 k = gd h k) ∧ HP ds r.2.1 n) by
    obtain ⟨⟨b, h', d'⟩, q1, q2, q3⟩ := hs
    simp only at q2 q3
    subst q2
    exact ⟨b, h', q1, q3⟩
  show ∃ r, (container_heap_down_T h ds 0 (n : Int)).run NN = some r ∧ _
  simp only [container_heap_down_T, T.run]
  refine loop_mf (P := fun r : Bool × List Int × List Int => r.2.2 = ds ∧ r.2.1.Perm h ∧ (∀ k, n ≤ k → gd r.2.1 k = gd h k) ∧ HP ds r.2.1 n) (x := (h, ds, (0 : Int)))
    (fun m (y : List Int × List Int × Int) => ∃ i : Nat, y.2.1 = ds ∧ y.2.2 = (i : Int) ∧ n ≤ i + m ∧ i ≤ 200000 ∧ y.1.Perm h ∧ (∀ k, n ≤ k → gd y.1 k = gd h k) ∧ (∀ k, 0 < k → k < n → (k - 1) / 2 ≠ i → ¬ Wo ds (gd y.1 k) (gd y.1 ((k - 1) / 2))) ∧ ∀ k, 0 < k → k < n → (k - 1) / 2 = i → 0 < i → ¬ Wo ds (gd y.1 k) (gd y.1 ((i - 1) / 2)))
    (fun z : List Int × List Int × Int => z.2.1 = ds ∧ z.1.Perm h ∧ (∀ k, n ≤ k → gd z.1 k = gd h k) ∧ HP ds z.1 n) n ⟨0, rfl, rfl, by omega, by omega, List.Perm.refl _, fun _ _ => rfl, h1, fun k _ _ _ h => by omega⟩ (by omega) ?_ (fun z hz => ⟨_, rfl, hz⟩)
  rintro m ⟨g, d', y⟩ ⟨i, hd', hy, him, hi2, hp, hk, g1, g2⟩
  simp only at hd' hy hp hk g1 g2 ⊢
  rw [hd']; subst hy
  have hgl := hp.length_eq
  have hdg := hd.perm hp
  have e1 : IntKind.i64.wrap (2 * (i : Int)) = ((2 * i : Nat) : Int) := by rw [w64 (by omega) (by omega)]; omega
  have e2 : IntKind.i64.wrap (((2 * i : Nat) : Int) + 1) = ((2 * i + 1 : Nat) : Int) := wn (by omega)
  have e3 : IntKind.i64.wrap (((2 * i + 1 : Nat) : Int) + 1) = ((2 * i + 2 : Nat) : Int) := wn (by omega)
  simp only [e1, e2, e3]
  by_cases hin : 2 * i + 1 ≥ n
  · rw [bif_dpos (by omega), andC_out]
    exact .inr (.inl ⟨_, rfl, rfl, hp, hk, fun k hk1 hk2 => g1 k hk1 hk2 (by omega)⟩)
  · rw [bif_dneg (by omega), decide_eq_false (by omega), andC_out]
    simp only [cond_false]
    obtain ⟨c, hc1, hc2, hA, hc3⟩ : ∃ c : Nat, (c = 2 * i + 1 ∨ c = 2 * i + 2) ∧ c < n ∧ (bif decide (((2 * i + 2 : Nat) : Int) < (n : Int)) then (pointHeap_Less_C g ds ((2 * i + 2 : Nat) : Int) ((2 * i + 1 : Nat) : Int)).o.bind fun y => some (Step3.out (y.2.1, y.2.2, y.1)) else some (Step3.out (g, ds, false)) : Option (Step3 Unit (List Int × List Int × Bool) (Step3 Unit (List Int × List Int × Int) (Step3 (List Int × List Int × Int) (List Int × List Int × Int) (Bool × List Int × List Int))))) = some (.out (g, ds, decide (c = 2 * i + 2))) ∧ ∀ k, 0 < k → k < n → (k - 1) / 2 = i → ¬ Wo ds (gd g k) (gd g c) := by
      by_cases h2 : 2 * i + 2 < n
      · rw [bif_dpos (by omega), less_e hdg (by omega) (by omega)]
        simp only [Option.bind_some]
        cases hlt : gtD ds (gd g (2 * i + 2)) (gd g (2 * i + 1)) with
        | true =>
          have hw := gtD_iff.1 hlt
          refine ⟨2 * i + 2, .inr rfl, h2, by rw [decide_eq_true rfl], fun k k1 k2 k3 => ?_⟩
          have : k = 2 * i + 1 ∨ k = 2 * i + 2 := by omega
          rcases this with rfl | rfl <;> (unfold Wo; omega)
        | false =>
          refine ⟨2 * i + 1, .inl rfl, by omega, by rw [decide_eq_false (by omega)], fun k k1 k2 k3 => ?_⟩
          have : k = 2 * i + 1 ∨ k = 2 * i + 2 := by omega
          rcases this with rfl | rfl
          · unfold Wo; omega
          · intro hw; rw [gtD_iff.2 hw] at hlt; cases hlt
      · rw [bif_dneg (by omega)]
        refine ⟨2 * i + 1, .inl rfl, by omega, by rw [decide_eq_false (by omega)], fun k k1 k2 k3 => ?_⟩
        have : k = 2 * i + 1 := by omega
        subst this; unfold Wo; omega
    rw [hA, andC_out]
    simp only
    have hB : (bif decide (c = 2 * i + 2) then some (Step3.out (g, ds, ((2 * i + 2 : Nat) : Int))) else some (Step3.out (g, ds, ((2 * i + 1 : Nat) : Int))) : Option (Step3 Unit (List Int × List Int × Int) (Step3 (List Int × List Int × Int) (List Int × List Int × Int) (Bool × List Int × List Int)))) = some (.out (g, ds, (c : Int))) := by
      rcases hc1 with rfl | rfl
      · rw [decide_eq_false (by omega)]; rfl
      · rw [decide_eq_true rfl]; rfl
    rw [hB, andC_out]
    simp only
    rw [less_e hdg (by omega) (by omega)]
    simp only [Option.bind_some]
    cases hlt : gtD ds (gd g c) (gd g i) with
    | false =>
      have hnw : ¬ Wo ds (gd g c) (gd g i) := fun hw => by rw [gtD_iff.2 hw] at hlt; cases hlt
      refine .inr (.inl ⟨_, rfl, rfl, hp, hk, fun k hk1 hk2 => ?_⟩)
      by_cases hki : (k - 1) / 2 = i
      · have := hc3 k hk1 hk2 hki
        show ¬ Wo ds (gd g k) (gd g ((k - 1) / 2))
        rw [hki]
        unfold Wo at *; omega
      · exact g1 k hk1 hk2 hki
    | true =>
      have hw := gtD_iff.1 hlt
      simp only [Bool.not_true, cond_false]
      rw [swap_e (by omega) (by omega)]
      simp only [Option.bind_some]
      have gg := fun k => sw2_get (h := g) (i := i) (j := c) (by omega) (by omega) k
      refine .inl ⟨_, n - c, rfl, by omega, c, rfl, rfl, by omega, by omega, (sw2_perm (by omega) (by omega)).trans hp, fun k hkn => ?_, fun k hk1 hk2 hk3 => ?_, fun k hk1 hk2 hk3 hk4 => ?_⟩
      · simp only
        rw [gg, if_neg (by omega), if_neg (by omega)]; exact hk k hkn
      · simp only
        rw [gg, gg, if_neg (show ¬ c = (k - 1) / 2 from Ne.symm hk3)]
        by_cases c1 : i = (k - 1) / 2
        · rw [if_pos c1]
          by_cases c2 : c = k
          · rw [if_pos c2]; unfold Wo at *; omega
          · rw [if_neg c2, if_neg (by omega)]; exact hc3 k hk1 hk2 c1.symm
        · rw [if_neg c1, if_neg (show ¬ c = k by omega)]
          by_cases c2 : i = k
          · subst c2
            rw [if_pos rfl]
            exact g2 c (by omega) hc2 (by omega) (by omega)
          · rw [if_neg c2]; exact g1 k hk1 hk2 (Ne.symm c1)
      · simp only
        rw [gg, gg, if_neg (show ¬ c = k by omega), if_neg (show ¬ i = k by omega), if_neg (show ¬ c = (c - 1) / 2 by omega), if_pos (show i = (c - 1) / 2 by omega)]
        have := g1 k hk1 hk2 (by omega)
        rw [hk3] at this; exact this
theorem HP.top {ds h : List Int} {n : Nat} (hh : HP ds h n) : ∀ k, k < n → ¬ Wo ds (gd h k) (gd h 0) := by
  intro k
  induction k using Nat.strongRecOn with
  | ind k ih =>
    intro hk
    by_cases h0 : k = 0
    · subst h0; unfold Wo; omega
    · have h1 := hh k (by omega) hk
      have h2 := ih ((k - 1) / 2) (by omega) (by omega)
      unfold Wo at *; omega
theorem push_x {ds h : List Int} (hd : InD ds h) (hl : h.length ≤ 90000) (hh : HP ds h h.length) {x : Int} (hx : 0 ≤ x ∧ x < (ds.length : Int)) : ∃ h', (pointHeap_push_C h ds x).o = some (h', ds) ∧ h'.Perm (x :: h) ∧ HP ds h' (h.length + 1) := by
  have hl1 : (h ++ [x]).length = h.length + 1 := by simp
  have hd1 : InD ds (h ++ [x]) := fun y hy => by
    rcases List.mem_append.1 hy with hy | hy
    · exact hd y hy
    · simp at hy; subst hy; exact hx
  have hg : ∀ k, k < h.length → gd (h ++ [x]) k = gd h k := fun k hk => by simp [gd, List.getD_eq_getElem?_getD, List.getElem?_append_left hk]
  obtain ⟨h', q1, q2, q3⟩ := up_x hd1 (by omega) (j := h.length) (by omega) (fun k k1 k2 k3 => by rw [hg k (by omega), hg _ (by omega)]; exact hh k k1 (by omega)) (fun k k1 k2 k3 k4 => by omega)
  have hpush : (pointHeap_Push_C h ds x).o = some (h ++ [x], ds) := by
    show (pointHeap_Push_T h ds x).run NN = _
    simp only [pointHeap_Push_T, T.run]
    rw [grd_p (by simp only [List.length_cons, List.length_nil, maxLen_eq]; omega)]
  have hw : IntKind.i64.wrap (((h ++ [x]).length : Int) - 1) = (h.length : Int) := by rw [hl1]; exact wsub1 (by omega)
  have e1 : (container_heap_Push_C h ds x).o = some (h', ds) := by
    show (container_heap_Push_T h ds x).run NN = _
    simp only [container_heap_Push_T, T.run, hpush, len_e, Option.bind_some, hw, q1]
  refine ⟨h', ?_, q2.trans (List.perm_append_singleton x h), by rw [hl1] at q3; exact q3⟩
  show (pointHeap_push_T h ds x).run NN = _
  simp only [pointHeap_push_T, T.run, e1, Option.bind_some]
theorem pop_x {ds h : List Int} (hd : InD ds h) (hl : h.length ≤ 90000) (hh : HP ds h h.length) (h0 : 0 < h.length) : ∃ h', (pointHeap_pop_C h ds).o = some (gd h 0, h', ds) ∧ (gd h 0 :: h').Perm h ∧ HP ds h' h'.length ∧ ∀ x ∈ h, ¬ Wo ds x (gd h 0) := by
  have hsl : (sw2 h 0 (h.length - 1)).length = h.length := sw2_len ..
  have hsp : (sw2 h 0 (h.length - 1)).Perm h := sw2_perm h0 (by omega)
  have gg := fun k => sw2_get (h := h) (i := 0) (j := h.length - 1) h0 (by omega) k
  obtain ⟨b, g, q1, q2, q3, q4⟩ := down_x (hd.perm hsp) (by omega) (n := h.length - 1) (by omega) (fun k k1 k2 k3 => by
    rw [gg, gg, if_neg (by omega), if_neg (by omega), if_neg (by omega), if_neg (by omega)]; exact hh k k1 (by omega))
  have hgl := q2.length_eq
  have hw : IntKind.i64.wrap ((h.length : Int) - 1) = ((h.length - 1 : Nat) : Int) := wpred (by omega) (by omega)
  have hw2 : IntKind.i64.wrap ((g.length : Int) - 1) = ((h.length - 1 : Nat) : Int) := by rw [hgl, hsl]; exact hw
  have hlast : g.getD (h.length - 1) default = gd h 0 := by
    have := q3 (h.length - 1) (Nat.le_refl _)
    rw [gg, if_pos rfl] at this; exact this
  have hpop : (pointHeap_Pop_C g ds).o = some (gd h 0, g.take (h.length - 1), ds) := by
    show (pointHeap_Pop_T g ds).run NN = _
    simp only [pointHeap_Pop_T, T.run, hw2, Int.toNat_natCast]
    rw [grd_p (by omega), grd_p (by omega), grd_p (by omega), hlast]
  have hsw : (pointHeap_Swap_C h ds 0 ((h.length - 1 : Nat) : Int)).o = some (sw2 h 0 (h.length - 1), ds) := swap_e (i := 0) h0 (by omega)
  have e1 : (container_heap_Pop_C h ds).o = some (gd h 0, g.take (h.length - 1), ds) := by
    show (container_heap_Pop_T h ds).run NN = _
    simp only [container_heap_Pop_T, T.run, len_e, Option.bind_some, hw, hsw, q1, hpop]
  have htl : (g.take (h.length - 1)).length = h.length - 1 := by rw [List.length_take]; omega
  refine ⟨g.take (h.length - 1), ?_, ?_, ?_, fun x hx => ?_⟩
  · show (pointHeap_pop_T h ds).run NN = _
    simp only [pointHeap_pop_T, T.run, e1, Option.bind_some]
  · have : g = g.take (h.length - 1) ++ [gd h 0] := by
      have h2 := take_snoc (l := g) (k := h.length - 1) (by omega)
      rw [hlast] at h2
      rw [← h2, List.take_of_length_le (by omega)]
    refine List.Perm.trans ?_ (q2.trans hsp)
    conv => rhs; rw [this]
    exact (List.perm_append_singleton _ _).symm
  · rw [htl]
    intro k k1 k2
    have hg : ∀ k, k < h.length - 1 → gd (g.take (h.length - 1)) k = gd g k := fun k hk => by simp [gd, List.getD_eq_getElem?_getD, hk]
    rw [hg k k2, hg _ (by omega)]; exact q4 k k1 k2
  · obtain ⟨k, hk, rfl⟩ := List.getElem_of_mem hx
    have := hh.top k hk
    simpa only [gd, List.getD_eq_getElem?_getD, List.getElem?_eq_getElem hk, Option.getD_some] using this
open Go.Proofs
theorem jointB_w {l : List S_Joint} {i : Nat} (h : jointB l i = 0) : (1 ≤ (l.getD i default).Weight ∧ (l.getD i default).Weight ≤ 1024) ∧ -4194304 ≤ (l.getD i default).Lo ∧ (l.getD i default).Hi ≤ 4194304 := by
  unfold jointB at h
  have hr := reach_bd (l.getD i default).Kind
  simp only at h
  split at h
  · omega
  · split at h
    · omega
    · split at h
      · omega
      · split at h
        · omega
        · split at h
          · omega
          · rename_i h6
            split at h
            · omega
            · rename_i h7
              unfold costV betV at h7
              simp only [Bool.not_eq_true', Bool.and_eq_true, decide_eq_true_eq, Bool.not_eq_false, Bool.or_eq_true, not_or] at h6 h7
              omega
def RoV (r : S_Robot) : Prop := robotV r = 0
theorem RoV.w {r : S_Robot} (h : RoV r) {i : Nat} (hi : i < r.Joints.length) : 1 ≤ (r.Joints.getD i default).Weight ∧ (r.Joints.getD i default).Weight ≤ 1024 := (jointB_w ((robotV_ok h).2.2 i hi)).1
def QOk (J : Nat) (q : List Int) : Prop := q.length = J ∧ ∀ x ∈ q, -4194304 ≤ x ∧ x ≤ 4194304
theorem inside_ok {r : S_Robot} {c : List Int} (h : insideV r c = true) : QOk r.Joints.length c := by
  have hl := inside_len h
  unfold insideV at h
  simp only [Bool.and_eq_true, decide_eq_true_eq] at h
  obtain ⟨h1, h2, h3⟩ := h
  refine ⟨hl.1, fun x hx => ?_⟩
  obtain ⟨i, hi, rfl⟩ := List.getElem_of_mem hx
  have hj := (jointB_w ((robotV_ok h1).2.2 i (by omega))).2
  have := noneB_iff.1 h3 i hi
  unfold outJ at this
  simp only [Bool.or_eq_false_iff, decide_eq_false_iff_not, List.getD_eq_getElem?_getD, List.getElem?_eq_getElem hi, Option.getD_some] at this hj
  omega
theorem pts_ok {r : S_Robot} {P : List (List Int)} (hr : RoV r) (hl : P.length ≤ 1000) (h : ∀ c ∈ P, insideV r c = true) : PtsOk P r.Joints.length := by
  have := robotV_ok hr
  exact ⟨hl, ⟨this.1, this.2.1⟩, fun c hc => inside_ok (h c hc)⟩
def aB (a b : Int) : Int := max (a - b) (b - a)
def sumR (r : S_Robot) (p q : List Int) : Nat → Int
  | 0 => 0
  | n + 1 => sumR r p q n + (r.Joints.getD n default).Weight * aB (q.getD n default) (p.getD n default)
theorem QOk.at {J : Nat} {q : List Int} (h : QOk J q) (i : Nat) : -4194304 ≤ q.getD i default ∧ q.getD i default ≤ 4194304 := by
  by_cases hi : i < q.length
  · exact h.2 _ (getD_mem hi)
  · have : q.getD i default = 0 := by simp [List.getD_eq_getElem?_getD, List.getElem?_eq_none (by omega : q.length ≤ i)]
    rw [this]; decide
section
variable {r : S_Robot} {p q : List Int} (hr : RoV r) (hp : QOk r.Joints.length p) (hq : QOk r.Joints.length q)
include hr hp hq
theorem term_bd {n : Nat} (hn : n < r.Joints.length) : (0 ≤ aB (q.getD n default) (p.getD n default) ∧ aB (q.getD n default) (p.getD n default) ≤ 8388608) ∧ aB (q.getD n default) (p.getD n default) ≤ (r.Joints.getD n default).Weight * aB (q.getD n default) (p.getD n default) ∧ (r.Joints.getD n default).Weight * aB (q.getD n default) (p.getD n default) ≤ 8589934592 := by
  have hw := hr.w hn
  have h1 := hp.at n
  have h2 := hq.at n
  have h3 : 0 ≤ aB (q.getD n default) (p.getD n default) ∧ aB (q.getD n default) (p.getD n default) ≤ 8388608 := by unfold aB; omega
  generalize aB (q.getD n default) (p.getD n default) = a at h3
  refine ⟨h3, ?_, ?_⟩
  · have := Int.mul_le_mul_of_nonneg_right hw.1 h3.1; omega
  · have := Int.mul_le_mul hw.2 h3.2 h3.1 (by omega); omega
theorem sum_bd : ∀ n, n ≤ r.Joints.length → 0 ≤ sumR r p q n ∧ sumR r p q n ≤ 8589934592 * (n : Int)
  | 0, _ => ⟨Int.le_refl _, by simp [sumR]⟩
  | n + 1, h => by
    have h1 := sum_bd n (by omega)
    have h2 := term_bd hr hp hq (show n < r.Joints.length by omega)
    rw [sumR]; omega
theorem sum_ge1 : ∀ n, n ≤ r.Joints.length → ∀ t, t < n → (r.Joints.getD t default).Weight * aB (q.getD t default) (p.getD t default) ≤ sumR r p q n
  | 0, _, _, h => by omega
  | n + 1, h, t, ht => by
    have h1 := sum_bd hr hp hq n (by omega)
    have h2 := term_bd hr hp hq (show n < r.Joints.length by omega)
    rw [sumR]
    by_cases e : t = n
    · subst e; omega
    · have := sum_ge1 n (by omega) t (by omega); omega
theorem sum_pos (hne : p ≠ q) : 0 < sumR r p q r.Joints.length := by
  refine Classical.byContradiction fun hc => hne ?_
  refine getD_ext (by rw [hp.1, hq.1]) fun i hi => ?_
  have hi' : i < r.Joints.length := by rw [← hp.1]; exact hi
  have h1 := sum_ge1 hr hp hq r.Joints.length (Nat.le_refl _) i hi'
  have h2 := term_bd hr hp hq hi'
  have : aB (q.getD i default) (p.getD i default) ≤ 0 := by omega
  unfold aB at this; omega
theorem sumD_eq : ∀ n, n ≤ r.Joints.length → sumD r p q n = sumR r p q n
  | 0, _ => rfl
  | n + 1, h => by
    have h0 := sum_bd hr hp hq n (by omega)
    have h2 := term_bd hr hp hq (show n < r.Joints.length by omega)
    have hJ := (robotV_ok hr).2.1
    have h3 := hp.at n
    have h4 := hq.at n
    rw [sumD, stepD, sumD_eq n (by omega), sumR, w64 (x := q.getD n default - p.getD n default) (by omega) (by omega), w64 (x := p.getD n default - q.getD n default) (by omega) (by omega)]
    have e : max (q.getD n default - p.getD n default) (p.getD n default - q.getD n default) = aB (q.getD n default) (p.getD n default) := rfl
    rw [e, w64 (x := (r.Joints.getD n default).Weight * aB (q.getD n default) (p.getD n default)) (by omega) (by omega), w64 (by omega) (by omega)]
theorem dst_eq : dstV r p q = sumR r p q r.Joints.length := by
  have hb : badD r p q = false := by
    unfold badD
    have s : ∀ {c : List Int}, QOk r.Joints.length c → smallV c = true := fun {c} hc => by
      unfold smallV
      refine noneB_iff.2 fun i hi => ?_
      have := hc.at i
      unfold big1
      simp only [Bool.or_eq_false_iff, decide_eq_false_iff_not]; omega
    rw [decide_eq_true hp.1, decide_eq_true hq.1, s hp, s hq, decide_eq_true (show robotV r = 0 from hr)]; rfl
  unfold dstV
  rw [hb]
  exact sumD_eq hr hp hq _ (Nat.le_refl _)
end
def dI (r : S_Robot) (P : List (List Int)) (q : List Int) (x : Int) : Int := dQ r P q x.toNat
section
variable {r : S_Robot} {P : List (List Int)} {q : List Int} (hr : RoV r) (hP : PtsOk P r.Joints.length) (hq : QOk r.Joints.length q)
include hr hP hq
theorem dI_eq {x : Int} (hx : InP P x) : dI r P q x = sumR r (P.getD x.toNat default) q r.Joints.length :=
  dst_eq hr (hP.2.2 _ (getD_mem (by unfold InP at hx; omega))) hq
theorem distance_e (Q : List S_KdNode) {x : Int} (hx : InP P x) : (search_distance_C ⟨r.Joints, P, Q, q⟩ x).o = some (dI r P q x) := by
  have hp := hP.2.2 _ (getD_mem (show x.toNat < P.length by unfold InP at hx; omega))
  have hp : QOk r.Joints.length (P.getD x.toNat default) := hp
  rw [dI_eq hr hP hq hx]
  show (search_distance_T ⟨r.Joints, P, Q, q⟩ x).run NN = _
  have hJ := (robotV_ok hr).2.1
  simp only [search_distance_T, T.run]
  unfold InP at hx
  rw [grd_p (by omega)]
  have hl := hp.1
  have hlq := hq.1
  generalize P.getD x.toNat default = p at hp hl ⊢
  refine (loop_to (fun j => (sumR r p q j, (j : Int))) (sumR r p q r.Joints.length) r.Joints.length rfl (by show _ < 4294967296; omega) (fun j hj => ?_) ?_).trans rfl
  · have h0 := sum_bd hr hp hq j (by omega)
    have h2 := term_bd hr hp hq hj
    have h3 := hp.at j
    have h4 := hq.at j
    dsimp only
    rw [bif_dpos (by omega), grd_p (by omega), grd_p (by omega), grd_p (by omega), Int.toNat_natCast, w64 (x := q.getD j default - p.getD j default) (by omega) (by omega), w64 (x := 0 - (q.getD j default - p.getD j default)) (by omega) (by omega)]
    have e : max (q.getD j default - p.getD j default) (0 - (q.getD j default - p.getD j default)) = aB (q.getD j default) (p.getD j default) := by unfold aB; omega
    rw [e, w64 (x := (r.Joints.getD j default).Weight * aB (q.getD j default) (p.getD j default)) (by omega) (by omega), w64 (by omega) (by omega), wn (by omega)]
    rfl
  · dsimp only; rw [bif_dneg (by omega)]
end
def LtI (d : Int → Int) (x y : Int) : Prop := d x < d y ∨ (d x = d y ∧ x < y)
structure WI (P : List (List Int)) (d : Int → Int) (k : Nat) (Z : Int → Prop) (ds h : List Int) : Prop where
  dl : ds.length = P.length
  nd : h.Nodup
  hz : ∀ x ∈ h, Z x
  zp : ∀ z, Z z → InP P z
  dd : ∀ x ∈ h, dv ds x = d x
  hp : HP ds h h.length
  lk : h.length ≤ k
  all : h.length < k → ∀ z, Z z → z ∈ h
  best : ∀ x ∈ h, ∀ z, Z z → ¬ z ∈ h → LtI d x z
theorem WI.congr {P : List (List Int)} {d : Int → Int} {k : Nat} {Z Z' : Int → Prop} {ds h : List Int} (w : WI P d k Z ds h) (hz : ∀ z, Z z ↔ Z' z) : WI P d k Z' ds h :=
  ⟨w.dl, w.nd, fun x hx => (hz x).1 (w.hz x hx), fun z h => w.zp z ((hz z).2 h), w.dd, w.hp, w.lk, fun h z hz' => w.all h z ((hz z).2 hz'), fun x hx z hz' hn => w.best x hx z ((hz z).2 hz') hn⟩
theorem WI.inD {P : List (List Int)} {d : Int → Int} {k : Nat} {Z : Int → Prop} {ds h : List Int} (w : WI P d k Z ds h) : InD ds h := fun x hx => by
  have := w.zp x (w.hz x hx)
  rw [w.dl]; exact this
theorem dv_set {ds : List Int} {x y v : Int} (hx : 0 ≤ x ∧ x < (ds.length : Int)) (hy : 0 ≤ y) : dv (ds.set x.toNat v) y = if x = y then v else dv ds y := by
  unfold dv
  rw [getD_set (by omega)]
  by_cases h : x = y
  · subst h; rw [if_pos rfl, if_pos rfl]
  · rw [if_neg h, if_neg (by omega)]
theorem take_x {P : List (List Int)} {d : Int → Int} {k : Nat} {Z : Int → Prop} {ds h : List Int} (w : WI P d k Z ds h) (hk1 : 1 ≤ k) (hk2 : k ≤ 2000) {x : Int} (hx : InP P x) (hn : ¬ Z x) :
    ∃ ds' h', (neighbor_Nearest_4_C x (d x) ds h (k : Int)).o = some (ds', h') ∧ WI P d k (fun z => Z z ∨ z = x) ds' h' := by
  have hxh : ¬ x ∈ h := fun hx' => hn (w.hz x hx')
  have hxd : 0 ≤ x ∧ x < (ds.length : Int) := by rw [w.dl]; exact hx
  obtain ⟨D, hD⟩ : ∃ D, D = ds.set x.toNat (d x) := ⟨_, rfl⟩
  have hDl : D.length = ds.length := by rw [hD, List.length_set]
  have hDo : ∀ y, 0 ≤ y → y ≠ x → dv D y = dv ds y := fun y hy hyx => by rw [hD, dv_set hxd hy, if_neg (Ne.symm hyx)]
  have hDx : dv D x = d x := by rw [hD, dv_set hxd hxd.1, if_pos rfl]
  have hin := w.inD
  have hDh : ∀ y ∈ h, dv D y = d y := fun y hy => by
    rw [hDo y (hin y hy).1 (fun e => hxh (by rw [← e]; exact hy))]; exact w.dd y hy
  have hinD : InD D h := fun y hy => by rw [hDl]; exact hin y hy
  have hHP : HP D h h.length := fun i i1 i2 => by
    have m1 := getD_mem i2
    have m2 := getD_mem (show (i - 1) / 2 < h.length by omega)
    have := w.hp i i1 i2
    unfold Wo at this ⊢
    rw [hDh _ m1, hDh _ m2]
    rw [w.dd _ m1, w.dd _ m2] at this
    exact this
  have hlk := w.lk
  obtain ⟨h1, p1, p2, p3⟩ := push_x hinD (by omega) hHP (x := x) (by rw [hDl]; exact hxd)
  have hl1 : h1.length = h.length + 1 := by rw [p2.length_eq]; rfl
  have hin1 : InD D h1 := fun y hy => by
    rcases List.mem_cons.1 (p2.mem_iff.1 hy) with rfl | hy
    · rw [hDl]; exact hxd
    · exact hinD y hy
  have hd1 : ∀ y ∈ h1, dv D y = d y := fun y hy => by
    rcases List.mem_cons.1 (p2.mem_iff.1 hy) with rfl | hy
    · exact hDx
    · exact hDh y hy
  have hn1 : h1.Nodup := p2.nodup_iff.2 (List.nodup_cons.2 ⟨hxh, w.nd⟩)
  have hz1 : ∀ y ∈ h1, Z y ∨ y = x := fun y hy => by
    rcases List.mem_cons.1 (p2.mem_iff.1 hy) with rfl | hy
    · exact .inr rfl
    · exact .inl (w.hz y hy)
  have hzp : ∀ z, Z z ∨ z = x → InP P z := fun z hz => by
    rcases hz with hz | rfl
    · exact w.zp z hz
    · exact hx
  have hm1 : ∀ z, ¬ z ∈ h1 → ¬ z ∈ h ∧ z ≠ x := fun z hz => ⟨fun hh => hz (p2.mem_iff.2 (List.mem_cons_of_mem _ hh)), fun hh => hz (p2.mem_iff.2 (by rw [hh]; exact List.mem_cons_self ..))⟩
  have e0 : (neighbor_Nearest_4_C x (d x) ds h (k : Int)).o = (neighbor_Nearest_4_T x (d x) ds h (k : Int)).run NN := rfl
  rw [e0]
  simp only [neighbor_Nearest_4_T, T.run]
  rw [grd_p (by omega), grd_p (by omega), ← hD, p1]
  simp only [Option.bind_some, len_e]
  by_cases hgt : h1.length > k
  · obtain ⟨h2, t1, t2, t3, t4⟩ := pop_x hin1 (by omega) (by rw [hl1]; exact p3) (by omega)
    rw [bif_dpos (by omega), t1]
    have hl2 : h2.length + 1 = h1.length := by have := t2.length_eq; simpa using this
    have hn2 : (gd h1 0 :: h2).Nodup := t2.nodup_iff.2 hn1
    have hs2 : ∀ y ∈ h2, y ∈ h1 := fun y hy => t2.mem_iff.1 (List.mem_cons_of_mem _ hy)
    obtain ⟨n1, n2⟩ := List.nodup_cons.1 hn2
    have hmem : gd h1 0 ∈ h1 := t2.mem_iff.1 (List.mem_cons_self ..)
    have hlt : ∀ y ∈ h2, LtI d y (gd h1 0) := fun y hy => by
      have h3 := t4 y (hs2 y hy)
      have h4 : y ≠ gd h1 0 := fun e => n1 (by rw [← e]; exact hy)
      unfold Wo at h3
      rw [hd1 y (hs2 y hy), hd1 _ hmem] at h3
      unfold LtI; omega
    refine ⟨D, h2, rfl, ⟨by rw [hDl]; exact w.dl, n2, fun y hy => hz1 y (hs2 y hy), hzp, fun y hy => hd1 y (hs2 y hy), t3, by omega, fun hh => by omega, fun y hy z hz hnz => ?_⟩⟩
    by_cases hzt : z = gd h1 0
    · rw [hzt]; exact hlt y hy
    · have hz1' : ¬ z ∈ h1 := fun hh => by
        rcases List.mem_cons.1 (t2.mem_iff.2 hh) with hh | hh
        · exact hzt hh
        · exact hnz hh
      obtain ⟨hzh, hzx⟩ := hm1 z hz1'
      have hZz : Z z := hz.resolve_right hzx
      rcases List.mem_cons.1 (p2.mem_iff.1 (hs2 y hy)) with rfl | hyh
      · have hth : gd h1 0 ∈ h := by
          rcases List.mem_cons.1 (p2.mem_iff.1 hmem) with e | e
          · exact absurd (by rw [e]; exact hy) n1
          · exact e
        have k1 := w.best _ hth z hZz hzh
        have k2 := hlt y hy
        unfold LtI at *; omega
      · exact w.best y hyh z hZz hzh
  · rw [bif_dneg (by omega)]
    refine ⟨D, h1, rfl, ⟨by rw [hDl]; exact w.dl, hn1, hz1, hzp, hd1, by rw [hl1]; exact p3, by omega, fun _ z hz => ?_, fun y hy z hz hnz => ?_⟩⟩
    · rcases hz with hz | rfl
      · exact p2.mem_iff.2 (List.mem_cons_of_mem _ (w.all (by omega) z hz))
      · exact p2.mem_iff.2 (List.mem_cons_self ..)
    · obtain ⟨hzh, hzx⟩ := hm1 z hnz
      exact absurd (w.all (by omega) z (hz.resolve_right hzx)) hzh
open Go.Proofs
section
variable {r : S_Robot} {P : List (List Int)} {q : List Int} (hr : RoV r) (hP : PtsOk P r.Joints.length) (hq : QOk r.Joints.length q)
include hr hP hq
theorem far_ge {ax pt x : Int} (ha : 0 ≤ ax ∧ ax < (r.Joints.length : Int)) (hpt : InP P pt) (hx : InP P x) (hs : (q.getD ax.toNat default ≤ vK P ax pt ∧ vK P ax pt ≤ vK P ax x) ∨ (vK P ax x ≤ vK P ax pt ∧ vK P ax pt ≤ q.getD ax.toNat default)) :
    (r.Joints.getD ax.toNat default).Weight * aB (q.getD ax.toNat default) (vK P ax pt) ≤ dI r P q x := by
  have hp1 := hP.2.2 _ (getD_mem (show x.toNat < P.length by unfold InP at hx; omega))
  have hp1 : QOk r.Joints.length (P.getD x.toNat default) := hp1
  rw [dI_eq hr hP hq hx]
  have h1 := sum_ge1 hr hp1 hq r.Joints.length (Nat.le_refl _) ax.toNat (by omega)
  have hw := hr.w (show ax.toNat < r.Joints.length by omega)
  refine Int.le_trans (Int.mul_le_mul_of_nonneg_left ?_ (by omega)) h1
  show _ ≤ aB (q.getD ax.toNat default) (vK P ax x)
  unfold aB; omega
theorem walk_x {Q : List S_KdNode} (hinj : ∀ a b, a < P.length → b < P.length → (nd Q a).Point = (nd Q b).Point → a = b) (hQ : Q.length = P.length) {k : Nat} (hk1 : 1 ≤ k) (hk2 : k ≤ 2000) : ∀ (N : Nat) (i : Int) (b e : Nat) (Z : Int → Prop) (ds h : List Int), e - b < N → KD P r.Joints.length Q i b e → e ≤ P.length →
    (∀ j, b ≤ j → j < e → ¬ Z (nd Q j).Point) → WI P (dI r P q) k Z ds h →
    ∃ ds' h', (RecS.fix search_visit_1_S N).o (i, r.Joints, P, Q, q, ds, h, (k : Int)) = some (ds', h') ∧ WI P (dI r P q) k (fun z => Z z ∨ ∃ j, b ≤ j ∧ j < e ∧ z = (nd Q j).Point) ds' h'
  | 0, _, _, _, _, _, _, hN, _, _, _, _ => by omega
  | N + 1, i, b, e, Z, ds, h, hN, kd, heP, hZ, w => by
    have ho : (RecS.fix search_visit_1_S (N + 1)).o (i, r.Joints, P, Q, q, ds, h, (k : Int)) = (search_visit_1_T (RecS.fix search_visit_1_S N) i r.Joints P Q q ds h (k : Int)).run NN := rfl
    rw [ho]
    simp only [search_visit_1_T, T.run]
    rcases kd.root with ⟨rfl, rfl⟩ | ⟨rfl, hbe⟩
    · rw [bif_eq rfl]
      exact ⟨ds, h, rfl, w.congr fun z => ⟨.inl, fun h => h.elim id fun ⟨j, j1, j2, _⟩ => by omega⟩⟩
    obtain ⟨hbQ, hax, hpt⟩ := kd.data b (Nat.le_refl _) hbe
    obtain ⟨m, k1, k2, o1, o2⟩ := kd.inv
    have l1 := k1.le
    have l2 := k2.le
    have hnd : Q.getD b default = nd Q b := rfl
    have hJl := hP.at hpt
    have hql := hq.1
    rw [bif_ne (by omega), grd_p (by omega)]
    simp only [Int.toNat_natCast, hnd]
    rw [distance_e hr hP hq Q hpt]
    simp only [Option.bind_some]
    obtain ⟨ds1, h1, t1, w1⟩ := take_x w hk1 hk2 hpt (hZ b (Nat.le_refl _) hbe)
    have hpt' := hpt
    unfold InP at hpt'
    rw [t1]
    simp only [Option.bind_some]
    rw [grd_p (by omega), grd_p (by omega), grd_p (by omega)]
    obtain ⟨v, hv⟩ : ∃ v, v = vK P (nd Q b).Axis (nd Q b).Point := ⟨_, rfl⟩
    have hvx : (P.getD (nd Q b).Point.toNat default).getD (nd Q b).Axis.toNat default = v := by rw [hv]; rfl
    rw [hvx]
    have hqb := hq.at (nd Q b).Axis.toNat
    have hp0 := hP.2.2 _ (getD_mem (show (nd Q b).Point.toNat < P.length by omega))
    have hp0 : QOk r.Joints.length (P.getD (nd Q b).Point.toNat default) := hp0
    have hvb := hp0.at (nd Q b).Axis.toNat
    rw [hvx] at hvb
    have hww := hr.w (show (nd Q b).Axis.toNat < r.Joints.length by omega)
    have eg : IntKind.i64.wrap (q.getD (nd Q b).Axis.toNat default - v) = q.getD (nd Q b).Axis.toNat default - v := w64 (by omega) (by omega)
    have eg2 : IntKind.i64.wrap (0 - (q.getD (nd Q b).Axis.toNat default - v)) = 0 - (q.getD (nd Q b).Axis.toNat default - v) := w64 (by omega) (by omega)
    have emx : max (q.getD (nd Q b).Axis.toNat default - v) (0 - (q.getD (nd Q b).Axis.toNat default - v)) = aB (q.getD (nd Q b).Axis.toNat default) v := by unfold aB; omega
    have ewt : IntKind.i64.wrap ((r.Joints.getD (nd Q b).Axis.toNat default).Weight * aB (q.getD (nd Q b).Axis.toNat default) v) = (r.Joints.getD (nd Q b).Axis.toNat default).Weight * aB (q.getD (nd Q b).Axis.toNat default) v := by
      have := term_bd hr hp0 hq (show (nd Q b).Axis.toNat < r.Joints.length by omega)
      rw [hvx] at this
      exact w64 (by omega) (by omega)
    simp only [eg, eg2, emx, ewt]
    have hfd : ∀ j, b < j → j < e → InP P (nd Q j).Point := fun j j1 j2 => (kd.data j (by omega) j2).2.2
    obtain ⟨iN, bN, eN, iF, bF, eF, hA, kN, kF, hrng, hlr, hfar⟩ : ∃ iN bN eN iF bF eF, (bif decide (q.getD (nd Q b).Axis.toNat default - v > 0) then some (Step3.out ((nd Q b).High, (nd Q b).Low)) else some (Step3.out ((nd Q b).Low, (nd Q b).High)) : Option (Step3 Unit (Int × Int) (List Int × List Int))) = some (.out (iN, iF)) ∧ KD P r.Joints.length Q iN bN eN ∧ KD P r.Joints.length Q iF bF eF ∧
        (∀ j, (bN ≤ j ∧ j < eN) ∨ (bF ≤ j ∧ j < eF) ↔ b + 1 ≤ j ∧ j < e) ∧ ((eN ≤ bF ∨ eF ≤ bN) ∧ (b + 1 ≤ bN ∧ eN ≤ e ∧ bN ≤ eN) ∧ (b + 1 ≤ bF ∧ eF ≤ e ∧ bF ≤ eF)) ∧ ∀ j, bF ≤ j → j < eF → (r.Joints.getD (nd Q b).Axis.toNat default).Weight * aB (q.getD (nd Q b).Axis.toNat default) v ≤ dI r P q (nd Q j).Point := by
      by_cases hgap : q.getD (nd Q b).Axis.toNat default - v > 0
      · refine ⟨_, m, e, _, b + 1, m, by rw [bif_dpos hgap], k2, k1, fun j => by omega, by omega, fun j j1 j2 => ?_⟩
        have := ltK_iff.1 (o1 j j1 j2)
        rw [hv]
        exact far_ge hr hP hq hax hpt (hfd j (by omega) (by omega)) (.inr (by omega))
      · refine ⟨_, b + 1, m, _, m, e, by rw [bif_dneg hgap], k1, k2, fun j => by omega, by omega, fun j j1 j2 => ?_⟩
        have := ltK_iff.1 (o2 j j1 j2)
        rw [hv]
        exact far_ge hr hP hq hax hpt (hfd j (by omega) (by omega)) (.inl (by omega))
    rw [hA, andC_out]
    simp only
    have hself : ∀ j, b < j → j < e → (nd Q j).Point ≠ (nd Q b).Point := fun j j1 j2 hh => by
      have := hinj j b (by omega) (by omega) hh; omega
    obtain ⟨ds2, h2, t2, w2⟩ := walk_x hinj hQ hk1 hk2 N iN bN eN (fun z => Z z ∨ z = (nd Q b).Point) ds1 h1 (by omega) kN (by omega) (fun j j1 j2 hz => by
      rcases hz with hz | hz
      · exact hZ j (by omega) (by omega) hz
      · exact hself j (by omega) (by omega) hz) w1
    have hC : ((RecS.fix search_visit_1_S N).C (iN, r.Joints, P, Q, q, ds1, h1, (k : Int))).o = some (ds2, h2) := t2
    rw [hC]
    simp only [Option.bind_some]
    rw [grd_p (by omega)]
    have hfin : ∀ z, ((Z z ∨ z = (nd Q b).Point) ∨ ∃ j, bN ≤ j ∧ j < eN ∧ z = (nd Q j).Point) ∨ (∃ j, bF ≤ j ∧ j < eF ∧ z = (nd Q j).Point) ↔ Z z ∨ ∃ j, b ≤ j ∧ j < e ∧ z = (nd Q j).Point := fun z => by
      constructor
      · rintro (((h | h) | ⟨j, j1, j2, h⟩) | ⟨j, j1, j2, h⟩)
        · exact .inl h
        · exact .inr ⟨b, Nat.le_refl _, hbe, h⟩
        · exact .inr ⟨j, by omega, by omega, h⟩
        · exact .inr ⟨j, by omega, by omega, h⟩
      · rintro (h | ⟨j, j1, j2, h⟩)
        · exact .inl (.inl (.inl h))
        · by_cases hjb : j = b
          · subst hjb; exact .inl (.inl (.inr h))
          · rcases (hrng j).2 ⟨by omega, j2⟩ with hh | hh
            · exact .inl (.inr ⟨j, hh.1, hh.2, h⟩)
            · exact .inr ⟨j, hh.1, hh.2, h⟩
    have hnz : ∀ j, bF ≤ j → j < eF → ¬ ((Z (nd Q j).Point ∨ (nd Q j).Point = (nd Q b).Point) ∨ ∃ j', bN ≤ j' ∧ j' < eN ∧ (nd Q j).Point = (nd Q j').Point) := fun j j1 j2 hz => by
      rcases hz with (hz | hz) | ⟨j', a1, a2, hz⟩
      · exact hZ j (by omega) (by omega) hz
      · exact hself j (by omega) (by omega) hz
      · have := hinj j j' (by omega) (by omega) hz; omega
    have e3 : (neighbor_Nearest_3_C h2 ds2 (k : Int)).o = (neighbor_Nearest_3_T h2 ds2 (k : Int)).run NN := rfl
    rw [e3]
    simp only [neighbor_Nearest_3_T, T.run, len_e, Option.bind_some]
    have go : ∃ ds' h', ((RecS.fix search_visit_1_S N).C (iF, r.Joints, P, Q, q, ds2, h2, (k : Int))).o = some (ds', h') ∧ WI P (dI r P q) k (fun z => Z z ∨ ∃ j, b ≤ j ∧ j < e ∧ z = (nd Q j).Point) ds' h' := by
      obtain ⟨ds3, h3, t3, w3⟩ := walk_x hinj hQ hk1 hk2 N iF bF eF _ ds2 h2 (by omega) kF (by omega) hnz w2
      exact ⟨ds3, h3, t3, w3.congr hfin⟩
    by_cases hlt : h2.length < k
    · obtain ⟨ds3, h3, t3, w3⟩ := go
      rw [bif_dpos (by omega)]
      simp only [Option.bind_some, Bool.not_false, cond_true, andC_out]
      rw [t3]
      exact ⟨ds3, h3, rfl, w3⟩
    · have hlk := w2.lk
      have hlen : h2.length = k := by omega
      have z0 : (0 : Int).toNat = 0 := rfl
      have hm0 : gd h2 0 ∈ h2 := getD_mem (show 0 < h2.length by omega)
      have hi0 := w2.inD _ hm0
      have hgd : h2.getD 0 default = gd h2 0 := rfl
      rw [bif_dneg (by omega)]
      simp only [z0, hgd]
      rw [grd_p (by omega), grd_p (by omega), grd_p (by omega), grd_p (by omega)]
      simp only [Option.bind_some, Bool.not_true, cond_false, andC_out]
      have hdv : ds2.getD (gd h2 0).toNat default = dI r P q (gd h2 0) := w2.dd _ hm0
      rw [hdv]
      by_cases hle : (r.Joints.getD (nd Q b).Axis.toNat default).Weight * aB (q.getD (nd Q b).Axis.toNat default) v ≤ dI r P q (gd h2 0)
      · obtain ⟨ds3, h3, t3, w3⟩ := go
        rw [bif_dpos hle, t3]
        exact ⟨ds3, h3, rfl, w3⟩
      · rw [bif_dneg hle]
        refine ⟨ds2, h2, rfl, WI.congr ?_ hfin⟩
        refine ⟨w2.dl, w2.nd, fun x hx => .inl (w2.hz x hx), fun z hz => ?_, w2.dd, w2.hp, w2.lk, fun hh => by omega, fun x hx z hz hnz' => ?_⟩
        · rcases hz with hz | ⟨j, j1, j2, rfl⟩
          · exact w2.zp z hz
          · exact hfd j (by omega) (by omega)
        · rcases hz with hz | ⟨j, j1, j2, rfl⟩
          · exact w2.best x hx z hz hnz'
          · have h3 := hfar j j1 j2
            obtain ⟨t, ht, htx⟩ := List.getElem_of_mem hx
            have h4 := w2.hp.top t ht
            have h5 : gd h2 t = x := by rw [← htx]; simp [gd, List.getD_eq_getElem?_getD, ht]
            rw [h5] at h4
            unfold Wo at h4
            rw [w2.dd x hx, w2.dd _ hm0] at h4
            unfold LtI; omega
def NearL (P : List (List Int)) (d : Int → Int) (k : Nat) (L : List Int) : Prop := L.Pairwise (LtI d) ∧ (∀ x ∈ L, InP P x) ∧ L.length ≤ k ∧ (L.length < k → ∀ z, InP P z → z ∈ L) ∧ ∀ x ∈ L, ∀ z, InP P z → ¬ z ∈ L → LtI d x z
omit hr hP hq in
theorem pops_x {ds : List Int} {n0 : Nat} (hn : n0 ≤ 90000) {d : Int → Int} {h0 : List Int} (hl0 : h0.length = n0) (hnd : h0.Nodup) (hin : InD ds h0) (hhp : HP ds h0 h0.length) (hd : ∀ x ∈ h0, dv ds x = d x) : ∃ L, andK (iter (fun x : List Int × List Int × List Int × Int => bif decide (x.2.2.2 ≥ 0) then (pointHeap_pop_C x.2.1 x.2.2.1).o.bind fun y => grd (0 ≤ x.2.2.2 ∧ x.2.2.2 < (x.1.length : Int)) (grd (x.2.2.2.toNat < x.1.length ∧ 0 ≤ x.2.2.2.toNat) (some (Step3.next (x.1.set x.2.2.2.toNat y.1, y.2.1, y.2.2, IntKind.i64.wrap (x.2.2.2 - 1))))) else some (Step3.out x.1)) NN (List.replicate n0 (0 : Int), h0, ds, IntKind.i64.wrap ((n0 : Int) - 1))) (fun y => some y) = some L ∧ L.Perm h0 ∧ L.Pairwise (LtI d) := by
  refine loop_mf (P := fun L : List Int => L.Perm h0 ∧ L.Pairwise (LtI d)) (x := (List.replicate n0 (0 : Int), h0, ds, IntKind.i64.wrap ((n0 : Int) - 1)))
    (fun m (y : List Int × List Int × List Int × Int) => y.2.2.1 = ds ∧ y.2.2.2 = (y.2.1.length : Int) - 1 ∧ y.2.1.length ≤ m ∧ y.2.1.length ≤ n0 ∧ y.1.length = n0 ∧ (y.2.1 ++ y.1.drop y.2.1.length).Perm h0 ∧ HP ds y.2.1 y.2.1.length ∧ (y.1.drop y.2.1.length).Pairwise (LtI d) ∧ ∀ x ∈ y.2.1, ∀ t ∈ y.1.drop y.2.1.length, LtI d x t)
    (fun L : List Int => L.Perm h0 ∧ L.Pairwise (LtI d)) n0 ⟨rfl, by simp only; rw [w64 (by omega) (by omega)]; omega, by simp only; omega, by simp only; omega, by simp, by simp [hl0], hhp, by simp [hl0], by simp [hl0]⟩ (by omega) ?_ (fun z hz => ⟨_, rfl, hz⟩)
  rintro m ⟨z, h, d', y⟩ ⟨hd', hy, hm, hln, hz, hp, hh, hs, hb⟩
  simp only at hd' hy hm hln hz hp hh hs hb ⊢
  rw [hd']
  have hmem : ∀ x ∈ h, x ∈ h0 := fun x hx => hp.mem_iff.1 (List.mem_append_left _ hx)
  by_cases h0' : h.length = 0
  · obtain rfl := List.length_eq_zero_iff.1 h0'
    rw [bif_dneg (by simp at hy; omega)]
    refine .inr (.inl ⟨_, rfl, ?_, ?_⟩)
    · simpa using hp
    · simpa using hs
  · obtain ⟨g, t1, t2, t3, t4⟩ := pop_x (ds := ds) (h := h) (fun x hx => hin x (hmem x hx)) (by omega) hh (by omega)
    have hgl : g.length + 1 = h.length := by have := t2.length_eq; simpa using this
    have hnh : h.Nodup := by
      have := hp.nodup_iff.2 hnd
      exact (List.nodup_append.1 this).1
    obtain ⟨n1, n2⟩ := List.nodup_cons.1 (t2.nodup_iff.2 hnh)
    have htop : gd h 0 ∈ h := t2.mem_iff.1 (List.mem_cons_self ..)
    have hy' : y = (g.length : Int) := by omega
    subst hy'
    rw [bif_dpos (by omega), t1]
    simp only [Option.bind_some, Int.toNat_natCast]
    rw [grd_p (by omega), grd_p (by omega)]
    have hdrop : (z.set g.length (gd h 0)).drop g.length = gd h 0 :: z.drop h.length := by
      rw [List.drop_set, if_neg (by omega), Nat.sub_self, ← hgl]
      have : z.drop g.length = z.getD g.length default :: z.drop (g.length + 1) := by
        rw [List.drop_eq_getElem_cons (by omega), List.getD_eq_getElem?_getD, List.getElem?_eq_getElem (by omega), Option.getD_some]
      rw [this]; rfl
    refine .inl ⟨_, m - 1, rfl, by omega, rfl, w64 (by omega) (by omega), by simp only; omega, by simp only; omega, by simp only [List.length_set]; exact hz, ?_, t3, ?_, fun x hx t ht => ?_⟩
    · simp only
      rw [hdrop]
      exact (List.perm_middle.trans (List.Perm.append_right _ t2)).trans hp
    · simp only
      rw [hdrop]
      exact List.pairwise_cons.2 ⟨fun t ht => hb _ htop t ht, hs⟩
    · simp only at hx ht
      rw [hdrop] at ht
      have hxh : x ∈ h := t2.mem_iff.1 (List.mem_cons_of_mem _ hx)
      rcases List.mem_cons.1 ht with rfl | ht
      · have h3 := t4 x hxh
        have h4 : x ≠ gd h 0 := fun e => n1 (by rw [← e]; exact hx)
        unfold Wo at h3
        rw [hd x (hmem x hxh), hd _ (hmem _ htop)] at h3
        unfold LtI; omega
      · exact hb x hxh t ht
theorem fits_e {Q : List S_KdNode} (hw : KDw P r.Joints.length Q) : (neighbor_fits_C r P Q q).o = some true := by
  have er : (⟨r.Joints, r.Masses⟩ : S_Robot) = r := rfl
  have hJ := robotV_ok hr
  have hv : robotV r = 0 := hr
  have hsm : (neighbor_small_C q).o = some true := small_e q (by rw [hq.1]; omega) hq.2
  show (neighbor_fits_T r P Q q).run NN = _
  simp only [neighbor_fits_T, T.run, er, robot_Check_e, hv, hsm, valid_kd hP hw, Option.bind_some]
  rw [bif_nne rfl, bif_nne (by rw [hq.1])]
  simp only [Bool.not_true, cond_false, andC_out]
  by_cases h0 : P.length = 0
  · rw [bif_eq (by omega)]
  · have z0 : (0 : Int).toNat = 0 := rfl
    have := (hP.2.2 _ (getD_mem (show 0 < P.length by omega))).1
    rw [bif_ne (by omega), grd_p (by omega), z0, this]; simp
theorem nearest_x {Q : List S_KdNode} (hw : KDw P r.Joints.length Q) {k : Nat} (hk1 : 1 ≤ k) (hk2 : k ≤ 2000) (hpts : ∀ x, InP P x → ∃ j, j < P.length ∧ (nd Q j).Point = x) : ∃ L, (neighbor_Nearest_C r P Q q (k : Int)).o = some L ∧ NearL P (dI r P q) k L := by
  have er : (⟨r.Joints, r.Masses⟩ : S_Robot) = r := rfl
  obtain ⟨i0, hkd⟩ := hw.kd
  have hn := hP.1
  show ∃ L, (neighbor_Nearest_T r P Q q (k : Int)).run NN = some L ∧ _
  simp only [neighbor_Nearest_T, T.run, er, fits_e hr hP hq hw, Option.bind_some]
  rw [bif_dneg (by omega), andC_out]
  simp only [Bool.not_true, cond_false]
  rw [grd_p (by omega)]
  simp only [Int.toNat_natCast]
  have w0 : WI P (dI r P q) k (fun _ => False) (List.replicate P.length (0 : Int)) [] :=
    ⟨by simp, List.nodup_nil, fun x hx => (by cases hx), fun z hz => hz.elim, fun x hx => (by cases hx), fun i i1 i2 => (by simp at i2), Nat.zero_le _, fun _ z hz => hz.elim, fun x hx => (by cases hx)⟩
  obtain ⟨ds, h, v1, w⟩ : ∃ ds h, (search_visit_C ⟨r.Joints, P, Q, q⟩ nl (List.replicate P.length (0 : Int)) (k : Int)).o = some (h, ds) ∧ WI P (dI r P q) k (InP P) ds h := by
    show ∃ ds h, (search_visit_T ⟨r.Joints, P, Q, q⟩ nl (List.replicate P.length (0 : Int)) (k : Int)).run NN = some (h, ds) ∧ _
    simp only [search_visit_T, T.run]
    have hl := hw.len
    by_cases h0 : 0 < P.length
    · have hkd' : KD P r.Joints.length Q 0 0 P.length := by
        rcases hkd.root with ⟨-, h⟩ | ⟨h, -⟩
        · omega
        · rw [h] at hkd; exact hkd
      obtain ⟨ds, h, t, w⟩ := walk_x hr hP hq hw.inj hl hk1 hk2 NN 0 0 P.length (fun _ => False) (List.replicate P.length (0 : Int)) [] (by show _ < 4294967296; omega) hkd' (Nat.le_refl _) (fun _ _ _ h => h) w0
      have hC : (search_visit_1_C 0 r.Joints P Q q (List.replicate P.length (0 : Int)) nl (k : Int)).o = some (ds, h) := t
      rw [bif_dpos (by omega), hC]
      refine ⟨ds, h, rfl, w.congr fun z => ?_⟩
      constructor
      · rintro (h | ⟨j, j1, j2, rfl⟩)
        · exact h.elim
        · exact (hkd'.data j j1 j2).2.2
      · intro hz
        obtain ⟨j, j1, j2⟩ := hpts z hz
        exact .inr ⟨j, Nat.zero_le _, j1, j2.symm⟩
    · rw [bif_dneg (by omega)]
      exact ⟨_, _, rfl, w0.congr fun z => ⟨fun h => h.elim, fun hz => by unfold InP at hz; omega⟩⟩
  rw [v1]
  simp only [Option.bind_some, len_e, Int.toNat_natCast, List.length_replicate]
  have hlk := w.lk
  rw [grd_p (by omega)]
  obtain ⟨L, q1, q2, q3⟩ := pops_x (n0 := h.length) (by omega) rfl w.nd w.inD w.hp w.dd
  refine ⟨L, q1, q3, fun x hx => w.zp x (w.hz x (q2.mem_iff.1 hx)), by rw [q2.length_eq]; exact hlk, fun hh z hz => q2.mem_iff.2 (w.all (by rw [← q2.length_eq]; exact hh) z hz), fun x hx z hz hnz => w.best x (q2.mem_iff.1 hx) z hz fun hh => hnz (q2.mem_iff.2 hh)⟩
end
open Go.Proofs
open Go.Sort (SWO)
theorem nodup_len {A B : List Int} (hA : A.Nodup) (h : ∀ x ∈ A, x ∈ B) : A.length ≤ B.length := by
  induction A generalizing B with
  | nil => exact Nat.zero_le _
  | cons a A ih =>
    obtain ⟨h1, h2⟩ := List.nodup_cons.1 hA
    have ha := h a (List.mem_cons_self ..)
    have hp := List.perm_cons_erase ha
    have := ih (B := B.erase a) h2 fun x hx => by
      have hxB := h x (List.mem_cons_of_mem _ hx)
      rcases List.mem_cons.1 (hp.mem_iff.1 hxB) with rfl | h3
      · exact absurd hx h1
      · exact h3
    have hl := hp.length_eq
    simp only [List.length_cons] at hl ⊢
    omega
theorem nodup_inj {α : Type} {l : List α} (h : l.Nodup) {i j : Nat} (hi : i < l.length) (hj : j < l.length) (e : l[i] = l[j]) : i = j := by
  have hp := List.pairwise_iff_getElem.1 h
  refine Classical.byContradiction fun hn => ?_
  by_cases c : i < j
  · exact hp i j hi hj c e
  · exact hp j i hj hi (by omega) e.symm
theorem LtI.nd {d : Int → Int} {L : List Int} (h : L.Pairwise (LtI d)) : L.Nodup := h.imp fun h e => by subst e; unfold LtI at h; omega
theorem near_take {P : List (List Int)} {d : Int → Int} {k : Nat} {L F : List Int} (h : NearL P d k L) (hF : F.Pairwise (LtI d)) (hm : ∀ x, x ∈ F ↔ InP P x) (v : Int) : v ∈ L ↔ v ∈ F.take k := by
  obtain ⟨h1, h2, h3, h4, h5⟩ := h
  have hLn := LtI.nd h1
  have hFn := LtI.nd hF
  constructor
  · intro hv
    obtain ⟨A, B, hAB⟩ := List.append_of_mem ((hm v).2 (h2 v hv))
    rw [hAB] at hF hFn
    obtain ⟨p1, p2, p3⟩ := List.pairwise_append.1 hF
    obtain ⟨n1, n2, n3⟩ := List.nodup_append.1 hFn
    have hA : ∀ x ∈ A, x ∈ L := fun x hx => by
      have hlt := p3 x hx v (List.mem_cons_self ..)
      refine Classical.byContradiction fun hn => ?_
      have := h5 v hv x ((hm x).1 (by rw [hAB]; exact List.mem_append_left _ hx)) hn
      unfold LtI at *; omega
    have hnv : (v :: A).Nodup := List.nodup_cons.2 ⟨fun hh => n3 v hh v (List.mem_cons_self ..) rfl, n1⟩
    have := nodup_len hnv (B := L) fun x hx => by
      rcases List.mem_cons.1 hx with rfl | hx
      · exact hv
      · exact hA x hx
    simp only [List.length_cons] at this
    rw [hAB, List.take_append]
    obtain ⟨t, ht⟩ : ∃ t, k - A.length = t + 1 := ⟨k - A.length - 1, by omega⟩
    rw [ht, List.take_succ_cons]
    exact List.mem_append_right _ (List.mem_cons_self ..)
  · intro hv
    refine Classical.byContradiction fun hn => ?_
    have hvF := List.mem_of_mem_take hv
    have hvP := (hm v).1 hvF
    have hlk : ¬ L.length < k := fun hh => hn (h4 hh v hvP)
    obtain ⟨A, B, hAB⟩ := List.append_of_mem hvF
    rw [hAB] at hF hFn hv
    obtain ⟨p1, p2, p3⟩ := List.pairwise_append.1 hF
    obtain ⟨n1, n2, n3⟩ := List.nodup_append.1 hFn
    have p4 := (List.pairwise_cons.1 p2).1
    have hLA : ∀ x ∈ L, x ∈ A := fun x hx => by
      have hlt := h5 x hx v hvP hn
      have hxF := (hm x).2 (h2 x hx)
      rw [hAB] at hxF
      rcases List.mem_append.1 hxF with hxA | hxB
      · exact hxA
      · rcases List.mem_cons.1 hxB with rfl | hxB
        · exact absurd hx hn
        · have := p4 x hxB
          unfold LtI at *; omega
    have hlen := nodup_len hLn hLA
    have hvA : v ∈ A := by
      rw [List.take_append_of_le_length (by omega)] at hv
      exact List.mem_of_mem_take hv
    exact n3 v hvA v (List.mem_cons_self ..) rfl
section
variable {r : S_Robot} {P : List (List Int)} (hr : RoV r) (hl : P.length ≤ 900) (hin : ∀ c ∈ P, insideV r c = true) (hnd : P.Nodup)
include hr hl hin hnd
theorem near_self {u k : Nat} (hu : u < P.length) (hk : 1 ≤ k) {L : List Int} (h : NearL P (dI r P (P.getD u default)) (min k P.length + 1) L) (v : Int) : (v ∈ L ∧ v ≠ (u : Int)) ↔ ∃ w : Nat, v = (w : Int) ∧ NearP r P (k : Int) u w := by
  have hP := pts_ok hr (by omega) hin
  have hq := inside_ok (hin _ (getD_mem hu))
  have hPn : ∀ c ∈ P, c.length < 4294967296 := fun c hc => by have := inside_len (hin c hc); omega
  obtain ⟨l, -, ns, -, ho⟩ := byDist_e r P (P.getD u default) (u : Int) (by omega) hPn (hPn _ (getD_mem hu))
  have hmem : ∀ w, w ∈ ns ↔ w < P.length ∧ (w : Int) ≠ (u : Int) := fun w => ho.1.mem_iff.trans mem_ixs
  have d0 : dI r P (P.getD u default) (u : Int) = 0 := by
    rw [dI_eq hr hP hq (by unfold InP; omega), Int.toNat_natCast]
    have : ∀ n, sumR r (P.getD u default) (P.getD u default) n = 0 := fun n => by
      induction n with
      | zero => rfl
      | succ n ih => rw [sumR, ih]; unfold aB; simp
    exact this _
  have hpos : ∀ w, w < P.length → w ≠ u → 0 < dI r P (P.getD u default) (w : Int) := fun w hw hwu => by
    rw [dI_eq hr hP hq (by unfold InP; omega), Int.toNat_natCast]
    refine sum_pos hr (inside_ok (hin _ (getD_mem hw))) hq fun e => hwu ?_
    have h1 : P[w] = P.getD w default := by rw [List.getD_eq_getElem?_getD, List.getElem?_eq_getElem hw, Option.getD_some]
    have h2 : P[u] = P.getD u default := by rw [List.getD_eq_getElem?_getD, List.getElem?_eq_getElem hu, Option.getD_some]
    exact nodup_inj hnd hw hu (h1.trans (e.trans h2.symm))
  have hF : (casts (u :: ns)).Pairwise (LtI (dI r P (P.getD u default))) := by
    refine List.Pairwise.map _ (fun a b h => h) (List.pairwise_cons (R := fun a b : Nat => LtI (dI r P (P.getD u default)) (a : Int) (b : Int)).2 ⟨fun w hw => ?_, ho.2.imp fun {a b} h => ?_⟩)
    · have := (hmem w).1 hw
      have := hpos w (by omega) (by omega)
      unfold LtI; omega
    · unfold LtD at h
      unfold LtI dI
      rw [Int.toNat_natCast, Int.toNat_natCast]; omega
  have hm : ∀ x, x ∈ casts (u :: ns) ↔ InP P x := fun x => by
    unfold casts
    rw [List.mem_map]
    constructor
    · rintro ⟨w, hw, rfl⟩
      rcases List.mem_cons.1 hw with rfl | hw
      · unfold InP; omega
      · have := (hmem w).1 hw; unfold InP; omega
    · intro hx
      unfold InP at hx
      refine ⟨x.toNat, ?_, by omega⟩
      by_cases e : x.toNat = u
      · rw [e]; exact List.mem_cons_self ..
      · exact List.mem_cons_of_mem _ ((hmem _).2 (by omega))
  rw [near_take h hF hm v]
  have ht : (casts (u :: ns)).take (min k P.length + 1) = (u : Int) :: casts (ns.take (min k P.length)) := by
    simp [casts, List.map_take]
  rw [ht]
  have hnl : ns.length ≤ P.length := by
    rw [ho.1.length_eq]; unfold ixs; exact Nat.le_trans (List.length_filter_le _ _) (by simp)
  constructor
  · rintro ⟨h1, h2⟩
    rcases List.mem_cons.1 h1 with h1 | h1
    · exact absurd h1 h2
    · obtain ⟨w, hw, rfl⟩ := List.mem_map.1 h1
      obtain ⟨k1, k2⟩ := (mem_take_ord ho).1 hw
      exact ⟨w, rfl, k1, by omega⟩
  · rintro ⟨w, rfl, k1, k2⟩
    have := cnt_lt ho k1
    have hw := (mem_take_ord ho (i := min k P.length)).2 ⟨k1, by omega⟩
    refine ⟨List.mem_cons_of_mem _ (List.mem_map.2 ⟨w, hw, rfl⟩), (mem_ixs.1 k1).2⟩
omit hr hl hin hnd in
theorem key2 (a b : Int × Int) : keyEq (cells_arr_2_int a) (cells_arr_2_int b) = true ↔ a = b := by
  obtain ⟨a0, a1⟩ := a
  obtain ⟨b0, b1⟩ := b
  simp only [keyEq, cells_arr_2_int, cellsEq, if_true, Option.map_some]
  simp
def mapP (l : List (Int × Int)) : List ((Int × Int) × Bool) := (l.map fun c => (c, true)).reverse
omit hr hl hin hnd in
theorem mapP_get (l : List (Int × Int)) (c : Int × Int) : mgetB cells_arr_2_int (mapP l) (cells_arr_2_int c) = true ↔ c ∈ l := by
  unfold mapP
  rw [← List.map_reverse]
  have : c ∈ l ↔ c ∈ l.reverse := by simp
  rw [this]
  induction l.reverse with
  | nil => simp [mgetB]
  | cons a l ih =>
    simp only [List.map_cons, mgetB]
    by_cases e : keyEq (cells_arr_2_int c) (cells_arr_2_int a) = true
    · rw [if_pos e]
      exact ⟨fun _ => by rw [(key2 _ _).1 e]; exact List.mem_cons_self .., fun _ => rfl⟩
    · rw [if_neg e]
      refine Iff.trans ih ⟨List.mem_cons_of_mem _, fun h => ?_⟩
      rcases List.mem_cons.1 h with rfl | h
      · exact absurd ((key2 _ _).2 rfl) e
      · exact h
def lt2 (a b : Int × Int) : Bool := decide (a.1 < b.1 ∨ (a.1 = b.1 ∧ a.2 < b.2))
omit hr hl hin hnd in
theorem lt2_iff {a b : Int × Int} : lt2 a b = true ↔ a.1 < b.1 ∨ (a.1 = b.1 ∧ a.2 < b.2) := by unfold lt2; rw [decide_eq_true_eq]
omit hr hl hin hnd in
theorem lt2_not {a b : Int × Int} : lt2 a b = false ↔ ¬ (a.1 < b.1 ∨ (a.1 = b.1 ∧ a.2 < b.2)) := by unfold lt2; rw [decide_eq_false_iff_not]
omit hr hl hin hnd in
theorem swo2 : SWO lt2 where
  irrefl x := lt2_not.2 (by omega)
  trans x y z h1 h2 := by rw [lt2_iff] at *; omega
  ntrans x y z h1 h2 := by rw [lt2_not] at *; omega
omit hr hl hin hnd in
theorem cmp2_ok : CmpOk (fun _ => True) cmp_2_int lt2 := fun x y _ _ => by
  refine ⟨if cmpI' x.1 y.1 ≠ 0 then cmpI' x.1 y.1 else if cmpI' x.2 y.2 ≠ 0 then cmpI' x.2 y.2 else 0, ?_, ?_⟩
  · have hI : ∀ a b : Int, (cmp_Compare_int_C a b).o = some (cmpI' a b) := cmpI
    have h2 : (slices_Compare_int_int_C x.1 x.2 y.1 y.2).o = some (if cmpI' x.1 y.1 ≠ 0 then cmpI' x.1 y.1 else if cmpI' x.2 y.2 ≠ 0 then cmpI' x.2 y.2 else 0) := by
      show (slices_Compare_int_int_T x.1 x.2 y.1 y.2).run NN = _
      simp only [slices_Compare_int_int_T, T.run, hI, Option.bind_some]
      rw [grd_p (by omega), grd_p (by omega)]
      by_cases c1 : cmpI' x.1 y.1 = 0
      · rw [bif_nne c1, if_neg (by omega), grd_p (by omega), grd_p (by omega)]
        by_cases c2 : cmpI' x.2 y.2 = 0
        · rw [bif_nne c2, if_neg (by omega)]
        · rw [bif_neq c2, if_pos c2]
      · rw [bif_neq c1, if_pos c1]
    show (roadmap_nearPairs_1_T x y).run NN = _
    simp only [roadmap_nearPairs_1_T, T.run, h2, Option.bind_some]
  · rw [Bool.eq_iff_iff, decide_eq_true_eq, lt2_iff]
    unfold cmpI'
    split <;> (try split) <;> (try split) <;> (try split) <;> (try split) <;> omega
def PairL (n : Nat) (S : Nat → Nat → Prop) (l : List (Int × Int)) : Prop := l.Nodup ∧ ∀ p, p ∈ l ↔ ∃ a b : Nat, a < b ∧ b < n ∧ S a b ∧ p = ((a : Int), (b : Int))
omit hr hl hin hnd in
theorem PairL.congr {n : Nat} {S S' : Nat → Nat → Prop} {l : List (Int × Int)} (h : PairL n S l) (hs : ∀ a b, a < b → b < n → (S a b ↔ S' a b)) : PairL n S' l :=
  ⟨h.1, fun p => (h.2 p).trans ⟨fun ⟨a, b, h1, h2, h3, h4⟩ => ⟨a, b, h1, h2, (hs a b h1 h2).1 h3, h4⟩, fun ⟨a, b, h1, h2, h3, h4⟩ => ⟨a, b, h1, h2, (hs a b h1 h2).2 h3, h4⟩⟩⟩
omit hr hl hin hnd in
theorem PairL.add {n : Nat} {S : Nat → Nat → Prop} {X : List (Int × Int)} (h : PairL n S X) {x y : Nat} (hx : x < y) (hy : y < n) : (((x : Int), (y : Int)) ∈ X → PairL n (fun a b => S a b ∨ (a = x ∧ b = y)) X) ∧ (¬ ((x : Int), (y : Int)) ∈ X → PairL n (fun a b => S a b ∨ (a = x ∧ b = y)) (X ++ [((x : Int), (y : Int))])) := by
  refine ⟨fun hm => h.congr fun a b h1 h2 => ⟨.inl, fun hs => hs.elim id fun ⟨e1, e2⟩ => ?_⟩, fun hm => ⟨?_, fun p => ?_⟩⟩
  · obtain ⟨a', b', k1, k2, k3, k4⟩ := (h.2 _).1 hm
    simp only [Prod.mk.injEq] at k4
    have q1 : a' = a := by omega
    have q2 : b' = b := by omega
    rw [q1, q2] at k3; exact k3
  · refine List.nodup_append.2 ⟨h.1, by simp, fun a ha b hb => ?_⟩
    simp at hb
    intro e
    exact hm (by rw [← hb, ← e]; exact ha)
  · rw [List.mem_append, h.2 p, List.mem_singleton]
    constructor
    · rintro (⟨a, b, k1, k2, k3, k4⟩ | rfl)
      · exact ⟨a, b, k1, k2, .inl k3, k4⟩
      · exact ⟨x, y, hx, hy, .inr ⟨rfl, rfl⟩, rfl⟩
    · rintro ⟨a, b, k1, k2, k3 | ⟨rfl, rfl⟩, k4⟩
      · exact .inl ⟨a, b, k1, k2, k3, k4⟩
      · exact .inr k4
theorem nearPairs_e {k : Int} (hk : 1 ≤ k) : ∃ ps, (roadmap_nearPairs_C r P k).o = some ps ∧ ps.Pairwise (fun a b => lt2 a b = true) ∧ PairL P.length (JoinP r P k) ps := by
  have hP := pts_ok hr (by omega) hin
  obtain ⟨Q, i0, b1, b2, b3, b4⟩ := build_e hP
  have hinj : ∀ p q, p < P.length → q < P.length → (nd Q p).Point = (nd Q q).Point → p = q := fun p q hp hq h => by
    have hn : (Q.map (·.Point)).Nodup := b3.nodup_iff.2 (casts_range_nodup _)
    have hg : ∀ t, t < P.length → ∃ h : t < (Q.map (·.Point)).length, (Q.map (·.Point))[t] = (nd Q t).Point := fun t ht => ⟨by simp; omega, by simp [nd, List.getD_eq_getElem?_getD, List.getElem?_eq_getElem (show t < Q.length by omega)]⟩
    obtain ⟨h1, e1⟩ := hg p hp
    obtain ⟨h2, e2⟩ := hg q hq
    exact nodup_inj hn h1 h2 (e1.trans (h.trans e2.symm))
  have hw : KDw P r.Joints.length Q := ⟨b2, ⟨i0, b4⟩, hinj⟩
  have hpts : ∀ x, InP P x → ∃ j, j < P.length ∧ (nd Q j).Point = x := fun x hx => by
    unfold InP at hx
    have hm : x ∈ Q.map (·.Point) := b3.mem_iff.2 (List.mem_map.2 ⟨x.toNat, List.mem_range.2 (by omega), by omega⟩)
    obtain ⟨D, hD, rfl⟩ := List.mem_map.1 hm
    obtain ⟨t, ht, rfl⟩ := List.getElem_of_mem hD
    exact ⟨t, by omega, by simp [nd, List.getD_eq_getElem?_getD, ht]⟩
  obtain ⟨kn, hkn, hkn1⟩ : ∃ kn : Nat, k = (kn : Int) ∧ 1 ≤ kn := ⟨k.toNat, by omega, by omega⟩
  have er : (⟨r.Joints, r.Masses⟩ : S_Robot) = r := rfl
  show ∃ ps, (roadmap_nearPairs_T r P k).run NN = some ps ∧ _
  simp only [roadmap_nearPairs_T, T.run, er, b1, Option.bind_some]
  have hw1 : IntKind.i64.wrap (min k (P.length : Int) + 1) = ((min kn P.length + 1 : Nat) : Int) := by rw [w64 (by omega) (by omega)]; omega
  rw [hw1]
  refine loop_mf (x := ((nl : List (Int × Int)), (nl : List ((Int × Int) × Bool)), (0 : Int))) (P := fun ps : List (Int × Int) => ps.Pairwise (fun a b => lt2 a b = true) ∧ PairL P.length (JoinP r P k) ps)
    (fun m (y : List (Int × Int) × List ((Int × Int) × Bool) × Int) => ∃ u : Nat, y.2.2 = (u : Int) ∧ u + m = P.length ∧ y.2.1 = mapP y.1 ∧ y.1.length ≤ 1001 * u ∧ PairL P.length (fun a b => (a < u ∧ NearP r P k a b) ∨ (b < u ∧ NearP r P k b a)) y.1)
    (fun z : List (Int × Int) => z.length ≤ 1000000 ∧ PairL P.length (JoinP r P k) z) P.length ⟨0, rfl, by omega, rfl, by simp [nl], List.nodup_nil, fun p => ⟨fun h => (by cases h), fun ⟨a, b, _, _, h, _⟩ => (by omega)⟩⟩ (by omega) ?_ ?_
  · rintro m ⟨X, M, y⟩ ⟨u, hu, hum, hM, hXl, hX⟩
    simp only at hu hM hXl hX ⊢
    subst hu
    rw [hM]
    cases m with
    | zero =>
      obtain rfl : u = P.length := by omega
      rw [bif_dneg (by omega)]
      exact .inr (.inl ⟨_, rfl, by omega, hX.congr fun a b h1 h2 => by unfold JoinP; constructor <;> rintro (h | h) <;> first | exact .inl h.2 | exact .inr h.2 | exact .inl ⟨by omega, h⟩ | exact .inr ⟨by omega, h⟩⟩)
    | succ m =>
      have hul : u < P.length := by omega
      have hq := inside_ok (hin _ (getD_mem hul))
      obtain ⟨L, n1, n2⟩ := nearest_x hr hP hq hw (k := min kn P.length + 1) (by omega) (by omega) hpts
      have hLm := near_self hr hl hin hnd hul hkn1 n2
      have hLn := LtI.nd n2.1
      have hLP := n2.2.1
      have hLl := n2.2.2.1
      rw [bif_dpos (by omega), grd_p (by omega), Int.toNat_natCast, n1, wn (by omega)]
      simp only [Option.bind_some]
      rw [← hkn] at hLm
      suffices hi : ∃ s, _ = some s ∧ (∃ X' : List (Int × Int), s = Step3.next (X', mapP X', ((u + 1 : Nat) : Int)) ∧ X'.length ≤ 1001 * (u + 1) ∧ PairL P.length (fun a b => (a < u + 1 ∧ NearP r P k a b) ∨ (b < u + 1 ∧ NearP r P k b a)) X') by
        obtain ⟨s, e, X', rfl, k1, k2⟩ := hi
        exact .inl ⟨_, m, e, Nat.lt_succ_self m, u + 1, rfl, by omega, rfl, k1, k2⟩
      refine loop_mf (x := (X, mapP X, (0 : Int))) (fun m' (y : List (Int × Int) × List ((Int × Int) × Bool) × Int) => ∃ i : Nat, y.2.2 = (i : Int) ∧ i + m' = L.length ∧ y.2.1 = mapP y.1 ∧ y.1.length ≤ 1001 * u + i ∧ PairL P.length (fun a b => ((a < u ∧ NearP r P k a b) ∨ (b < u ∧ NearP r P k b a)) ∨ (a = u ∧ (b : Int) ∈ L.take i) ∨ (b = u ∧ (a : Int) ∈ L.take i)) y.1)
        (fun y : List (Int × Int) × List ((Int × Int) × Bool) => y.2 = mapP y.1 ∧ y.1.length ≤ 1001 * (u + 1) ∧ PairL P.length (fun a b => (a < u + 1 ∧ NearP r P k a b) ∨ (b < u + 1 ∧ NearP r P k b a)) y.1) L.length ⟨0, rfl, by omega, rfl, by simp only; omega, hX.congr fun a b _ _ => by simp⟩ (by omega) ?_ ?_
      · rintro m' ⟨X1, M1, y⟩ ⟨i, hi, him, hM1, hX1l, hX1⟩
        simp only at hi hM1 hX1l hX1 ⊢
        subst hi
        rw [hM1]
        cases m' with
        | zero =>
          obtain rfl : i = L.length := by omega
          rw [bif_dneg (by omega)]
          refine .inr (.inl ⟨_, rfl, rfl, by simp only; omega, hX1.congr fun a b h1 h2 => ?_⟩)
          rw [List.take_length]
          have key : ∀ w : Nat, w ≠ u → ((w : Int) ∈ L ↔ NearP r P k u w) := fun w hwu => by
            have := hLm (w : Int)
            constructor
            · intro hw
              obtain ⟨w', e, h⟩ := this.1 ⟨hw, by omega⟩
              have : w' = w := by omega
              rw [this] at h; exact h
            · intro h
              exact (this.2 ⟨w, rfl, h⟩).1
          constructor
          · rintro ((h | h) | ⟨rfl, h⟩ | ⟨rfl, h⟩)
            · exact .inl ⟨by omega, h.2⟩
            · exact .inr ⟨by omega, h.2⟩
            · exact .inl ⟨by omega, (key b (by omega)).1 h⟩
            · exact .inr ⟨by omega, (key a (by omega)).1 h⟩
          · rintro (⟨h, h'⟩ | ⟨h, h'⟩)
            · by_cases e : a = u
              · subst e; exact .inr (.inl ⟨rfl, (key b (by omega)).2 h'⟩)
              · exact .inl (.inl ⟨by omega, h'⟩)
            · by_cases e : b = u
              · subst e; exact .inr (.inr ⟨rfl, (key a (by omega)).2 h'⟩)
              · exact .inl (.inr ⟨by omega, h'⟩)
        | succ m' =>
          have hv := hLP _ (getD_mem (show i < L.length by omega))
          have ht : L.take (i + 1) = L.take i ++ [L.getD i default] := take_snoc (by omega)
          rw [bif_dpos (by omega), grd_p (by omega), Int.toNat_natCast, wn (by omega)]
          generalize L.getD i default = v at hv ht ⊢
          unfold InP at hv
          obtain ⟨w, rfl⟩ : ∃ w : Nat, v = (w : Int) := ⟨v.toNat, by omega⟩
          by_cases huw : u = w
          · have hb : ((u : Int) != (w : Int)) = false := by simp [huw]
            rw [hb]
            simp only [cond_false, andC_out]
            refine .inl ⟨_, m', rfl, Nat.lt_succ_self m', i + 1, rfl, by omega, rfl, by simp only; omega, hX1.congr fun a b h1 h2 => ?_⟩
            rw [ht]
            simp only [List.mem_append, List.mem_singleton]
            constructor
            · rintro (h | ⟨h, h'⟩ | ⟨h, h'⟩)
              · exact .inl h
              · exact .inr (.inl ⟨h, .inl h'⟩)
              · exact .inr (.inr ⟨h, .inl h'⟩)
            · rintro (h | ⟨h, h' | h'⟩ | ⟨h, h' | h'⟩)
              · exact .inl h
              · exact .inr (.inl ⟨h, h'⟩)
              · omega
              · exact .inr (.inr ⟨h, h'⟩)
              · omega
          · have hb : ((u : Int) != (w : Int)) = true := by simp; omega
            have hmn : min (u : Int) (w : Int) = ((min u w : Nat) : Int) := by omega
            have hmx : max (u : Int) (w : Int) = ((max u w : Nat) : Int) := by omega
            rw [hb, hmn, hmx]
            simp only [cond_true]
            obtain ⟨g1, g2⟩ := hX1.add (x := min u w) (y := max u w) (by omega) (by omega)
            have hcg : ∀ a b : Nat, a < b → b < P.length → ((((a < u ∧ NearP r P k a b) ∨ (b < u ∧ NearP r P k b a)) ∨ (a = u ∧ (b : Int) ∈ L.take i) ∨ (b = u ∧ (a : Int) ∈ L.take i)) ∨ (a = min u w ∧ b = max u w) ↔ ((a < u ∧ NearP r P k a b) ∨ (b < u ∧ NearP r P k b a)) ∨ (a = u ∧ (b : Int) ∈ L.take (i + 1)) ∨ (b = u ∧ (a : Int) ∈ L.take (i + 1))) := fun a b h1 h2 => by
              rw [ht]
              simp only [List.mem_append, List.mem_singleton]
              constructor
              · rintro ((h | ⟨h, h'⟩ | ⟨h, h'⟩) | h)
                · exact .inl h
                · exact .inr (.inl ⟨h, .inl h'⟩)
                · exact .inr (.inr ⟨h, .inl h'⟩)
                · by_cases hlt : u < w
                  · exact .inr (.inl ⟨by omega, .inr (by omega)⟩)
                  · exact .inr (.inr ⟨by omega, .inr (by omega)⟩)
              · rintro (h | ⟨h, h' | h'⟩ | ⟨h, h' | h'⟩)
                · exact .inl (.inl h)
                · exact .inl (.inr (.inl ⟨h, h'⟩))
                · exact .inr (by omega)
                · exact .inl (.inr (.inr ⟨h, h'⟩))
                · exact .inr (by omega)
            have hmg := mapP_get X1 (((min u w : Nat) : Int), ((max u w : Nat) : Int))
            by_cases hm : (((min u w : Nat) : Int), ((max u w : Nat) : Int)) ∈ X1
            · rw [hmg.2 hm]
              simp only [Bool.not_true, cond_false, andC_out]
              exact .inl ⟨_, m', rfl, Nat.lt_succ_self m', i + 1, rfl, by omega, rfl, by simp only; omega, (g1 hm).congr hcg⟩
            · have hf : mgetB cells_arr_2_int (mapP X1) (cells_arr_2_int (((min u w : Nat) : Int), ((max u w : Nat) : Int))) = false := Bool.eq_false_iff.2 fun h => hm (hmg.1 h)
              rw [hf]
              simp only [Bool.not_false, cond_true, andC_out]
              rw [grd_p (by simp only [List.length_cons, List.length_nil, maxLen_eq]; omega), andC_out]
              refine .inl ⟨_, m', rfl, Nat.lt_succ_self m', i + 1, rfl, by omega, ?_, by simp only [List.length_append, List.length_cons, List.length_nil]; omega, (g2 hm).congr hcg⟩
              simp [mapP]
      · rintro ⟨X2, M2⟩ ⟨h1, h2, h3⟩
        simp only at h1 h2 h3 ⊢
        rw [h1]
        exact ⟨_, rfl, X2, rfl, h2, h3⟩
  · rintro X ⟨hXl, hX⟩
    obtain ⟨s, s1, s2, s3⟩ := sort_2_int cmp2_ok swo2 X 0 X.length (by omega) hXl (fun _ _ => trivial)
    simp only [List.take_zero, List.nil_append, Nat.zero_add, List.drop_length, List.append_nil, List.drop_zero, List.take_length] at s1 s2
    rw [s1]
    refine ⟨s, rfl, ?_, s2.nodup_iff.2 hX.1, fun p => s2.mem_iff.trans (hX.2 p)⟩
    have hsn : s.Nodup := s2.nodup_iff.2 hX.1
    refine (List.pairwise_and_iff.2 ⟨s3, hsn⟩).imp fun {a b} h => ?_
    obtain ⟨h1, h2⟩ := h
    rw [lt2_not] at h1
    rw [lt2_iff]
    have : ¬ (a.1 = b.1 ∧ a.2 = b.2) := fun hh => h2 (Prod.ext hh.1 hh.2)
    omega
end
open Go.Proofs
theorem soE_uniq : ∀ (a b : List S_RoadmapEdge), SoE a → SoE b → (∀ e, e ∈ a ↔ e ∈ b) → a = b
  | [], [], _, _, _ => rfl
  | [], y :: b, _, _, h => by have := (h y).2 (List.mem_cons_self ..); cases this
  | x :: a, [], _, _, h => by have := (h x).1 (List.mem_cons_self ..); cases this
  | x :: a, y :: b, ha, hb, h => by
    obtain ⟨a1, a2⟩ := List.pairwise_cons.1 ha
    obtain ⟨b1, b2⟩ := List.pairwise_cons.1 hb
    have hxy : x = y := by
      rcases List.mem_cons.1 ((h x).1 (List.mem_cons_self ..)) with e | e
      · exact e
      · rcases List.mem_cons.1 ((h y).2 (List.mem_cons_self ..)) with e' | e'
        · exact e'.symm
        · have h1 := b1 x e
          have h2 := a1 y e'
          rw [ltE_iff] at h1 h2; omega
    subst hxy
    have : a = b := soE_uniq a b a2 b2 fun e => by
      constructor
      · intro he
        rcases List.mem_cons.1 ((h e).1 (List.mem_cons_of_mem _ he)) with rfl | h'
        · have := a1 _ he; rw [ltE_iff] at this; omega
        · exact h'
      · intro he
        rcases List.mem_cons.1 ((h e).2 (List.mem_cons_of_mem _ he)) with rfl | h'
        · have := b1 _ he; rw [ltE_iff] at this; omega
        · exact h'
    rw [this]
theorem MapE.uniq {r : S_Robot} {P : List (List Int)} {S : Nat → Nat → Prop} {a b : List S_RoadmapEdge} (ha : MapE r P S a) (hb : MapE r P S b) : a = b :=
  soE_uniq a b ha.1 hb.1 fun e => (ha.2 e).trans (hb.2 e).symm
theorem untested_e (r : S_Robot) (P : List (List Int)) (hPn : ∀ c ∈ P, c.length < 4294967296) {a b : Nat} (ha : a < P.length) (hb : b < P.length) : (roadmap_untested_C r P (a : Int) (b : Int)).o = some (newE r P (a : Int) (b : Int)) := by
  have er : (⟨r.Joints, r.Masses⟩ : S_Robot) = r := rfl
  show (roadmap_untested_T r P (a : Int) (b : Int)).run NN = _
  simp only [roadmap_untested_T, T.run, er, Int.toNat_natCast]
  rw [grd_p (by omega), grd_p (by omega), config_dist r _ _ (hPn _ (getD_mem ha)) (hPn _ (getD_mem hb))]; rfl
theorem new_e (r : S_Robot) (pts : List (List Int)) (k : Int) (hp : pts.length ≤ 900) :
    ∃ m, (roadmap_New_C r pts k).o = some m ∧ (robotV r ≠ 0 → m.Points = [] ∧ m.Edges = []) ∧ (robotV r = 0 → m.Points = disL r pts pts.length ∧ ∃ es, m.Edges = es.take 8192 ∧ MapE r m.Points (JoinP r m.Points k) es) := by
  have er : (⟨r.Joints, r.Masses⟩ : S_Robot) = r := rfl
  show ∃ m, (roadmap_New_T r pts k).run NN = some m ∧ _
  simp only [roadmap_New_T, T.run, er, robot_Check_e, distinct_e r pts (by omega), Option.bind_some]
  by_cases hr : robotV r ≠ 0
  · rw [bif_neq hr]
    exact ⟨_, rfl, fun _ => ⟨rfl, rfl⟩, fun h => absurd h hr⟩
  have hr : robotV r = 0 := Classical.not_not.1 hr
  rw [bif_nne hr]
  have hPl := disL_len r pts pts.length
  have hin := disL_in r pts pts.length
  have hnd := disL_nodup r pts pts.length
  have hPn : ∀ c ∈ disL r pts pts.length, c.length < 4294967296 := fun c hc => by have := inside_len (hin c hc); omega
  obtain ⟨P, hP⟩ : ∃ P, P = disL r pts pts.length := ⟨_, rfl⟩
  rw [← hP] at hPl hin hnd hPn ⊢
  by_cases hk : k < 1
  · rw [bif_dpos hk]
    refine ⟨_, rfl, fun h => absurd hr h, fun _ => ⟨rfl, [], rfl, (MapE.nil r P).congr fun a b _ _ => ⟨fun h => h.elim, fun h => ?_⟩⟩⟩
    unfold JoinP NearP at h
    rcases h with h | h <;> (have := h.2; omega)
  · rw [bif_dneg hk]
    obtain ⟨ps, e1, h1, h2⟩ := nearPairs_e (r := r) hr (by omega) hin hnd (k := k) (by omega)
    have hes : MapE r P (JoinP r P k) (ps.map fun p => newE r P p.1 p.2) := by
      refine ⟨List.Pairwise.map _ (fun a b h => ?_) h1, fun e => ?_⟩
      · rw [lt2_iff] at h
        rw [ltE_iff]; exact h
      · rw [List.mem_map]
        constructor
        · rintro ⟨p, hp, rfl⟩
          obtain ⟨a, b, q1, q2, q3, rfl⟩ := (h2.2 p).1 hp
          exact ⟨a, b, q1, q2, q3, rfl⟩
        · rintro ⟨a, b, q1, q2, q3, rfl⟩
          exact ⟨_, (h2.2 _).2 ⟨a, b, q1, q2, q3, rfl⟩, rfl⟩
    rw [e1]
    simp only [Option.bind_some]
    rw [grd_p (by omega)]
    have z0 : (0 : Int).toNat = 0 := rfl
    have hmin : (min (ps.length : Int) 8192).toNat = min ps.length 8192 := by omega
    have htk : (ps.drop 0).take (min ps.length 8192 - 0) = ps.take 8192 := by
      rw [List.drop_zero, Nat.sub_zero, Nat.min_comm, List.take_eq_take_iff]; omega
    simp only [z0, hmin, htk]
    obtain ⟨R, hR⟩ : ∃ R, R = ps.take 8192 := ⟨_, rfl⟩
    have hRl : R.length ≤ 8192 := by rw [hR, List.length_take]; omega
    have hRm : ∀ p ∈ R, p ∈ ps := fun p hp => List.mem_of_mem_take (by rw [← hR]; exact hp)
    rw [← hR]
    refine ⟨⟨P, R.map fun p => newE r P p.1 p.2⟩, ?_, fun h => absurd hr h, fun _ => ⟨rfl, _, ?_, hes⟩⟩
    · refine (loop_to (fun j => ((R.take j).map (fun p => newE r P p.1 p.2), (j : Int))) (R.map fun p => newE r P p.1 p.2) R.length (by simp [nl]) (by show _ < 4294967296; omega) (fun j hj => ?_) ?_).trans rfl
      · obtain ⟨a, b, q1, q2, -, q4⟩ := (h2.2 _).1 (hRm _ (getD_mem hj))
        have ht : R.take (j + 1) = R.take j ++ [R.getD j default] := take_snoc hj
        dsimp only
        rw [bif_dpos (by omega), grd_p (by omega), Int.toNat_natCast, ht, q4]
        dsimp only
        rw [untested_e r P hPn (by omega) q2]
        simp only [Option.bind_some]
        rw [grd_p (by simp only [List.length_cons, List.length_nil, List.length_map, List.length_take, maxLen_eq]; omega), wn (by omega)]
        simp
      · dsimp only; rw [bif_dneg (by omega), List.take_length]
    · rw [hR, List.map_take]
open Go.Proofs
theorem dst_symm {r : S_Robot} (hr : RoV r) {p q : List Int} (hp : QOk r.Joints.length p) (hq : QOk r.Joints.length q) : dstV r p q = dstV r q p := by
  rw [dst_eq hr hp hq, dst_eq hr hq hp]
  have : ∀ n, sumR r p q n = sumR r q p n := fun n => by
    induction n with
    | zero => rfl
    | succ n ih =>
      rw [sumR, sumR, ih]
      have : aB (q.getD n default) (p.getD n default) = aB (p.getD n default) (q.getD n default) := by unfold aB; omega
      rw [this]
  exact this _
theorem nearer_e {r : S_Robot} {P : List (List Int)} (hr : RoV r) (hl : P.length ≤ 900) (hin : ∀ c ∈ P, insideV r c = true) {u v : Nat} (hu : u < P.length) (hv : v < P.length) : (law25_nearer_C r P (u : Int) (v : Int)).o = some ((cntD (dQ r P (P.getD u default)) (u : Int) P.length v : Nat) : Int) := by
  have er : (⟨r.Joints, r.Masses⟩ : S_Robot) = r := rfl
  have hq : ∀ t, t < P.length → QOk r.Joints.length (P.getD t default) := fun t ht => inside_ok (hin _ (getD_mem ht))
  have hd : ∀ t, t < P.length → (ref10_Distance_C r (P.getD u default) (P.getD t default)).o = some (dQ r P (P.getD u default) t) := fun t ht => by
    have l1 := (hq u hu).1
    have l2 := (hq t ht).1
    have hJ := (robotV_ok hr).2.1
    rw [ref_dist r _ _ (by omega) (by omega), dst_symm hr (hq u hu) (hq t ht)]; rfl
  show (law25_nearer_T r P (u : Int) (v : Int)).run NN = _
  simp only [law25_nearer_T, T.run, er, Int.toNat_natCast]
  rw [grd_p (by omega), grd_p (by omega), hd v hv]
  simp only [Option.bind_some]
  refine (loop_to (fun j => (((cntD (dQ r P (P.getD u default)) (u : Int) j v : Nat) : Int), (j : Int))) ((cntD (dQ r P (P.getD u default)) (u : Int) P.length v : Nat) : Int) P.length rfl (by show _ < 4294967296; omega) (fun j hj => ?_) ?_).trans rfl
  · dsimp only
    have hle : cntD (dQ r P (P.getD u default)) (u : Int) j v ≤ j := by
      unfold cntD ixs
      exact Nat.le_trans (List.length_filter_le _ _) (Nat.le_trans (List.length_filter_le _ _) (by simp))
    have hs : cntD (dQ r P (P.getD u default)) (u : Int) (j + 1) v = cntD (dQ r P (P.getD u default)) (u : Int) j v + (if j ≠ u ∧ (dQ r P (P.getD u default) j < dQ r P (P.getD u default) v ∨ (dQ r P (P.getD u default) j = dQ r P (P.getD u default) v ∧ j < v)) then 1 else 0) := by
      unfold cntD
      rw [ixs_succ]
      by_cases c : j = u
      · subst c
        rw [if_pos (by simp), if_neg (fun h => h.1 rfl)]; rfl
      · rw [if_neg (by simp; omega), List.filter_append, List.length_append, List.filter_cons]
        by_cases c2 : dQ r P (P.getD u default) j < dQ r P (P.getD u default) v ∨ (dQ r P (P.getD u default) j = dQ r P (P.getD u default) v ∧ j < v)
        · rw [if_pos (decide_eq_true c2), if_pos ⟨c, c2⟩]; rfl
        · rw [if_neg (by rw [decide_eq_true_eq]; exact c2), if_neg (fun h => c2 h.2)]; rfl
    rw [hs, bif_dpos (by omega), grd_p (by omega), grd_p (by omega), Int.toNat_natCast, hd j hj]
    simp only [Option.bind_some]
    have hxy : j = v → dQ r P (P.getD u default) j = dQ r P (P.getD u default) v := fun h => by rw [h]
    generalize dQ r P (P.getD u default) j = x at hxy ⊢
    generalize dQ r P (P.getD u default) v = y at hxy ⊢
    rw [andC_g (y := decide (j ≠ u ∧ (x < y ∨ (x = y ∧ j < v)))) (by
      by_cases c1 : j = u
      · rw [bif_nne (by omega), decide_eq_false (fun h => h.1 c1)]
      · rw [bif_neq (by omega)]
        by_cases c2 : j = v
        · have := hxy c2
          rw [bif_nne (by omega), decide_eq_false (by omega)]
        · rw [bif_neq (by omega)]
          by_cases c3 : x < y
          · rw [bif_dpos c3, decide_eq_true ⟨c1, .inl c3⟩]
          · rw [bif_dneg c3]
            by_cases c4 : x = y
            · rw [bif_eq c4]
              congr 2
              rw [decide_eq_decide]; omega
            · rw [bif_ne c4, decide_eq_false (by omega)])]
    by_cases c : j ≠ u ∧ (x < y ∨ (x = y ∧ j < v))
    · rw [if_pos c, bif_dpos c, andC_out, wn (by omega), wn (by omega)]
    · rw [if_neg c, bif_dneg c, andC_out, wn (by omega)]; rfl
  · dsimp only; rw [bif_dneg (by omega)]
theorem edgeOf_e (m : S_Roadmap) (hm : m.Edges.length < 4294967296) {u v : Nat} (huv : u < v) : ∃ z, (ref23_EdgeOf_C m (u : Int) (v : Int)).o = some z ∧ (decide (z ≥ 0) = decide (∃ e ∈ m.Edges, e.U = (u : Int) ∧ e.V = (v : Int))) := by
  have hmn : min (u : Int) (v : Int) = (u : Int) := by omega
  have hmx : max (u : Int) (v : Int) = (v : Int) := by omega
  refine ⟨match scan (fun i => sw (decide ((m.Edges.getD i default).U = (u : Int) ∧ (m.Edges.getD i default).V = (v : Int))) (i : Int)) m.Edges.length 0 with | some x => x | none => -1, ?_, ?_⟩
  · show (ref23_EdgeOf_T m (u : Int) (v : Int)).run NN = _
    simp only [ref23_EdgeOf_T, T.run, hmn, hmx]
    refine (scanI (fun i => sw (decide ((m.Edges.getD i default).U = (u : Int) ∧ (m.Edges.getD i default).V = (v : Int))) (i : Int)) m.Edges.length hm (fun j hj => ?_) (by rw [bif_dneg (by omega)])).trans ?_
    · rw [bif_dpos (by omega), grd_p (by omega), grd_p (by omega), wn (by omega), Int.toNat_natCast, ← sw_fin]
      by_cases c1 : (m.Edges.getD j default).U = (u : Int)
      · rw [bif_eq c1, andC_out]
        by_cases c2 : (m.Edges.getD j default).V = (v : Int)
        · rw [decide_eq_true ⟨c1, c2⟩, beq_iff_eq.2 c2]
        · have : ((m.Edges.getD j default).V == (v : Int)) = false := by simpa using c2
          rw [decide_eq_false (fun h => c2 h.2), this]
      · rw [bif_ne c1, andC_out, decide_eq_false (fun h => c1 h.1)]
    · cases scan (fun i => sw (decide ((m.Edges.getD i default).U = (u : Int) ∧ (m.Edges.getD i default).V = (v : Int))) (i : Int)) m.Edges.length 0 <;> rfl
  · refine (scan_ge (g := fun i => decide ((m.Edges.getD i default).U = (u : Int) ∧ (m.Edges.getD i default).V = (v : Int))) (n := m.Edges.length)).trans ?_
    rw [Bool.eq_iff_iff, decide_eq_true_eq]
    unfold noneB
    simp only [Bool.not_eq_true', decide_eq_false_iff_not]
    constructor
    · intro h
      simp only [Classical.not_forall] at h
      obtain ⟨i, hi, he⟩ := h
      refine ⟨_, getD_mem hi, ?_⟩
      simpa using he
    · rintro ⟨e, he, h1, h2⟩ h
      obtain ⟨i, hi, rfl⟩ := List.getElem_of_mem he
      have := h i hi
      simp only [decide_eq_false_iff_not, List.getD_eq_getElem?_getD, List.getElem?_eq_getElem hi, Option.getD_some] at this
      exact this ⟨h1, h2⟩
instance decNear (r : S_Robot) (P : List (List Int)) (k : Int) (u v : Nat) : Decidable (NearP r P k u v) := by unfold NearP; infer_instance
instance decJoin (r : S_Robot) (P : List (List Int)) (k : Int) (u v : Nat) : Decidable (JoinP r P k u v) := by unfold JoinP; infer_instance
theorem roadmapNearest_true (l m : List Int) (n k : Int) (hl : l.length < 4294967296) (hm : m.length < 4294967296) : (law25_RoadmapNearest_C l m n k).o = some true := by
  show (law25_RoadmapNearest_T l m n k).run NN = _
  have em : ∀ m : S_Roadmap, (⟨m.Points, m.Edges⟩ : S_Roadmap) = m := fun _ => rfl
  have er : ∀ r : S_Robot, (⟨r.Joints, r.Masses⟩ : S_Robot) = r := fun _ => rfl
  obtain ⟨r, e1, hr⟩ := make_Robot_x l hl
  have hJ := hr.2.1
  have hw1 : IntKind.i64.wrap (1 + k % 3) = 1 + k % 3 := w64 (by omega) (by omega)
  obtain ⟨cn, hcn, hcn2⟩ : ∃ cn : Nat, IntKind.i64.wrap (1 + n % 7) = (cn : Int) ∧ cn ≤ 7 := ⟨(1 + n % 7).toNat, by rw [w64 (by omega) (by omega)]; omega, by omega⟩
  obtain ⟨p, ep, lp, hpp⟩ := make_Configs_x r cn (by omega) m hm hr
  have hpn : ∀ c ∈ p, c.length < 4294967296 := fun c hc => by have := hpp c hc; omega
  obtain ⟨x, x1, x2, x3⟩ := new_e r p (1 + k % 3) (by omega)
  obtain ⟨⟨P', E'⟩, y1, y2, y3⟩ := newMap_e r p (1 + k % 3) (by omega) hpn
  simp only [law25_RoadmapNearest_T, T.run, em, er, e1, make_Round_e (x := k) (k := 3) (by decide) (by decide), make_Round_e (x := n) (k := 7) (by decide) (by decide), Option.bind_some, hw1, hcn, ep, x1, awake25]
  by_cases h0 : robotV r = 0
  · obtain ⟨z1, es, z2, z3⟩ := x3 h0
    obtain ⟨w1, fs, w2, w3, w4⟩ := y3 h0
    simp only at w1 w2 w3 w4
    have hPP : P' = x.Points := by rw [w1, z1]
    subst hPP
    have hef : fs = es := w4.uniq z3
    subst hef
    have hl2 := disL_len r p p.length
    have hin : ∀ c ∈ x.Points, insideV r c = true := fun c hc => by rw [z1] at hc; exact disL_in r p _ c hc
    rw [← z1] at hl2
    have hsq : x.Points.length * x.Points.length ≤ 7 * 7 := Nat.mul_le_mul (by omega) (by omega)
    have hfe : fs.take 8192 = fs := List.take_of_length_le (by omega)
    rw [hfe] at z2
    have hr0 : RoV r := h0
    refine (scanI (fun _ => none) x.Points.length (by omega) (fun u hu => ?_) (by rw [bif_dneg (by omega)])).trans ?_
    · rw [bif_dpos (by omega), wn (by omega)]
      refine loop_o U0.u (fun m (y : Int) => ∃ v : Nat, y = (v : Int) ∧ u < v ∧ v ≤ x.Points.length ∧ x.Points.length ≤ v + m) x.Points.length ⟨u + 1, rfl, by omega, by omega, by omega⟩ (by omega) ?_
      rintro m y ⟨v, rfl, v1, v2, v3⟩
      by_cases hv : v < x.Points.length
      · obtain ⟨z, q1, q2⟩ := edgeOf_e x (by rw [z2]; omega) (u := u) (v := v) v1
        rw [bif_dpos (by omega), nearer_e hr0 (by omega) hin hu hv, nearer_e hr0 (by omega) hin hv hu]
        simp only [Option.bind_some]
        rw [andC_g (y := decide (JoinP r x.Points (1 + k % 3) u v)) (by
          have i1 : v ∈ ixs (u : Int) x.Points.length := mem_ixs.2 ⟨hv, by omega⟩
          have i2 : u ∈ ixs (v : Int) x.Points.length := mem_ixs.2 ⟨hu, by omega⟩
          by_cases c : ((cntD (dQ r x.Points (x.Points.getD u default)) (u : Int) x.Points.length v : Nat) : Int) < 1 + k % 3
          · rw [bif_dpos c, decide_eq_true (p := JoinP r x.Points (1 + k % 3) u v) (.inl ⟨i1, c⟩)]
          · rw [bif_dneg c]
            congr 2
            exact decide_eq_decide.2 ⟨fun h => .inr ⟨i2, h⟩, fun h => (h.resolve_left fun h' => c h'.2).2⟩), q1]
        simp only [Option.bind_some]
        rw [q2]
        have hiff : (∃ e ∈ x.Edges, e.U = (u : Int) ∧ e.V = (v : Int)) ↔ JoinP r x.Points (1 + k % 3) u v := by
          rw [z2]
          constructor
          · rintro ⟨e, he, h1, h2⟩
            obtain ⟨a, b, -, -, h3, rfl⟩ := (z3.2 e).1 he
            simp only [newE] at h1 h2
            have e1 : a = u := by omega
            have e2 : b = v := by omega
            rw [e1, e2] at h3; exact h3
          · intro h
            exact ⟨_, (z3.2 _).2 ⟨u, v, v1, hv, h, rfl⟩, rfl, rfl⟩
        have hq : decide (∃ e ∈ x.Edges, e.U = (u : Int) ∧ e.V = (v : Int)) = decide (JoinP r x.Points (1 + k % 3) u v) := decide_eq_decide.2 hiff
        rw [hq]
        simp only [beq_self_eq_true, Bool.not_true, cond_false]
        rw [wn (by omega)]
        exact .inl ⟨_, m - 1, rfl, by omega, v + 1, rfl, by omega, by omega, by omega⟩
      · rw [bif_dneg (by omega)]
        exact .inr rfl
    · rw [(scan_none _ _).2 (fun _ _ _ => rfl)]
  · obtain ⟨z1, z2⟩ := x2 h0
    rw [z1]
    refine (scanI (fun _ => none) 0 (by omega) (fun u hu => by omega) (by rw [bif_dneg (by simp)])).trans ?_
    rw [(scan_none _ _).2 (fun _ _ _ => rfl)]
end Go.Abs
