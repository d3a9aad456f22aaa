/-
  DT (a part of a claim: our own text).
-/
import Derived.Test.YtkjkbdobenmgbaaGreatXNDS
import Derived.Test.YtkjkbdobenmgbaaGreatXNDL2
namespace Go.Abs
open Go.Proofs
open Go.Sort (SWO)
def vK (P : List (List Int)) (ax x : Int) : Int := (P.getD x.toNat default).getD ax.toNat default
def ltK (P : List (List Int)) (ax x y : Int) : Bool := decide (vK P ax x < vK P ax y ∨ (vK P ax x = vK P ax y ∧ x < y))
theorem ltK_iff {P : List (List Int)} {ax x y : Int} : ltK P ax x y = true ↔ vK P ax x < vK P ax y ∨ (vK P ax x = vK P ax y ∧ x < y) := by unfold ltK; rw [decide_eq_true_eq]
theorem ltK_not {P : List (List Int)} {ax x y : Int} : ltK P ax x y = false ↔ ¬ (vK P ax x < vK P ax y ∨ (vK P ax x = vK P ax y ∧ x < y)) := by unfold ltK; rw [decide_eq_false_iff_not]
theorem swoK (P : List (List Int)) (ax : Int) : SWO (ltK P ax) where
  irrefl x := ltK_not.2 (by omega)
  trans x y z h1 h2 := by rw [ltK_iff] at *; omega
  ntrans x y z h1 h2 := by rw [ltK_not] at *; omega
theorem Gzy (a b : Int) : (hzy a b).o = some (cmpI' a b) := by
  have h : ∀ x, (izy x).o = some (x != x) := fun _ => rfl
  show (iz0 a b).run NN = _
  simp only [iz0, T.run, h, Option.bind_some, bne_self_eq_false, cond_false]
  unfold cmpI'
  by_cases c1 : a < b
  · rw [az7 c1, if_pos c1]
  · rw [az6 c1, if_neg c1]
    by_cases c2 : a > b
    · rw [az7 c2, if_pos c2]
    · rw [az6 c2, if_neg c2]
def PtsOk (P : List (List Int)) (J : Nat) : Prop := P.length ≤ 1000 ∧ (1 ≤ J ∧ J ≤ 10) ∧ ∀ c ∈ P, c.length = J ∧ ∀ x ∈ c, -4194304 ≤ x ∧ x ≤ 4194304
def InP (P : List (List Int)) (x : Int) : Prop := 0 ≤ x ∧ x < (P.length : Int)
theorem PtsOk.at {P : List (List Int)} {J : Nat} (h : PtsOk P J) {x : Int} (hx : InP P x) : (P.getD x.toNat default).length = J := (h.2.2 _ (azl (by unfold InP at hx; omega))).1
theorem Dzz {P : List (List Int)} {J : Nat} (h : PtsOk P J) {ax x y : Int} (ha : 0 ≤ ax ∧ ax < (J : Int)) (hx : InP P x) (hy : InP P y) : ∃ z, (hzn P ax x y).o = some z ∧ decide (z < 0) = ltK P ax x y := by
  have l1 := h.at hx
  have l2 := h.at hy
  refine ⟨if cmpI' (vK P ax x) (vK P ax y) ≠ 0 then cmpI' (vK P ax x) (vK P ax y) else cmpI' x y, ?_, ?_⟩
  · show (jzz P ax x y).run NN = _
    simp only [jzz, T.run]
    unfold InP at hx hy
    have hI : (bz6 x y).o = some (cmpI' x y) := cmpI x y
    rw [az4 (by omega), az4 (by omega), az4 (by omega), az4 (by omega), Gzy, hI]
    simp only [Option.bind_some]
    rw [Azw]; rfl
  · rw [Bool.eq_iff_iff, decide_eq_true_eq, ltK_iff]
    unfold cmpI'
    generalize vK P ax x = a
    generalize vK P ax y = b
    split <;> split <;> (try split) <;> omega
theorem Hzs {P : List (List Int)} {J : Nat} (h : PtsOk P J) {ax : Int} (ha : 0 ≤ ax ∧ ax < (J : Int)) : nz7 (InP P) (fzy P ax) (ltK P ax) := fun x y hx hy => by
  obtain ⟨z, z1, z2⟩ := Dzz h ha hx hy
  refine ⟨z, ?_, z2⟩
  show (hz8 x y P ax).run NN = _
  simp only [hz8, T.run, z1, Option.bind_some]
theorem Ezk (c : List Int) (hl : c.length ≤ 10) (hc : ∀ x ∈ c, -4194304 ≤ x ∧ x ≤ 4194304) : (hzo c).o = some true := by
  show (kz0 c).run NN = _
  simp only [kz0, T.run]
  refine (jzp (fun _ => none) c.length (by omega) (fun j hj => ?_) (by rw [az6 (by omega)])).trans ?_
  · have := hc _ (azl hj)
    rw [az7 (by omega), az4 (by omega), Int.toNat_natCast, az6 (by omega), decide_eq_false (by omega), az5, wn (by omega)]; rfl
  · rw [(dzv _ _).2 (fun _ _ _ => rfl)]
theorem wz9 {P : List (List Int)} {J : Nat} (h : PtsOk P J) : (gz0 P).o = some true := by
  obtain ⟨h1, h2, h3⟩ := h
  show (gz1 P).run NN = _
  simp only [gz1, T.run]
  rw [az6 (by omega)]
  refine (jzp (fun _ => none) P.length (by omega) (fun j hj => ?_) (by rw [az6 (by omega)])).trans ?_
  · obtain ⟨q1, q2⟩ := h3 _ (azl hj)
    obtain ⟨q3, -⟩ := h3 _ (azl (show 0 < P.length by omega))
    have z0 : (0 : Int).toNat = 0 := rfl
    rw [az7 (by omega), az4 (by omega), Int.toNat_natCast, z0, az6 (by omega), az6 (by omega), az4 (by omega), cz9 (by omega), Ezk _ (by omega) q2]
    simp only [Option.bind_some, az5, Bool.not_true, cond_false]
    rw [wn (by omega)]
  · rw [(dzv _ _).2 (fun _ _ _ => rfl)]
abbrev nd (Q : List aze) (j : Nat) : aze := Q.getD j default
inductive KD (P : List (List Int)) (J : Nat) (Q : List aze) : Int → Nat → Nat → Prop
  | nil (b : Nat) : KD P J Q (-1) b b
  | node (b m e : Nat) (hb : b < Q.length) (h1 : KD P J Q (nd Q b).Low (b + 1) m) (h2 : KD P J Q (nd Q b).High m e) (ha : 0 ≤ (nd Q b).Axis ∧ (nd Q b).Axis < (J : Int)) (hp : InP P (nd Q b).Point)
    (o1 : ∀ j, b + 1 ≤ j → j < m → ltK P (nd Q b).Axis (nd Q j).Point (nd Q b).Point = true) (o2 : ∀ j, m ≤ j → j < e → ltK P (nd Q b).Axis (nd Q b).Point (nd Q j).Point = true) : KD P J Q (b : Int) b e
theorem KD.le {P : List (List Int)} {J : Nat} {Q : List aze} {i : Int} {b e : Nat} (h : KD P J Q i b e) : b ≤ e := by
  induction h with
  | nil b => exact Nat.le_refl _
  | node b m e hb h1 h2 ha hp o1 o2 i1 i2 => omega
theorem KD.congr {P : List (List Int)} {J : Nat} {Q Q' : List aze} {i : Int} {b e : Nat} (h : KD P J Q i b e) (he : e ≤ Q'.length) (hT : ∀ j, b ≤ j → j < e → nd Q j = nd Q' j) : KD P J Q' i b e := by
  induction h with
  | nil b => exact .nil b
  | node b m e hb h1 h2 ha hp o1 o2 i1 i2 =>
    have l1 := h1.le
    have l2 := h2.le
    have e0 := hT b (Nat.le_refl _) (by omega)
    have k1 := i1 (by omega) fun j h1 h2 => hT j (by omega) (by omega)
    have k2 := i2 he fun j h1 h2 => hT j (by omega) h2
    rw [e0] at k1 k2 ha hp o1 o2
    exact .node b m e (by omega) k1 k2 ha hp (fun j h1 h2 => by rw [← hT j (by omega) (by omega)]; exact o1 j h1 h2) (fun j h1 h2 => by rw [← hT j (by omega) (by omega)]; exact o2 j h1 h2)
theorem uzn {Q U : List aze} {j : Nat} (h : j < Q.length) : nd (Q ++ U) j = nd Q j := by
  simp [nd, List.getD_eq_getElem?_getD, List.getElem?_append_left h]
theorem jzn {Q U : List aze} {j : Nat} (h : Q.length ≤ j) : nd (Q ++ U) j = nd U (j - Q.length) := by
  simp [nd, List.getD_eq_getElem?_getD, List.getElem?_append_right h]
theorem Hze {U : List aze} {j : Nat} (h : j < U.length) : (nd U j).Point ∈ U.map (·.Point) := List.mem_map.2 ⟨_, azl h, rfl⟩
theorem wzd {P : List (List Int)} {J : Nat} (hP : PtsOk P J) : ∀ (N : Nat) (X R Y : List Int) (lv : Nat) (Q : List aze), R.length < N → (∀ x ∈ R, InP P x) → R.Nodup → lv + R.length ≤ 2000 → Q.length + R.length ≤ 2000 → R.length ≤ 1000 →
    ∃ s seg i, (RecS.fix dzp N).o (X ++ R ++ Y, X.length, R.length, (lv : Int), P, Q) = some (i, X ++ s ++ Y, Q ++ seg) ∧ s.Perm R ∧ seg.length = R.length ∧ (seg.map (·.Point)).Perm R ∧ KD P J (Q ++ seg) i Q.length (Q.length + R.length)
  | 0, _, _, _, _, _, h, _, _, _, _, _ => by omega
  | N + 1, X, R, Y, lv, Q, hN, hR, hnd, hlv, hTl, hRl => by
    have ho : (RecS.fix dzp (N + 1)).o (X ++ R ++ Y, X.length, R.length, (lv : Int), P, Q) = (izg (RecS.fix dzp N) (X ++ R ++ Y) X.length R.length (lv : Int) P Q).run NN := rfl
    rw [ho]
    simp only [izg, T.run]
    by_cases h0 : R.length = 0
    · obtain rfl := List.length_eq_zero_iff.1 h0
      rw [fzh (by simp)]
      exact ⟨[], [], -1, by simp, List.Perm.refl _, rfl, List.Perm.refl _, .nil _⟩
    rw [ezt (by omega)]
    obtain ⟨hp1, hp2, hp3⟩ := hP
    have hP : PtsOk P J := ⟨hp1, hp2, hp3⟩
    have hpl : 0 < P.length := by
      obtain ⟨x, hx⟩ := List.exists_mem_of_length_pos (show 0 < R.length by omega)
      have := hR x hx; unfold InP at this; omega
    have hJ := (hp3 _ (azl hpl)).1
    have z0 : (0 : Int).toNat = 0 := rfl
    have eax : Int.tmod (lv : Int) (J : Int) = ((lv % J : Nat) : Int) := by rw [Int.tmod_eq_emod_of_nonneg (by omega)]; omega
    have hax : lv % J < J := Nat.mod_lt _ (by omega)
    have e2 : IntKind.i64.wrap (Int.tdiv (R.length : Int) 2) = ((R.length / 2 : Nat) : Int) := by rw [Int.tdiv_eq_ediv_of_nonneg (by omega), w64 (by omega) (by omega)]; omega
    have e3 : IntKind.i64.wrap (((R.length / 2 : Nat) : Int) + 1) = ((R.length / 2 + 1 : Nat) : Int) := wn (by omega)
    have e4 : IntKind.i64.wrap ((lv : Int) + 1) = ((lv + 1 : Nat) : Int) := wn (by omega)
    simp only [z0, hJ, eax, e2, e3, e4, Int.toNat_natCast, Nat.add_zero, Nat.sub_zero]
    have hdr : (X ++ R ++ Y).drop X.length = R ++ Y := by rw [List.append_assoc, List.drop_left]
    have htk : ((X ++ R ++ Y).drop X.length).take R.length = R := by rw [hdr, List.take_left]
    obtain ⟨s, s1, s2, s3⟩ := Gzs P ((lv % J : Nat) : Int) (Hzs hP ⟨by omega, by omega⟩) (swoK P _) (X ++ R ++ Y) X.length R.length (by simp) (by omega) (by rw [htk]; exact hR)
    rw [htk] at s2
    have etk : (X ++ R ++ Y).take X.length = X := by rw [List.append_assoc, List.take_left]
    have edr : (X ++ R ++ Y).drop (X.length + R.length) = Y := by rw [← List.length_append, List.drop_left]
    rw [etk, edr] at s1
    rw [az4 (by omega), az4 (by omega), s1]
    simp only [Option.bind_some]
    have hsl : s.length = R.length := s2.length_eq
    obtain ⟨h, hh⟩ : ∃ h, h = R.length / 2 := ⟨_, rfl⟩
    rw [← hh]
    have hlt : h < s.length := by omega
    obtain ⟨p, hpv⟩ : ∃ p, p = s.getD h default := ⟨_, rfl⟩
    have hsp : s = s.take h ++ p :: s.drop (h + 1) := by
      conv => lhs; rw [← List.take_append_drop h s]
      rw [List.drop_eq_getElem_cons hlt, hpv, List.getD_eq_getElem?_getD, List.getElem?_eq_getElem hlt, Option.getD_some]
    have hl1 : (s.take h).length = h := by rw [List.length_take]; omega
    have hl2 : (s.drop (h + 1)).length = R.length - (h + 1) := by rw [List.length_drop]; omega
    generalize s.take h = A at *
    generalize s.drop (h + 1) = B at *
    have hgp : (X ++ s ++ Y).getD (X.length + h) default = p := by
      rw [hsp]; simp [List.getD_eq_getElem?_getD, ← hl1, List.getElem?_append]
    have hXs : (X ++ s ++ Y).length = X.length + R.length + Y.length := by simp only [List.length_append, hsl]
    have hs_nd : s.Nodup := s2.nodup_iff.2 hnd
    rw [hsp] at hs_nd s3
    obtain ⟨n1, n2, n3⟩ := List.nodup_append.1 hs_nd
    obtain ⟨n4, n5⟩ := List.nodup_cons.1 n2
    obtain ⟨w1, w2, w3⟩ := List.pairwise_append.1 s3
    have w4 := (List.pairwise_cons.1 w2).1
    have hS : ∀ x ∈ A ++ p :: B, InP P x := fun x hx => hR x (s2.mem_iff.1 (by rw [hsp]; exact hx))
    rw [az4 (by omega), az4 (by omega), hgp]
    obtain ⟨D, hD⟩ : ∃ D : aze, D = ⟨p, ((lv % J : Nat) : Int), 0, 0⟩ := ⟨_, rfl⟩
    rw [← hD, az4 (by simp only [List.length_cons, List.length_nil, azt]; omega), az4 (by omega)]
    have ea : X ++ s ++ Y = X ++ A ++ (p :: B ++ Y) := by rw [hsp]; simp
    obtain ⟨sA, gA, iA, a1, a2, a3, a4, a5⟩ := wzd hP N X A (p :: B ++ Y) (lv + 1) (Q ++ [D]) (by omega) (fun x hx => hS x (List.mem_append_left _ hx)) n1 (by omega) (by simp; omega) (by omega)
    have hcA : ((RecS.fix dzp N).C (X ++ s ++ Y, X.length, h, ((lv + 1 : Nat) : Int), P, Q ++ [D])).o = some (iA, X ++ sA ++ (p :: B ++ Y), Q ++ [D] ++ gA) := by
      rw [ea, ← hl1]; exact a1
    rw [hcA]
    simp only [Option.bind_some]
    have hslA : sA.length = A.length := a2.length_eq
    have eb : X ++ sA ++ (p :: B ++ Y) = (X ++ sA ++ [p]) ++ B ++ Y := by simp
    obtain ⟨sB, gB, iB, b1, b2, b3, b4, b5⟩ := wzd hP N (X ++ sA ++ [p]) B Y (lv + 1) (Q ++ [D] ++ gA) (by omega) (fun x hx => hS x (by simp [hx])) n5 (by omega) (by simp; omega) (by omega)
    have hcB : ((RecS.fix dzp N).C (X ++ sA ++ (p :: B ++ Y), X.length + (h + 1), R.length - (h + 1), ((lv + 1 : Nat) : Int), P, Q ++ [D] ++ gA)).o = some (iB, (X ++ sA ++ [p]) ++ sB ++ Y, Q ++ [D] ++ gA ++ gB) := by
      have : X.length + (h + 1) = (X ++ sA ++ [p]).length := by simp; omega
      rw [eb, this, ← hl2]; exact b1
    rw [az4 (by omega), hcB]
    simp only [Option.bind_some]
    have hg : Q ++ [D] ++ gA ++ gB = Q ++ D :: (gA ++ gB) := by simp
    rw [hg]
    have hgl : (Q ++ D :: (gA ++ gB)).length = Q.length + R.length := by simp; omega
    have hgd : (Q ++ D :: (gA ++ gB)).getD Q.length default = D := by simp [List.getD_eq_getElem?_getD]
    have hst : ∀ E F : aze, (Q ++ F :: (gA ++ gB)).set Q.length E = Q ++ E :: (gA ++ gB) := fun E F => by
      rw [List.set_append_right _ _ (Nat.le_refl _)]; simp
    rw [az4 (by omega), az4 (by omega), az4 (by rw [List.length_set]; omega), az4 (by rw [List.length_set]; omega), hgd, hst]
    obtain ⟨F, hF⟩ : ∃ F : aze, F = ⟨p, ((lv % J : Nat) : Int), iA, iB⟩ := ⟨_, rfl⟩
    have hFp : F.Point = p := by rw [hF]
    have hFa : F.Axis = ((lv % J : Nat) : Int) := by rw [hF]
    have hFl : F.Low = iA := by rw [hF]
    have hFh : F.High = iB := by rw [hF]
    refine ⟨sA ++ p :: sB, F :: (gA ++ gB), (Q.length : Int), ?_, ?_, by simp; omega, ?_, ?_⟩
    · rw [hst, hD, hF]
      have hq : ∀ E : aze, (Q ++ E :: (gA ++ gB)).getD Q.length default = E := fun E => by simp [List.getD_eq_getElem?_getD]
      simp only [hq, List.append_assoc, List.cons_append, List.nil_append]
    · refine List.Perm.trans ?_ s2
      rw [hsp]
      exact a2.append (b2.cons p)
    · refine List.Perm.trans ?_ s2
      rw [hsp]
      simp only [List.map_cons, List.map_append, hF]
      exact (List.Perm.cons p (a4.append b4)).trans List.perm_middle.symm
    · have hnF : nd (Q ++ F :: (gA ++ gB)) Q.length = F := by simp [nd, List.getD_eq_getElem?_getD]
      have hag : ∀ j, Q.length < j → nd (Q ++ [D] ++ gA ++ gB) j = nd (Q ++ F :: (gA ++ gB)) j := fun j hj => by
        rw [hg, jzn (by omega), jzn (by omega)]
        obtain ⟨t, ht⟩ : ∃ t, j - Q.length = t + 1 := ⟨j - Q.length - 1, by omega⟩
        rw [ht]; rfl
      have hpA : ∀ j, Q.length + 1 ≤ j → j < Q.length + 1 + h → (nd (Q ++ F :: (gA ++ gB)) j).Point ∈ A := fun j h1 h2 => by
        rw [jzn (by omega)]
        obtain ⟨t, ht⟩ : ∃ t, j - Q.length = t + 1 := ⟨j - Q.length - 1, by omega⟩
        have : nd (F :: (gA ++ gB)) (t + 1) = nd gA t := by
          show nd (gA ++ gB) t = _
          exact uzn (by omega)
        rw [ht, this]
        exact a4.mem_iff.1 (Hze (by omega))
      have hpB : ∀ j, Q.length + 1 + h ≤ j → j < Q.length + R.length → (nd (Q ++ F :: (gA ++ gB)) j).Point ∈ B := fun j h1 h2 => by
        rw [jzn (by omega)]
        obtain ⟨t, ht⟩ : ∃ t, j - Q.length = t + 1 := ⟨j - Q.length - 1, by omega⟩
        have : nd (F :: (gA ++ gB)) (t + 1) = nd gB (t - gA.length) := by
          show nd (gA ++ gB) t = _
          exact jzn (by omega)
        rw [ht, this]
        exact b4.mem_iff.1 (Hze (by omega))
      have tot : ∀ x y, x ≠ y → ltK P ((lv % J : Nat) : Int) y x = false → ltK P ((lv % J : Nat) : Int) x y = true := fun x y hxy hf => by
        rw [ltK_not] at hf; rw [ltK_iff]; omega
      have hlen : (Q ++ [D]).length = Q.length + 1 := by simp
      have hlen2 : (Q ++ [D] ++ gA).length = Q.length + 1 + h := by simp; omega
      refine .node Q.length (Q.length + 1 + h) _ (by rw [List.length_append, List.length_cons]; omega) ?_ ?_ ?_ ?_ (fun j h1 h2 => ?_) (fun j h1 h2 => ?_)
      · rw [hnF, hFl]
        rw [hlen] at a5
        rw [show A.length = h from hl1] at a5
        refine a5.congr (by simp; omega) fun j h1 h2 => ?_
        rw [← hag j (by omega), uzn (Q := Q ++ [D] ++ gA) (by omega)]
      · rw [hnF, hFh]
        rw [hlen2] at b5
        have : Q.length + 1 + h + B.length = Q.length + R.length := by omega
        rw [this] at b5
        exact b5.congr (by simp; omega) fun j h1 h2 => hag j (by omega)
      · rw [hnF, hFa]; omega
      · rw [hnF, hFp]; exact hS p (by simp)
      · rw [hnF, hFa, hFp]
        have hm := hpA j h1 h2
        exact tot _ _ (fun e => n3 _ hm p (List.mem_cons_self ..) e) (w3 _ hm p (List.mem_cons_self ..))
      · rw [hnF, hFa, hFp]
        have hm := hpB j h1 h2
        exact tot _ _ (fun e => n4 (by rw [show p = _ from e]; exact hm)) (w4 _ hm)
open Go.Proofs
theorem gzq (n : Nat) : (cz5 (List.range n)).Nodup := by
  refine List.Pairwise.map _ (fun a b h => ?_) (List.nodup_range (n := n))
  simp only [ne_eq]; omega
theorem Czi {P : List (List Int)} {J : Nat} (hP : PtsOk P J) : ∃ Q i, (hzm P).o = some Q ∧ Q.length = P.length ∧ (Q.map (·.Point)).Perm (cz5 (List.range P.length)) ∧ KD P J Q i 0 P.length := by
  show ∃ Q i, (jzx P).run NN = some Q ∧ _
  have h1 := hP.1
  simp only [jzx, T.run, wz9 hP, Option.bind_some, Bool.not_true, cond_false, Int.toNat_natCast, List.length_replicate]
  rw [az4 (by omega)]
  have key : ∀ k : List Int → Option (List aze), andK (iter (fun x : List Int × Int => bif decide (x.2 < ((P.length : Nat) : Int)) then grd (0 ≤ x.2 ∧ x.2 < ((x.1.length : Nat) : Int)) (grd ((x.2).toNat < x.1.length ∧ 0 ≤ (x.2).toNat) (some (Step3.next (x.1.set (x.2).toNat x.2, IntKind.i64.wrap (x.2 + 1))))) else some (Step3.out x.1)) NN (List.replicate P.length (0 : Int), 0)) k = k (cz5 (List.range P.length)) := fun k => by
    refine yzm _ (fun m (y : List Int × Int) => ∃ j : Nat, y.2 = (j : Int) ∧ j + m = P.length ∧ y.1.length = P.length ∧ ∀ t, t < j → y.1.getD t default = (t : Int)) P.length ⟨0, rfl, by omega, by simp, fun t ht => by omega⟩ (by omega) ?_
    rintro m ⟨z, y⟩ ⟨j, hj, hjm, hz, ht⟩
    simp only at hj hz ht ⊢
    subst hj
    cases m with
    | zero =>
      rw [az6 (by omega)]
      refine .inr ?_
      have : z = cz5 (List.range P.length) := pzt (by simp [hz]) fun i hi => by
        rw [ht i (by omega), tzu (by simp; omega)]
        simp [List.getD_eq_getElem?_getD, List.getElem?_range (show i < P.length by omega)]
      rw [this]
    | succ m =>
      rw [az7 (by omega), az4 (by omega), Int.toNat_natCast, az4 (by omega), wn (by omega)]
      refine .inl ⟨_, m, rfl, Nat.lt_succ_self m, j + 1, rfl, by omega, by simp only [List.length_set]; exact hz, fun t h => ?_⟩
      simp only
      rw [gzt (by omega)]
      split
      · omega
      · exact ht t (by omega)
  rw [key]
  have hl : (cz5 (List.range P.length)).length = P.length := by simp
  obtain ⟨s, seg, i, q1, q2, q3, q4, q5⟩ := wzd hP NN [] (cz5 (List.range P.length)) [] 0 [] (by rw [hl]; show _ < 4294967296; omega) (fun x hx => by
    obtain ⟨t, ht, rfl⟩ := List.mem_map.1 hx
    have := List.mem_range.1 ht
    unfold InP; omega) (gzq _) (by omega) (by rw [hl]; simp; omega) (by omega)
  have hC : (lzx (cz5 (List.range P.length)) 0 (cz5 (List.range P.length)).length 0 P nl).o = some (i, [] ++ s ++ [], [] ++ seg) := by
    rw [← q1]; simp [nl]; rfl
  rw [hC]
  refine ⟨seg, i, rfl, by omega, q4, ?_⟩
  simpa [hl] using q5
def Pa (Q : List aze) (p c : Nat) : Prop := (nd Q p).Low = (c : Int) ∨ (nd Q p).High = (c : Int)
section
variable {P : List (List Int)} {J : Nat} {Q : List aze}
theorem KD.root {i : Int} {b e : Nat} (h : KD P J Q i b e) : (i = -1 ∧ b = e) ∨ (i = (b : Int) ∧ b < e) := by
  cases h with
  | nil b => exact .inl ⟨rfl, rfl⟩
  | node b m e hb h1 h2 ha hp o1 o2 => exact .inr ⟨rfl, by have := h1.le; have := h2.le; omega⟩
theorem KD.child {i : Int} {b e : Nat} (h : KD P J Q i b e) : ∀ p, b ≤ p → p < e → ((nd Q p).Low = -1 ∨ ((p : Int) < (nd Q p).Low ∧ (nd Q p).Low < (e : Int))) ∧ ((nd Q p).High = -1 ∨ ((p : Int) < (nd Q p).High ∧ (nd Q p).High < (e : Int))) := by
  induction h with
  | nil b => intro p h1 h2; omega
  | node b m e hb h1 h2 ha hp o1 o2 i1 i2 =>
    intro p hp1 hp2
    have l1 := h1.le
    have l2 := h2.le
    have r1 := h1.root
    have r2 := h2.root
    by_cases c : p = b
    · subst c; omega
    · by_cases c2 : p < m
      · have := i1 p (by omega) c2; omega
      · exact i2 p (by omega) hp2
theorem KD.parent {i : Int} {b e : Nat} (h : KD P J Q i b e) : ∀ c, b < c → c < e → ∃ p, b ≤ p ∧ p < c ∧ Pa Q p c := by
  induction h with
  | nil b => intro c h1 h2; omega
  | node b m e hb h1 h2 ha hp o1 o2 i1 i2 =>
    intro c hc1 hc2
    have l1 := h1.le
    have l2 := h2.le
    have r1 := h1.root
    have r2 := h2.root
    by_cases c1 : c < m
    · by_cases c2 : c = b + 1
      · exact ⟨b, Nat.le_refl _, by omega, .inl (by omega)⟩
      · obtain ⟨p, p1, p2, p3⟩ := i1 c (by omega) c1
        exact ⟨p, by omega, p2, p3⟩
    · by_cases c2 : c = m
      · exact ⟨b, Nat.le_refl _, by omega, .inr (by omega)⟩
      · obtain ⟨p, p1, p2, p3⟩ := i2 c (by omega) hc2
        exact ⟨p, by omega, p2, p3⟩
theorem KD.single {i : Int} {b e : Nat} (h : KD P J Q i b e) : ∀ p q c, b ≤ p → p < e → b ≤ q → q < e → Pa Q p c → Pa Q q c → p = q := by
  induction h with
  | nil b => intro p q c h1 h2; omega
  | node b m e hb h1 h2 ha hp o1 o2 i1 i2 =>
    intro p q c hp1 hp2 hq1 hq2 hp hq
    have l1 := h1.le
    have l2 := h2.le
    have r1 := h1.root
    have r2 := h2.root
    have loc : ∀ p, b ≤ p → p < e → Pa Q p c → (p = b ∧ (c = b + 1 ∧ b + 1 < m ∨ c = m ∧ m < e)) ∨ ((b + 1 ≤ p ∧ p < m) ∧ b + 1 < c ∧ c < m) ∨ ((m ≤ p ∧ p < e) ∧ m < c ∧ c < e) := fun p hp1 hp2 hp => by
      unfold Pa at hp
      by_cases c1 : p = b
      · subst c1; exact .inl ⟨rfl, by omega⟩
      · by_cases c2 : p < m
        · have := h1.child p (by omega) c2
          exact .inr (.inl ⟨⟨by omega, c2⟩, by omega⟩)
        · have := h2.child p (by omega) hp2
          exact .inr (.inr ⟨⟨by omega, hp2⟩, by omega⟩)
    rcases loc p hp1 hp2 hp with ⟨a1, a2⟩ | ⟨a1, a2⟩ | ⟨a1, a2⟩ <;> rcases loc q hq1 hq2 hq with ⟨b1, b2⟩ | ⟨b1, b2⟩ | ⟨b1, b2⟩ <;> first | omega | exact i1 p q c a1.1 a1.2 b1.1 b1.2 hp hq | exact i2 p q c a1.1 a1.2 b1.1 b1.2 hp hq
theorem KD.lowHigh {i : Int} {b e : Nat} (h : KD P J Q i b e) : ∀ p, b ≤ p → p < e → (nd Q p).Low = (nd Q p).High → (nd Q p).Low = -1 := by
  induction h with
  | nil b => intro p h1 h2; omega
  | node b m e hb h1 h2 ha hp o1 o2 i1 i2 =>
    intro p hp1 hp2 he
    have l1 := h1.le
    have r1 := h1.root
    have r2 := h2.root
    by_cases c : p = b
    · subst c; omega
    · by_cases c2 : p < m
      · exact i1 p (by omega) c2 he
      · exact i2 p (by omega) hp2 he
theorem KD.sub {i : Int} {b e : Nat} (h : KD P J Q i b e) : ∀ p, b ≤ p → p < e → ∃ e', KD P J Q (p : Int) p e' ∧ e' ≤ e := by
  induction h with
  | nil b => intro p h1 h2; omega
  | node b m e hb h1 h2 ha hp o1 o2 i1 i2 =>
    intro p hp1 hp2
    have l2 := h2.le
    by_cases c : p = b
    · subst c; exact ⟨e, .node p m e hb h1 h2 ha hp o1 o2, Nat.le_refl _⟩
    · by_cases c2 : p < m
      · obtain ⟨e', k1, k2⟩ := i1 p (by omega) c2
        exact ⟨e', k1, by omega⟩
      · exact i2 p (by omega) hp2
theorem KD.data {i : Int} {b e : Nat} (h : KD P J Q i b e) : ∀ p, b ≤ p → p < e → p < Q.length ∧ (0 ≤ (nd Q p).Axis ∧ (nd Q p).Axis < (J : Int)) ∧ InP P (nd Q p).Point := by
  induction h with
  | nil b => intro p h1 h2; omega
  | node b m e hb h1 h2 ha hp o1 o2 i1 i2 =>
    intro p hp1 hp2
    by_cases c : p = b
    · subst c; exact ⟨hb, ha, hp⟩
    · by_cases c2 : p < m
      · exact i1 p (by omega) c2
      · exact i2 p (by omega) hp2
theorem KD.inv {b e : Nat} (h : KD P J Q (b : Int) b e) : ∃ m, KD P J Q (nd Q b).Low (b + 1) m ∧ KD P J Q (nd Q b).High m e ∧ (∀ j, b + 1 ≤ j → j < m → ltK P (nd Q b).Axis (nd Q j).Point (nd Q b).Point = true) ∧ ∀ j, m ≤ j → j < e → ltK P (nd Q b).Axis (nd Q b).Point (nd Q j).Point = true := by
  generalize hi : (b : Int) = i at h
  cases h with
  | nil b => omega
  | node b m e hb h1 h2 ha hp o1 o2 => exact ⟨m, h1, h2, o1, o2⟩
theorem KD.det {i : Int} {b e : Nat} (h : KD P J Q i b e) : ∀ e', KD P J Q i b e' → e = e' := by
  induction h with
  | nil b =>
    intro e' h
    have := h.root; omega
  | node b m e hb h1 h2 ha hp o1 o2 i1 i2 =>
    intro e' h
    obtain ⟨m', k1, k2, -, -⟩ := h.inv
    have := i1 m' k1
    subst this
    exact i2 e' k2
end
open Go.Proofs
section
variable {P : List (List Int)} {J : Nat} {Q : List aze}
def P2 (Q : List aze) (j t p c : Nat) : Prop := (p < j ∧ Pa Q p c) ∨ (p = j ∧ ((1 ≤ t ∧ (nd Q j).Low = (c : Int)) ∨ (2 ≤ t ∧ (nd Q j).High = (c : Int))))
def AbAt (Q : List aze) (j t c : Nat) (v : Int) : Prop := (v = -1 ∧ ∀ p, ¬ P2 Q j t p c) ∨ ∃ p, P2 Q j t p c ∧ v = (p : Int)
theorem AbAt.congr {j t j' t' c : Nat} {v : Int} (h : AbAt Q j t c v) (hp : ∀ p, P2 Q j t p c ↔ P2 Q j' t' p c) : AbAt Q j' t' c v := by
  rcases h with ⟨h1, h2⟩ | ⟨p, h1, h2⟩
  · exact .inl ⟨h1, fun p hp' => h2 p ((hp p).2 hp')⟩
  · exact .inr ⟨p, (hp p).1 h1, h2⟩
structure KDw (P : List (List Int)) (J : Nat) (Q : List aze) : Prop where
  len : Q.length = P.length
  kd : ∃ i, KD P J Q i 0 P.length
  inj : ∀ p q, p < P.length → q < P.length → (nd Q p).Point = (nd Q q).Point → p = q
theorem Ez1 (hP : PtsOk P J) (h : KDw P J Q) : ∃ A, (izi P Q).o = some (A, true) ∧ A.length = P.length ∧ ∀ c, c < P.length → (c = 0 ∧ A.getD c default = -1) ∨ ∃ p, p < c ∧ Pa Q p c ∧ A.getD c default = (p : Int) := by
  obtain ⟨hl, ⟨i0, hk⟩, hinj⟩ := h
  have hn := hP.1
  have kch := hk.child
  have kpa := hk.parent
  have ksi := hk.single
  have klh := hk.lowHigh
  have kda := hk.data
  suffices hs : ∃ r, (izi P Q).o = some r ∧ (r.2 = true ∧ r.1.length = P.length ∧ ∀ c, c < P.length → AbAt Q P.length 0 c (r.1.getD c default)) by
    obtain ⟨⟨A, b⟩, h1, h2, h3, h4⟩ := hs
    simp only at h2 h3 h4
    subst h2
    refine ⟨A, h1, h3, fun c hc => ?_⟩
    rcases h4 c hc with ⟨k1, k2⟩ | ⟨p, k1, k2⟩
    · by_cases c0 : c = 0
      · exact .inl ⟨c0, k1⟩
      · obtain ⟨p, p1, p2, p3⟩ := kpa c (by omega) hc
        exact absurd (.inl ⟨by omega, p3⟩) (k2 p)
    · rcases k1 with ⟨q1, q2⟩ | ⟨rfl, q⟩
      · have := kch p (by omega) q1
        unfold Pa at q2
        exact .inr ⟨p, by omega, q2, k2⟩
      · omega
  show ∃ r, (izj P Q).run NN = some r ∧ _
  simp only [izj, T.run, Int.toNat_natCast, List.length_replicate]
  rw [az4 (by omega), hl]
  refine ezm (P := fun r : List Int × Bool => r.2 = true ∧ r.1.length = P.length ∧ ∀ c, c < P.length → AbAt Q P.length 0 c (r.1.getD c default)) (fun m (y : List Int × Int) => ∃ j : Nat, y.2 = (j : Int) ∧ j + m = P.length ∧ y.1.length = P.length ∧ ∀ t, t < j → y.1.getD t default = -1)
    (fun z : List Int => z.length = P.length ∧ ∀ t, t < P.length → z.getD t default = -1) P.length ⟨0, rfl, by omega, by simp, fun t ht => by omega⟩ (by omega) ?_ ?_
  · rintro m ⟨z, y⟩ ⟨j, hj, hjm, hz, ht⟩
    simp only at hj hz ht ⊢
    subst hj
    cases m with
    | zero =>
      rw [az6 (by omega)]
      exact .inr (.inl ⟨_, rfl, hz, fun t h => ht t (by omega)⟩)
    | succ m =>
      rw [az7 (by omega), az4 (by omega), Int.toNat_natCast, az4 (by omega), wn (by omega)]
      refine .inl ⟨_, m, rfl, Nat.lt_succ_self m, j + 1, rfl, by omega, by simp only [List.length_set]; exact hz, fun t h => ?_⟩
      simp only
      rw [gzt (by omega)]
      split
      · rfl
      · exact ht t (by omega)
  · rintro A0 ⟨hA0, hA1⟩
    rw [az4 (by omega)]
    refine ezm (P := fun r : List Int × Bool => r.2 = true ∧ r.1.length = P.length ∧ ∀ c, c < P.length → AbAt Q P.length 0 c (r.1.getD c default))
      (fun m (y : List Int × List Bool × Int) => ∃ j : Nat, y.2.2 = (j : Int) ∧ j + m = P.length ∧ y.1.length = P.length ∧ y.2.1.length = P.length ∧ (∀ c, c < P.length → AbAt Q j 0 c (y.1.getD c default)) ∧ ∀ x, x < P.length → y.2.1.getD x default = true → ∃ t, t < j ∧ (nd Q t).Point = (x : Int))
      (fun z : List Int => z.length = P.length ∧ ∀ c, c < P.length → AbAt Q P.length 0 c (z.getD c default)) P.length
      ⟨0, rfl, by omega, hA0, by simp, fun c hc => .inl ⟨hA1 c hc, fun p hp => by unfold P2 at hp; omega⟩, fun x hx hu => by simp [List.getD_eq_getElem?_getD, hx] at hu⟩ (by omega) ?_ (fun z hz => ⟨_, rfl, rfl, hz⟩)
    rintro m ⟨A, U, y⟩ ⟨j, hj, hjm, hA, hU, hAb, hUs⟩
    simp only at hj hA hU hAb hUs ⊢
    subst hj
    cases m with
    | zero =>
      obtain rfl : j = P.length := by omega
      rw [az6 (by omega)]
      exact .inr (.inl ⟨_, rfl, hA, hAb⟩)
    | succ m =>
      have hjn : j < P.length := by omega
      obtain ⟨-, hax, hpt⟩ := kda j (by omega) hjn
      have hch := kch j (by omega) hjn
      have hpl := (hP.2.2 _ (azl (show 0 < P.length by omega))).1
      have z0 : (0 : Int).toNat = 0 := rfl
      have hnd : Q.getD j default = nd Q j := rfl
      have hu0 : U.getD (nd Q j).Point.toNat default = false := by
        cases hu : U.getD (nd Q j).Point.toNat default with
        | false => rfl
        | true =>
          unfold InP at hpt
          obtain ⟨t, t1, t2⟩ := hUs _ (by omega) hu
          have := hinj t j (by omega) hjn (by omega)
          omega
      simp only [Int.toNat_natCast, hnd, z0, hpl]
      have hpt' := hpt
      unfold InP at hpt'
      rw [az7 (by omega), az4 (by omega), az6 (by omega), az6 (by omega), az4 (by omega), az4 (by omega), hu0, az5]
      simp only [cond_false]
      rw [az4 (by omega), az4 (by omega), az6 (by omega), az4 (by omega), decide_eq_false (p := (nd Q j).Axis ≥ (J : Int)) (by omega), az5]
      simp only [cond_false]
      suffices hi : ∃ s, _ = some s ∧ (∃ A' : List Int, s = Step3.next (A', U.set (nd Q j).Point.toNat true, ((j + 1 : Nat) : Int)) ∧ A'.length = P.length ∧ ∀ c, c < P.length → AbAt Q (j + 1) 0 c (A'.getD c default)) by
        obtain ⟨s, e, A', rfl, k1, k2⟩ := hi
        refine .inl ⟨_, m, e, Nat.lt_succ_self m, j + 1, rfl, by omega, k1, by simp only [List.length_set]; exact hU, k2, fun x hx hu => ?_⟩
        simp only at hu
        rw [gzt (by omega)] at hu
        split at hu
        · exact ⟨j, by omega, by omega⟩
        · obtain ⟨t, t1, t2⟩ := hUs x hx hu
          exact ⟨t, by omega, t2⟩
      have e2 : (([(nd Q j).Low, (nd Q j).High] : List Int).length : Int) = 2 := rfl
      simp only [e2]
      refine ezm (fun m (y : List Int × Int) => ∃ t : Nat, y.2 = (t : Int) ∧ t + m = 2 ∧ y.1.length = P.length ∧ ∀ c, c < P.length → AbAt Q j t c (y.1.getD c default)) (fun z : List Int => z.length = P.length ∧ ∀ c, c < P.length → AbAt Q j 2 c (z.getD c default)) 2 ⟨0, rfl, by omega, hA, hAb⟩ (by omega) ?_ ?_
      · rintro m ⟨A1, y⟩ ⟨t, ht, htm, hA1, hAb1⟩
        simp only at ht hA1 hAb1 ⊢
        subst ht
        cases m with
        | zero =>
          obtain rfl : t = 2 := by omega
          rw [az6 (by omega)]
          exact .inr (.inl ⟨_, rfl, hA1, hAb1⟩)
        | succ m =>
          obtain ⟨z, hz⟩ : ∃ z, z = ([(nd Q j).Low, (nd Q j).High] : List Int).getD t default := ⟨_, rfl⟩
          have hzc : (t = 0 ∧ z = (nd Q j).Low) ∨ (t = 1 ∧ z = (nd Q j).High) := by
            have : t = 0 ∨ t = 1 := by omega
            rcases this with rfl | rfl
            · exact .inl ⟨rfl, hz⟩
            · exact .inr ⟨rfl, hz⟩
          simp only [Int.toNat_natCast, ← hz]
          rw [az7 (by omega), az4 (by omega), az4 (by simp only [List.length_cons, List.length_nil]; omega), wn (by omega)]
          by_cases hz1 : z = -1
          · rw [fzh hz1, az5]
            refine .inl ⟨_, m, rfl, Nat.lt_succ_self m, t + 1, rfl, by omega, hA1, fun c hc => (hAb1 c hc).congr fun p => ?_⟩
            unfold P2
            constructor
            · rintro (h | ⟨h1, h2⟩)
              · exact .inl h
              · exact .inr ⟨h1, by omega⟩
            · rintro (h | ⟨h1, h2⟩)
              · exact .inl h
              · exact .inr ⟨h1, by omega⟩
          · have hzr : (j : Int) < z ∧ z < (P.length : Int) := by omega
            obtain ⟨c, hc⟩ : ∃ c : Nat, z = (c : Int) := ⟨z.toNat, by omega⟩
            have hpc : Pa Q j c := by unfold Pa; omega
            have hlh := klh j (by omega) hjn
            have hno : ∀ p, ¬ P2 Q j t p c := fun p hp => by
              rcases hp with ⟨p1, p2⟩ | ⟨p1, p2⟩
              · have := ksi p j c (by omega) (by omega) (by omega) hjn p2 hpc
                omega
              · have : (nd Q j).Low = (nd Q j).High := by omega
                have := hlh this
                omega
            have hac : A1.getD c default = -1 := by
              rcases hAb1 c (by omega) with ⟨k1, -⟩ | ⟨p, k1, -⟩
              · exact k1
              · exact absurd k1 (hno p)
            rw [ezt hz1, az6 (by omega), az6 (by omega), az4 (by omega), hc, Int.toNat_natCast, az4 (by omega), hac, az5]
            have hb : ((-1 : Int) != -1) = false := rfl
            rw [hb]
            simp only [cond_false]
            rw [az4 (by omega), az4 (by omega), az5]
            refine .inl ⟨_, m, rfl, Nat.lt_succ_self m, t + 1, rfl, by omega, by simp only [List.length_set]; exact hA1, fun d hd => ?_⟩
            simp only
            rw [gzt (by omega)]
            by_cases hcd : c = d
            · subst hcd
              rw [if_pos rfl]
              exact .inr ⟨j, .inr ⟨rfl, by omega⟩, rfl⟩
            · rw [if_neg hcd]
              refine (hAb1 d hd).congr fun p => ?_
              unfold P2
              constructor
              · rintro (h | ⟨h1, h2⟩)
                · exact .inl h
                · exact .inr ⟨h1, by omega⟩
              · rintro (h | ⟨h1, h2⟩)
                · exact .inl h
                · exact .inr ⟨h1, by omega⟩
      · rintro A2 ⟨hA2, hAb2⟩
        have hAb3 : ∀ c, c < P.length → AbAt Q (j + 1) 0 c (A2.getD c default) := fun c hc => (hAb2 c hc).congr fun p => by
          unfold P2 Pa
          constructor
          · rintro (⟨h1, h2⟩ | ⟨rfl, h2⟩)
            · exact .inl ⟨by omega, h2⟩
            · exact .inl ⟨by omega, by omega⟩
          · rintro (⟨h1, h2⟩ | ⟨h1, h2⟩)
            · by_cases e : p = j
              · subst e; exact .inr ⟨rfl, by omega⟩
              · exact .inl ⟨by omega, h2⟩
            · omega
        by_cases h0 : 0 < j
        · have hne : A2.getD j default ≠ -1 := by
            obtain ⟨p, p1, p2, p3⟩ := kpa j h0 hjn
            rcases hAb3 j hjn with ⟨k1, k2⟩ | ⟨p', k1, k2⟩
            · exact absurd (.inl ⟨by omega, p3⟩) (k2 p)
            · omega
          have hb : (A2.getD j default == -1) = false := by simpa using hne
          rw [az7 (by omega), az4 (by omega), az4 (by omega), hb, az5]
          simp only [cond_false]
          rw [wn (by omega)]
          exact ⟨_, rfl, A2, rfl, hA2, hAb3⟩
        · rw [az6 (by omega), az5]
          simp only [cond_false]
          rw [wn (by omega)]
          exact ⟨_, rfl, A2, rfl, hA2, hAb3⟩
theorem Cz2 (hP : PtsOk P J) (h : KDw P J Q) {A : List Int} (hA : A.length = P.length) (hpa : ∀ c, c < P.length → (c = 0 ∧ A.getD c default = -1) ∨ ∃ p, p < c ∧ Pa Q p c ∧ A.getD c default = (p : Int)) : (lzy P Q A).o = some true := by
  obtain ⟨hl, ⟨i0, hk⟩, hinj⟩ := h
  have hn := hP.1
  have ksu := hk.sub
  have kda := hk.data
  show (izh P Q A).run NN = _
  simp only [izh, T.run]
  rw [hl]
  refine (jzp (fun _ => none) P.length (by omega) (fun j hj => ?_) (by rw [az6 (by omega)])).trans ?_
  · rw [az7 (by omega), az4 (by omega), az4 (by omega), Int.toNat_natCast, wn (by omega)]
    obtain ⟨-, -, hptj⟩ := kda j (by omega) hj
    have hnd : ∀ x, Q.getD x default = nd Q x := fun _ => rfl
    obtain ⟨ej, kj, -⟩ := ksu j (by omega) hj
    have key : andK (iter (fun x : Int × Int => bif x.2 != -1 then grd (0 ≤ x.2 ∧ x.2 < (P.length : Int)) (grd (0 ≤ x.2 ∧ x.2 < (P.length : Int)) ((hzn P (Q.getD x.2.toNat default).Axis (Q.getD j default).Point (Q.getD x.2.toNat default).Point).o.bind fun y => grd (0 ≤ x.2 ∧ x.2 < (P.length : Int)) (bif !(decide (y < 0) == (x.1 == (Q.getD x.2.toNat default).Low)) then some (Step3.fin (Step3.fin false)) else grd (0 ≤ x.2 ∧ x.2 < (A.length : Int)) (some (Step3.next (x.2, A.getD x.2.toNat default)))))) else some (Step3.out U0.u)) NN ((j : Int), A.getD j default)) (fun _ => some (Step3.next ((j + 1 : Nat) : Int))) = (some (Step3.next ((j + 1 : Nat) : Int)) : Option (Step3 Int U0 Bool)) := by
      refine yzm U0.u (fun m (y : Int × Int) => ∃ c e : Nat, y.1 = (c : Int) ∧ y.2 = A.getD c default ∧ c ≤ m ∧ c < P.length ∧ KD P J Q (c : Int) c e ∧ c ≤ j ∧ j < e) j ⟨j, ej, rfl, rfl, Nat.le_refl _, hj, kj, Nat.le_refl _, by have := kj.root; omega⟩ (by omega) ?_
      rintro m ⟨y1, y2⟩ ⟨c, e, hy1, hy2, hcm, hcn, kc, hcj, hje⟩
      simp only at hy1 hy2 ⊢
      subst hy1; subst hy2
      rcases hpa c hcn with ⟨-, h2⟩ | ⟨p, p1, p2, p3⟩
      · rw [h2, cz9 rfl]; exact .inr rfl
      · obtain ⟨-, hax, hptp⟩ := kda p (by omega) (by omega)
        obtain ⟨ep, kp, -⟩ := ksu p (by omega) (by omega)
        obtain ⟨z, z1, z2⟩ := Dzz hP hax hptj hptp
        obtain ⟨mm, k1, k2, o1, o2⟩ := kp.inv
        have r1 := k1.root
        have r2 := k2.root
        have l1 := k1.le
        have l2 := k2.le
        rw [p3, ezb (by omega), az4 (by omega), az4 (by omega), Int.toNat_natCast, hnd, hnd, z1]
        simp only [Option.bind_some]
        rw [az4 (by omega), z2]
        have hsame : (!(ltK P (nd Q p).Axis (nd Q j).Point (nd Q p).Point == ((c : Int) == (nd Q p).Low))) = false ∧ j < ep := by
          unfold Pa at p2
          by_cases hlow : (nd Q p).Low = (c : Int)
          · have hcp : c = p + 1 := by omega
            have : KD P J Q (c : Int) c mm := by rw [← hlow, hcp]; exact k1
            have := kc.det mm this
            have ho := o1 j (by omega) (by omega)
            rw [ho, hlow]
            exact ⟨by simp, by omega⟩
          · have hhigh : (nd Q p).High = (c : Int) := by omega
            have hcm : c = mm := by omega
            have : KD P J Q (c : Int) c ep := by rw [← hhigh, hcm]; exact k2
            have := kc.det ep this
            have ho := o2 j (by omega) (by omega)
            have hf : ltK P (nd Q p).Axis (nd Q j).Point (nd Q p).Point = false := by
              rw [ltK_iff] at ho; rw [ltK_not]; omega
            have hb : ((c : Int) == (nd Q p).Low) = false := by
              simp only [beq_eq_false_iff_ne, ne_eq]; omega
            rw [hf, hb]
            exact ⟨rfl, by omega⟩
        rw [hsame.1]
        simp only [cond_false]
        rw [az4 (by omega)]
        exact .inl ⟨_, p, rfl, by omega, p, ep, rfl, rfl, Nat.le_refl _, by omega, kp, by omega, hsame.2⟩
    exact key
  · rw [(dzv _ _).2 (fun _ _ _ => rfl)]
theorem Gzu (hP : PtsOk P J) (h : KDw P J Q) : (oz7 P Q).o = some true := by
  obtain ⟨A, h1, h2, h3⟩ := Ez1 hP h
  show (jzy P Q).run NN = _
  simp only [jzy, T.run, wz9 hP, h1, Option.bind_some, Bool.not_true, cond_false]
  have hb : ((Q.length : Int) != (P.length : Int)) = false := by simp [h.len]
  rw [hb, az5]
  simp only [cond_false, cond_true]
  rw [Cz2 hP h h2 h3]; rfl
end
open Go.Proofs
def dv (ds : List Int) (x : Int) : Int := ds.getD x.toNat default
def gtD (ds : List Int) (x y : Int) : Bool := decide (dv ds x > dv ds y ∨ (dv ds x = dv ds y ∧ x > y))
theorem gtD_iff {ds : List Int} {x y : Int} : gtD ds x y = true ↔ dv ds x > dv ds y ∨ (dv ds x = dv ds y ∧ x > y) := by unfold gtD; rw [decide_eq_true_eq]
def Wo (ds : List Int) (x y : Int) : Prop := dv ds x > dv ds y ∨ (dv ds x = dv ds y ∧ x > y)
def InD (ds h : List Int) : Prop := ∀ x ∈ h, 0 ≤ x ∧ x < (ds.length : Int)
abbrev gd (h : List Int) (i : Nat) : Int := h.getD i default
def sw2 (h : List Int) (i j : Nat) : List Int := (h.set i (gd h j)).set j (gd h i)
theorem Jz6 (h : List Int) (i j : Nat) : (sw2 h i j).length = h.length := by simp [sw2]
theorem Azp {h : List Int} {i j : Nat} (hi : i < h.length) (hj : j < h.length) (k : Nat) : gd (sw2 h i j) k = if j = k then gd h i else if i = k then gd h j else gd h k := by
  unfold sw2 gd
  rw [gzt (by rw [List.length_set]; exact hj), gzt hi]
theorem xzp {h : List Int} {i j : Nat} (hi : i < h.length) (hj : j < h.length) : (sw2 h i j).Perm h := by
  have := Go.Sort.perm_set_set h i j hi hj
  unfold sw2 gd
  simpa only [List.getD_eq_getElem?_getD, List.getElem?_eq_getElem hi, List.getElem?_eq_getElem hj, Option.getD_some] using this
theorem InD.perm {ds h h' : List Int} (hd : InD ds h) (hp : h'.Perm h) : InD ds h' := fun x hx => hd x (hp.mem_iff.1 hx)
theorem Dzm {ds h : List Int} (hd : InD ds h) {i j : Nat} (hi : i < h.length) (hj : j < h.length) : (fzp h ds (i : Int) (j : Int)).o = some (gtD ds (gd h i) (gd h j), h, ds) := by
  have h1 := hd _ (azl hi)
  have h2 := hd _ (azl hj)
  show (kz1 h ds (i : Int) (j : Int)).run NN = _
  simp only [kz1, T.run, Int.toNat_natCast]
  have hc : ∀ a b : Int, 0 ≤ a ∧ a < (ds.length : Int) → 0 ≤ b ∧ b < (ds.length : Int) → (kzg a b ds).o = some (gtD ds a b, ds) := fun a b ha hb => by
    show (hz9 a b ds).run NN = _
    simp only [hz9, T.run]
    have hI : (bz6 a b).o = some (cmpI' a b) := cmpI a b
    rw [az4 (by omega), az4 (by omega), az4 (by omega), az4 (by omega), Gzy, hI]
    simp only [Option.bind_some]
    rw [Azw]
    simp only [Option.bind_some]
    congr 2
    rw [Bool.eq_iff_iff, decide_eq_true_eq, gtD_iff]
    unfold cmpI' dv
    generalize ds.getD a.toNat default = x
    generalize ds.getD b.toNat default = y
    split <;> split <;> (try split) <;> omega
  rw [az4 (by omega), az4 (by omega), az4 (by omega), az4 (by omega), hc _ _ h1 h2]
  rfl
theorem Ezr {ds h : List Int} {i j : Nat} (hi : i < h.length) (hj : j < h.length) : (fzq h ds (i : Int) (j : Int)).o = some (sw2 h i j, ds) := by
  show (kz3 h ds (i : Int) (j : Int)).run NN = _
  simp only [kz3, T.run, Int.toNat_natCast]
  rw [az4 (by omega), az4 (by omega), az4 (by omega), az4 (by omega), az4 (by omega), az4 (by omega), az4 (by rw [List.length_set]; omega), az4 (by rw [List.length_set]; omega)]; rfl
theorem Dzl (h ds : List Int) : (fzb h ds).o = some ((h.length : Int), h, ds) := rfl
def HP (ds h : List Int) (n : Nat) : Prop := ∀ k, 0 < k → k < n → ¬ Wo ds (gd h k) (gd h ((k - 1) / 2))
theorem up_x {ds h : List Int} (hd : InD ds h) (hl : h.length ≤ 100000) {j : Nat} (hj : j < h.length) (h1 : ∀ k, 0 < k → k < h.length → k ≠ j → ¬ Wo ds (gd h k) (gd h ((k - 1) / 2)))
    (h2 : ∀ k, 0 < k → k < h.length → (k - 1) / 2 = j → 0 < j → ¬ Wo ds (gd h k) (gd h ((j - 1) / 2))) : ∃ h', (iz1 h ds (j : Int)).o = some (h', ds) ∧ h'.Perm h ∧ HP ds h' h.length := by
  suffices hs : ∃ r, (iz1 h ds (j : Int)).o = some r ∧ (r.2 = ds ∧ r.1.Perm h ∧ HP ds r.1 h.length) by
    obtain ⟨⟨h', d'⟩, q1, q2, q3⟩ := hs
    simp only at q2 q3
    subst q2
    exact ⟨h', q1, q3⟩
  show ∃ r, (iz2 h ds (j : Int)).run NN = some r ∧ _
  simp only [iz2, T.run]
  refine ezm (P := fun r : List Int × List Int => r.2 = ds ∧ r.1.Perm h ∧ HP ds r.1 h.length) (x := (h, ds, (j : Int)))
    (fun m (y : List Int × List Int × Int) => ∃ j : Nat, y.2.1 = ds ∧ y.2.2 = (j : Int) ∧ j ≤ m ∧ j < h.length ∧ y.1.Perm h ∧ (∀ k, 0 < k → k < h.length → k ≠ j → ¬ Wo ds (gd y.1 k) (gd y.1 ((k - 1) / 2))) ∧ ∀ k, 0 < k → k < h.length → (k - 1) / 2 = j → 0 < j → ¬ Wo ds (gd y.1 k) (gd y.1 ((j - 1) / 2)))
    (fun z : List Int × List Int => z.2 = ds ∧ z.1.Perm h ∧ HP ds z.1 h.length) j ⟨j, rfl, rfl, Nat.le_refl _, hj, List.Perm.refl _, h1, h2⟩ (by omega) ?_ (fun z hz => ⟨_, rfl, hz⟩)
  rintro m ⟨g, d', y⟩ ⟨j, hd', hy, hjm, hjl, hp, g1, g2⟩
  simp only at hd' hy hp g1 g2 ⊢
  rw [hd']; subst hy
  have hgl := hp.length_eq
  have hdg := hd.perm hp
  by_cases hj0 : j = 0
  · subst hj0
    have e1 : IntKind.i64.wrap ((IntKind.i64.wrap (((0 : Nat) : Int) - 1)).tdiv 2) = ((0 : Nat) : Int) := by decide
    rw [e1, fzh rfl, az5]
    exact .inr (.inl ⟨_, rfl, rfl, hp, fun k hk1 hk2 => g1 k hk1 hk2 (by omega)⟩)
  · have e1 : IntKind.i64.wrap ((IntKind.i64.wrap ((j : Int) - 1)).tdiv 2) = (((j - 1) / 2 : Nat) : Int) := by
      rw [lzl (by omega) (by omega), Int.tdiv_eq_ediv_of_nonneg (by omega), w64 (by omega) (by omega)]; omega
    rw [e1, ezt (by omega), Dzm hdg (by omega) (by omega)]
    simp only [Option.bind_some, az5]
    cases hlt : gtD ds (gd g j) (gd g ((j - 1) / 2)) with
    | false =>
      simp only [Bool.not_false, cond_true]
      refine .inr (.inl ⟨_, rfl, rfl, hp, fun k hk1 hk2 => ?_⟩)
      by_cases hkj : k = j
      · subst hkj
        intro hw
        rw [gtD_iff.2 hw] at hlt; cases hlt
      · exact g1 k hk1 hk2 hkj
    | true =>
      have hw := gtD_iff.1 hlt
      simp only [Bool.not_true, cond_false]
      rw [Ezr (by omega) (by omega)]
      simp only [Option.bind_some]
      have gg := fun k => Azp (h := g) (i := (j - 1) / 2) (j := j) (by omega) (by omega) k
      refine .inl ⟨_, (j - 1) / 2, rfl, by omega, (j - 1) / 2, rfl, rfl, Nat.le_refl _, by omega, (xzp (by omega) (by omega)).trans hp, fun k hk1 hk2 hk3 => ?_, fun k hk1 hk2 hk3 hk4 => ?_⟩
      · simp only
        rw [gg, gg]
        by_cases c1 : j = k
        · subst c1
          rw [if_pos rfl, if_neg (by omega), if_pos rfl]
          unfold Wo at *; omega
        · rw [if_neg c1, if_neg (Ne.symm hk3)]
          have hk := g1 k hk1 hk2 (Ne.symm c1)
          by_cases c2 : j = (k - 1) / 2
          · rw [if_pos c2]
            exact g2 k hk1 hk2 c2.symm (by omega)
          · rw [if_neg c2]
            by_cases c3 : (j - 1) / 2 = (k - 1) / 2
            · rw [if_pos c3]
              rw [← c3] at hk
              unfold Wo at *; omega
            · rw [if_neg c3]; exact hk
      · simp only
        rw [gg, gg, if_neg (show ¬ j = ((j - 1) / 2 - 1) / 2 by omega), if_neg (show ¬ (j - 1) / 2 = ((j - 1) / 2 - 1) / 2 by omega)]
        have hq := g1 ((j - 1) / 2) hk4 (by omega) (by omega)
        by_cases c1 : j = k
        · rw [if_pos c1]; exact hq
        · rw [if_neg c1, if_neg (by omega)]
          have hk := g1 k hk1 hk2 (Ne.symm c1)
          rw [hk3] at hk
          unfold Wo at *; omega
theorem Jzl {ds h : List Int} (hd : InD ds h) (hl : h.length ≤ 100000) {n : Nat} (hn : n ≤ h.length) (h1 : ∀ k, 0 < k → k < n → (k - 1) / 2 ≠ 0 → ¬ Wo ds (gd h k) (gd h ((k - 1) / 2))) :
    ∃ b h', (gze h ds 0 (n : Int)).o = some (b, h', ds) ∧ h'.Perm h ∧ (∀ k, n ≤ k → gd h' k = gd h k) ∧ HP ds h' n := by
  suffices hs : ∃ r, (gze h ds 0 (n : Int)).o = some r ∧ (r.2.2 = ds ∧ r.2.1.Perm h ∧ (∀ k, n ≤ k → gd r.2.1 k = gd h k) ∧ HP ds r.2.1 n) by
    obtain ⟨⟨b, h', d'⟩, q1, q2, q3⟩ := hs
    simp only at q2 q3
    subst q2
    exact ⟨b, h', q1, q3⟩
  show ∃ r, (gzf h ds 0 (n : Int)).run NN = some r ∧ _
  simp only [gzf, T.run]
  refine ezm (P := fun r : Bool × List Int × List Int => r.2.2 = ds ∧ r.2.1.Perm h ∧ (∀ k, n ≤ k → gd r.2.1 k = gd h k) ∧ HP ds r.2.1 n) (x := (h, ds, (0 : Int)))
    (fun m (y : List Int × List Int × Int) => ∃ i : Nat, y.2.1 = ds ∧ y.2.2 = (i : Int) ∧ n ≤ i + m ∧ i ≤ 200000 ∧ y.1.Perm h ∧ (∀ k, n ≤ k → gd y.1 k = gd h k) ∧ (∀ k, 0 < k → k < n → (k - 1) / 2 ≠ i → ¬ Wo ds (gd y.1 k) (gd y.1 ((k - 1) / 2))) ∧ ∀ k, 0 < k → k < n → (k - 1) / 2 = i → 0 < i → ¬ Wo ds (gd y.1 k) (gd y.1 ((i - 1) / 2)))
    (fun z : List Int × List Int × Int => z.2.1 = ds ∧ z.1.Perm h ∧ (∀ k, n ≤ k → gd z.1 k = gd h k) ∧ HP ds z.1 n) n ⟨0, rfl, rfl, by omega, by omega, List.Perm.refl _, fun _ _ => rfl, h1, fun k _ _ _ h => by omega⟩ (by omega) ?_ (fun z hz => ⟨_, rfl, hz⟩)
  rintro m ⟨g, d', y⟩ ⟨i, hd', hy, him, hi2, hp, hk, g1, g2⟩
  simp only at hd' hy hp hk g1 g2 ⊢
  rw [hd']; subst hy
  have hgl := hp.length_eq
  have hdg := hd.perm hp
  have e1 : IntKind.i64.wrap (2 * (i : Int)) = ((2 * i : Nat) : Int) := by rw [w64 (by omega) (by omega)]; omega
  have e2 : IntKind.i64.wrap (((2 * i : Nat) : Int) + 1) = ((2 * i + 1 : Nat) : Int) := wn (by omega)
  have e3 : IntKind.i64.wrap (((2 * i + 1 : Nat) : Int) + 1) = ((2 * i + 2 : Nat) : Int) := wn (by omega)
  simp only [e1, e2, e3]
  by_cases hin : 2 * i + 1 ≥ n
  · rw [az7 (by omega), az5]
    exact .inr (.inl ⟨_, rfl, rfl, hp, hk, fun k hk1 hk2 => g1 k hk1 hk2 (by omega)⟩)
  · rw [az6 (by omega), decide_eq_false (by omega), az5]
    simp only [cond_false]
    obtain ⟨c, hc1, hc2, hA, hc3⟩ : ∃ c : Nat, (c = 2 * i + 1 ∨ c = 2 * i + 2) ∧ c < n ∧ (bif decide (((2 * i + 2 : Nat) : Int) < (n : Int)) then (fzp g ds ((2 * i + 2 : Nat) : Int) ((2 * i + 1 : Nat) : Int)).o.bind fun y => some (Step3.out (y.2.1, y.2.2, y.1)) else some (Step3.out (g, ds, false)) : Option (Step3 Unit (List Int × List Int × Bool) (Step3 Unit (List Int × List Int × Int) (Step3 (List Int × List Int × Int) (List Int × List Int × Int) (Bool × List Int × List Int))))) = some (.out (g, ds, decide (c = 2 * i + 2))) ∧ ∀ k, 0 < k → k < n → (k - 1) / 2 = i → ¬ Wo ds (gd g k) (gd g c) := by
      by_cases h2 : 2 * i + 2 < n
      · rw [az7 (by omega), Dzm hdg (by omega) (by omega)]
        simp only [Option.bind_some]
        cases hlt : gtD ds (gd g (2 * i + 2)) (gd g (2 * i + 1)) with
        | true =>
          have hw := gtD_iff.1 hlt
          refine ⟨2 * i + 2, .inr rfl, h2, by rw [decide_eq_true rfl], fun k k1 k2 k3 => ?_⟩
          have : k = 2 * i + 1 ∨ k = 2 * i + 2 := by omega
          rcases this with rfl | rfl <;> (unfold Wo; omega)
        | false =>
          refine ⟨2 * i + 1, .inl rfl, by omega, by rw [decide_eq_false (by omega)], fun k k1 k2 k3 => ?_⟩
          have : k = 2 * i + 1 ∨ k = 2 * i + 2 := by omega
          rcases this with rfl | rfl
          · unfold Wo; omega
          · intro hw; rw [gtD_iff.2 hw] at hlt; cases hlt
      · rw [az6 (by omega)]
        refine ⟨2 * i + 1, .inl rfl, by omega, by rw [decide_eq_false (by omega)], fun k k1 k2 k3 => ?_⟩
        have : k = 2 * i + 1 := by omega
        subst this; unfold Wo; omega
    rw [hA, az5]
    simp only
    have hB : (bif decide (c = 2 * i + 2) then some (Step3.out (g, ds, ((2 * i + 2 : Nat) : Int))) else some (Step3.out (g, ds, ((2 * i + 1 : Nat) : Int))) : Option (Step3 Unit (List Int × List Int × Int) (Step3 (List Int × List Int × Int) (List Int × List Int × Int) (Bool × List Int × List Int)))) = some (.out (g, ds, (c : Int))) := by
      rcases hc1 with rfl | rfl
      · rw [decide_eq_false (by omega)]; rfl
      · rw [decide_eq_true rfl]; rfl
    rw [hB, az5]
    simp only
    rw [Dzm hdg (by omega) (by omega)]
    simp only [Option.bind_some]
    cases hlt : gtD ds (gd g c) (gd g i) with
    | false =>
      have hnw : ¬ Wo ds (gd g c) (gd g i) := fun hw => by rw [gtD_iff.2 hw] at hlt; cases hlt
      refine .inr (.inl ⟨_, rfl, rfl, hp, hk, fun k hk1 hk2 => ?_⟩)
      by_cases hki : (k - 1) / 2 = i
      · have := hc3 k hk1 hk2 hki
        show ¬ Wo ds (gd g k) (gd g ((k - 1) / 2))
        rw [hki]
        unfold Wo at *; omega
      · exact g1 k hk1 hk2 hki
    | true =>
      have hw := gtD_iff.1 hlt
      simp only [Bool.not_true, cond_false]
      rw [Ezr (by omega) (by omega)]
      simp only [Option.bind_some]
      have gg := fun k => Azp (h := g) (i := i) (j := c) (by omega) (by omega) k
      refine .inl ⟨_, n - c, rfl, by omega, c, rfl, rfl, by omega, by omega, (xzp (by omega) (by omega)).trans hp, fun k hkn => ?_, fun k hk1 hk2 hk3 => ?_, fun k hk1 hk2 hk3 hk4 => ?_⟩
      · simp only
        rw [gg, if_neg (by omega), if_neg (by omega)]; exact hk k hkn
      · simp only
        rw [gg, gg, if_neg (show ¬ c = (k - 1) / 2 from Ne.symm hk3)]
        by_cases c1 : i = (k - 1) / 2
        · rw [if_pos c1]
          by_cases c2 : c = k
          · rw [if_pos c2]; unfold Wo at *; omega
          · rw [if_neg c2, if_neg (by omega)]; exact hc3 k hk1 hk2 c1.symm
        · rw [if_neg c1, if_neg (show ¬ c = k by omega)]
          by_cases c2 : i = k
          · subst c2
            rw [if_pos rfl]
            exact g2 c (by omega) hc2 (by omega) (by omega)
          · rw [if_neg c2]; exact g1 k hk1 hk2 (Ne.symm c1)
      · simp only
        rw [gg, gg, if_neg (show ¬ c = k by omega), if_neg (show ¬ i = k by omega), if_neg (show ¬ c = (c - 1) / 2 by omega), if_pos (show i = (c - 1) / 2 by omega)]
        have := g1 k hk1 hk2 (by omega)
        rw [hk3] at this; exact this
theorem HP.top {ds h : List Int} {n : Nat} (hh : HP ds h n) : ∀ k, k < n → ¬ Wo ds (gd h k) (gd h 0) := by
  intro k
  induction k using Nat.strongRecOn with
  | ind k ih =>
    intro hk
    by_cases h0 : k = 0
    · subst h0; unfold Wo; omega
    · have h1 := hh k (by omega) hk
      have h2 := ih ((k - 1) / 2) (by omega) (by omega)
      unfold Wo at *; omega
theorem Kzg {ds h : List Int} (hd : InD ds h) (hl : h.length ≤ 90000) (hh : HP ds h h.length) {x : Int} (hx : 0 ≤ x ∧ x < (ds.length : Int)) : ∃ h', (oza h ds x).o = some (h', ds) ∧ h'.Perm (x :: h) ∧ HP ds h' (h.length + 1) := by
  have hl1 : (h ++ [x]).length = h.length + 1 := by simp
  have hd1 : InD ds (h ++ [x]) := fun y hy => by
    rcases List.mem_append.1 hy with hy | hy
    · exact hd y hy
    · simp at hy; subst hy; exact hx
  have hg : ∀ k, k < h.length → gd (h ++ [x]) k = gd h k := fun k hk => by simp [gd, List.getD_eq_getElem?_getD, List.getElem?_append_left hk]
  obtain ⟨h', q1, q2, q3⟩ := up_x hd1 (by omega) (j := h.length) (by omega) (fun k k1 k2 k3 => by rw [hg k (by omega), hg _ (by omega)]; exact hh k k1 (by omega)) (fun k k1 k2 k3 k4 => by omega)
  have hpush : (oz9 h ds x).o = some (h ++ [x], ds) := by
    show (kz2 h ds x).run NN = _
    simp only [kz2, T.run]
    rw [az4 (by simp only [List.length_cons, List.length_nil, azt]; omega)]
  have hw : IntKind.i64.wrap (((h ++ [x]).length : Int) - 1) = (h.length : Int) := by rw [hl1]; exact Jzb (by omega)
  have e1 : (jzf h ds x).o = some (h', ds) := by
    show (gzd h ds x).run NN = _
    simp only [gzd, T.run, hpush, Dzl, Option.bind_some, hw, q1]
  refine ⟨h', ?_, q2.trans (List.perm_append_singleton x h), by rw [hl1] at q3; exact q3⟩
  show (kz4 h ds x).run NN = _
  simp only [kz4, T.run, e1, Option.bind_some]
theorem Kze {ds h : List Int} (hd : InD ds h) (hl : h.length ≤ 90000) (hh : HP ds h h.length) (h0 : 0 < h.length) : ∃ h', (izk h ds).o = some (gd h 0, h', ds) ∧ (gd h 0 :: h').Perm h ∧ HP ds h' h'.length ∧ ∀ x ∈ h, ¬ Wo ds x (gd h 0) := by
  have hsl : (sw2 h 0 (h.length - 1)).length = h.length := Jz6 ..
  have hsp : (sw2 h 0 (h.length - 1)).Perm h := xzp h0 (by omega)
  have gg := fun k => Azp (h := h) (i := 0) (j := h.length - 1) h0 (by omega) k
  obtain ⟨b, g, q1, q2, q3, q4⟩ := Jzl (hd.perm hsp) (by omega) (n := h.length - 1) (by omega) (fun k k1 k2 k3 => by
    rw [gg, gg, if_neg (by omega), if_neg (by omega), if_neg (by omega), if_neg (by omega)]; exact hh k k1 (by omega))
  have hgl := q2.length_eq
  have hw : IntKind.i64.wrap ((h.length : Int) - 1) = ((h.length - 1 : Nat) : Int) := lzl (by omega) (by omega)
  have hw2 : IntKind.i64.wrap ((g.length : Int) - 1) = ((h.length - 1 : Nat) : Int) := by rw [hgl, hsl]; exact hw
  have hlast : g.getD (h.length - 1) default = gd h 0 := by
    have := q3 (h.length - 1) (Nat.le_refl _)
    rw [gg, if_pos rfl] at this; exact this
  have hpop : (pz8 g ds).o = some (gd h 0, g.take (h.length - 1), ds) := by
    show (lz8 g ds).run NN = _
    simp only [lz8, T.run, hw2, Int.toNat_natCast]
    rw [az4 (by omega), az4 (by omega), az4 (by omega), hlast]
  have hsw : (fzq h ds 0 ((h.length - 1 : Nat) : Int)).o = some (sw2 h 0 (h.length - 1), ds) := Ezr (i := 0) h0 (by omega)
  have e1 : (kzf h ds).o = some (gd h 0, g.take (h.length - 1), ds) := by
    show (hz6 h ds).run NN = _
    simp only [hz6, T.run, Dzl, Option.bind_some, hw, hsw, q1, hpop]
  have htl : (g.take (h.length - 1)).length = h.length - 1 := by rw [List.length_take]; omega
  refine ⟨g.take (h.length - 1), ?_, ?_, ?_, fun x hx => ?_⟩
  · show (lz9 h ds).run NN = _
    simp only [lz9, T.run, e1, Option.bind_some]
  · have : g = g.take (h.length - 1) ++ [gd h 0] := by
      have h2 := lzj (l := g) (k := h.length - 1) (by omega)
      rw [hlast] at h2
      rw [← h2, List.take_of_length_le (by omega)]
    refine List.Perm.trans ?_ (q2.trans hsp)
    conv => rhs; rw [this]
    exact (List.perm_append_singleton _ _).symm
  · rw [htl]
    intro k k1 k2
    have hg : ∀ k, k < h.length - 1 → gd (g.take (h.length - 1)) k = gd g k := fun k hk => by simp [gd, List.getD_eq_getElem?_getD, hk]
    rw [hg k k2, hg _ (by omega)]; exact q4 k k1 k2
  · obtain ⟨k, hk, rfl⟩ := List.getElem_of_mem hx
    have := hh.top k hk
    simpa only [gd, List.getD_eq_getElem?_getD, List.getElem?_eq_getElem hk, Option.getD_some] using this
open Go.Proofs
theorem Bz8 {l : List azj} {i : Nat} (h : mzw l i = 0) : (1 ≤ (l.getD i default).Weight ∧ (l.getD i default).Weight ≤ 1024) ∧ -4194304 ≤ (l.getD i default).Lo ∧ (l.getD i default).Hi ≤ 4194304 := by
  unfold mzw at h
  have hr := xzd (l.getD i default).Kind
  simp only at h
  split at h
  · omega
  · split at h
    · omega
    · split at h
      · omega
      · split at h
        · omega
        · split at h
          · omega
          · rename_i h6
            split at h
            · omega
            · rename_i h7
              unfold Bzs betV at h7
              simp only [Bool.not_eq_true', Bool.and_eq_true, decide_eq_true_eq, Bool.not_eq_false, Bool.or_eq_true, not_or] at h6 h7
              omega
def RoV (r : az8) : Prop := dz4 r = 0
theorem RoV.w {r : az8} (h : RoV r) {i : Nat} (hi : i < r.Joints.length) : 1 ≤ (r.Joints.getD i default).Weight ∧ (r.Joints.getD i default).Weight ≤ 1024 := (Bz8 ((gzl h).2.2 i hi)).1
def QOk (J : Nat) (q : List Int) : Prop := q.length = J ∧ ∀ x ∈ q, -4194304 ≤ x ∧ x ≤ 4194304
theorem ozx {r : az8} {c : List Int} (h : bzk r c = true) : QOk r.Joints.length c := by
  have hl := ez9 h
  unfold bzk at h
  simp only [Bool.and_eq_true, decide_eq_true_eq] at h
  obtain ⟨h1, h2, h3⟩ := h
  refine ⟨hl.1, fun x hx => ?_⟩
  obtain ⟨i, hi, rfl⟩ := List.getElem_of_mem hx
  have hj := (Bz8 ((gzl h1).2.2 i (by omega))).2
  have := noneB_iff.1 h3 i hi
  unfold outJ at this
  simp only [Bool.or_eq_false_iff, decide_eq_false_iff_not, List.getD_eq_getElem?_getD, List.getElem?_eq_getElem hi, Option.getD_some] at this hj
  omega
theorem Ez4 {r : az8} {P : List (List Int)} (hr : RoV r) (hl : P.length ≤ 1000) (h : ∀ c ∈ P, bzk r c = true) : PtsOk P r.Joints.length := by
  have := gzl hr
  exact ⟨hl, ⟨this.1, this.2.1⟩, fun c hc => ozx (h c hc)⟩
def aB (a b : Int) : Int := max (a - b) (b - a)
def sumR (r : az8) (p q : List Int) : Nat → Int
  | 0 => 0
  | n + 1 => sumR r p q n + (r.Joints.getD n default).Weight * aB (q.getD n default) (p.getD n default)
theorem QOk.at {J : Nat} {q : List Int} (h : QOk J q) (i : Nat) : -4194304 ≤ q.getD i default ∧ q.getD i default ≤ 4194304 := by
  by_cases hi : i < q.length
  · exact h.2 _ (azl hi)
  · have : q.getD i default = 0 := by simp [List.getD_eq_getElem?_getD, List.getElem?_eq_none (by omega : q.length ≤ i)]
    rw [this]; decide
section
variable {r : az8} {p q : List Int} (hr : RoV r) (hp : QOk r.Joints.length p) (hq : QOk r.Joints.length q)
include hr hp hq
theorem szn {n : Nat} (hn : n < r.Joints.length) : (0 ≤ aB (q.getD n default) (p.getD n default) ∧ aB (q.getD n default) (p.getD n default) ≤ 8388608) ∧ aB (q.getD n default) (p.getD n default) ≤ (r.Joints.getD n default).Weight * aB (q.getD n default) (p.getD n default) ∧ (r.Joints.getD n default).Weight * aB (q.getD n default) (p.getD n default) ≤ 8589934592 := by
  have hw := hr.w hn
  have h1 := hp.at n
  have h2 := hq.at n
  have h3 : 0 ≤ aB (q.getD n default) (p.getD n default) ∧ aB (q.getD n default) (p.getD n default) ≤ 8388608 := by unfold aB; omega
  generalize aB (q.getD n default) (p.getD n default) = a at h3
  refine ⟨h3, ?_, ?_⟩
  · have := Int.mul_le_mul_of_nonneg_right hw.1 h3.1; omega
  · have := Int.mul_le_mul hw.2 h3.2 h3.1 (by omega); omega
theorem Bzm : ∀ n, n ≤ r.Joints.length → 0 ≤ sumR r p q n ∧ sumR r p q n ≤ 8589934592 * (n : Int)
  | 0, _ => ⟨Int.le_refl _, by simp [sumR]⟩
  | n + 1, h => by
    have h1 := Bzm n (by omega)
    have h2 := szn hr hp hq (show n < r.Joints.length by omega)
    rw [sumR]; omega
theorem Azo : ∀ n, n ≤ r.Joints.length → ∀ t, t < n → (r.Joints.getD t default).Weight * aB (q.getD t default) (p.getD t default) ≤ sumR r p q n
  | 0, _, _, h => by omega
  | n + 1, h, t, ht => by
    have h1 := Bzm hr hp hq n (by omega)
    have h2 := szn hr hp hq (show n < r.Joints.length by omega)
    rw [sumR]
    by_cases e : t = n
    · subst e; omega
    · have := Azo n (by omega) t (by omega); omega
theorem Jz5 (hne : p ≠ q) : 0 < sumR r p q r.Joints.length := by
  refine Classical.byContradiction fun hc => hne ?_
  refine pzt (by rw [hp.1, hq.1]) fun i hi => ?_
  have hi' : i < r.Joints.length := by rw [← hp.1]; exact hi
  have h1 := Azo hr hp hq r.Joints.length (Nat.le_refl _) i hi'
  have h2 := szn hr hp hq hi'
  have : aB (q.getD i default) (p.getD i default) ≤ 0 := by omega
  unfold aB at this; omega
theorem Ezp : ∀ n, n ≤ r.Joints.length → sumD r p q n = sumR r p q n
  | 0, _ => rfl
  | n + 1, h => by
    have h0 := Bzm hr hp hq n (by omega)
    have h2 := szn hr hp hq (show n < r.Joints.length by omega)
    have hJ := (gzl hr).2.1
    have h3 := hp.at n
    have h4 := hq.at n
    rw [sumD, Kzp, Ezp n (by omega), sumR, w64 (x := q.getD n default - p.getD n default) (by omega) (by omega), w64 (x := p.getD n default - q.getD n default) (by omega) (by omega)]
    have e : max (q.getD n default - p.getD n default) (p.getD n default - q.getD n default) = aB (q.getD n default) (p.getD n default) := rfl
    rw [e, w64 (x := (r.Joints.getD n default).Weight * aB (q.getD n default) (p.getD n default)) (by omega) (by omega), w64 (by omega) (by omega)]
theorem Jzm : dstV r p q = sumR r p q r.Joints.length := by
  have hb : badD r p q = false := by
    unfold badD
    have s : ∀ {c : List Int}, QOk r.Joints.length c → oze c = true := fun {c} hc => by
      unfold oze
      refine noneB_iff.2 fun i hi => ?_
      have := hc.at i
      unfold big1
      simp only [Bool.or_eq_false_iff, decide_eq_false_iff_not]; omega
    rw [decide_eq_true hp.1, decide_eq_true hq.1, s hp, s hq, decide_eq_true (show dz4 r = 0 from hr)]; rfl
  unfold dstV
  rw [hb]
  exact Ezp hr hp hq _ (Nat.le_refl _)
end
def dI (r : az8) (P : List (List Int)) (q : List Int) (x : Int) : Int := dQ r P q x.toNat
section
variable {r : az8} {P : List (List Int)} {q : List Int} (hr : RoV r) (hP : PtsOk P r.Joints.length) (hq : QOk r.Joints.length q)
include hr hP hq
theorem Fz6 {x : Int} (hx : InP P x) : dI r P q x = sumR r (P.getD x.toNat default) q r.Joints.length :=
  Jzm hr (hP.2.2 _ (azl (by unfold InP at hx; omega))) hq
theorem Bzu (Q : List aze) {x : Int} (hx : InP P x) : (nz3 ⟨r.Joints, P, Q, q⟩ x).o = some (dI r P q x) := by
  have hp := hP.2.2 _ (azl (show x.toNat < P.length by unfold InP at hx; omega))
  have hp : QOk r.Joints.length (P.getD x.toNat default) := hp
  rw [Fz6 hr hP hq hx]
  show (jzb ⟨r.Joints, P, Q, q⟩ x).run NN = _
  have hJ := (gzl hr).2.1
  simp only [jzb, T.run]
  unfold InP at hx
  rw [az4 (by omega)]
  have hl := hp.1
  have hlq := hq.1
  generalize P.getD x.toNat default = p at hp hl ⊢
  refine (nzk (fun j => (sumR r p q j, (j : Int))) (sumR r p q r.Joints.length) r.Joints.length rfl (by show _ < 4294967296; omega) (fun j hj => ?_) ?_).trans rfl
  · have h0 := Bzm hr hp hq j (by omega)
    have h2 := szn hr hp hq hj
    have h3 := hp.at j
    have h4 := hq.at j
    dsimp only
    rw [az7 (by omega), az4 (by omega), az4 (by omega), az4 (by omega), Int.toNat_natCast, w64 (x := q.getD j default - p.getD j default) (by omega) (by omega), w64 (x := 0 - (q.getD j default - p.getD j default)) (by omega) (by omega)]
    have e : max (q.getD j default - p.getD j default) (0 - (q.getD j default - p.getD j default)) = aB (q.getD j default) (p.getD j default) := by unfold aB; omega
    rw [e, w64 (x := (r.Joints.getD j default).Weight * aB (q.getD j default) (p.getD j default)) (by omega) (by omega), w64 (by omega) (by omega), wn (by omega)]
    rfl
  · dsimp only; rw [az6 (by omega)]
end
def LtI (d : Int → Int) (x y : Int) : Prop := d x < d y ∨ (d x = d y ∧ x < y)
structure WI (P : List (List Int)) (d : Int → Int) (k : Nat) (Z : Int → Prop) (ds h : List Int) : Prop where
  dl : ds.length = P.length
  nd : h.Nodup
  hz : ∀ x ∈ h, Z x
  zp : ∀ z, Z z → InP P z
  dd : ∀ x ∈ h, dv ds x = d x
  hp : HP ds h h.length
  lk : h.length ≤ k
  all : h.length < k → ∀ z, Z z → z ∈ h
  best : ∀ x ∈ h, ∀ z, Z z → ¬ z ∈ h → LtI d x z
theorem WI.congr {P : List (List Int)} {d : Int → Int} {k : Nat} {Z Z' : Int → Prop} {ds h : List Int} (w : WI P d k Z ds h) (hz : ∀ z, Z z ↔ Z' z) : WI P d k Z' ds h :=
  ⟨w.dl, w.nd, fun x hx => (hz x).1 (w.hz x hx), fun z h => w.zp z ((hz z).2 h), w.dd, w.hp, w.lk, fun h z hz' => w.all h z ((hz z).2 hz'), fun x hx z hz' hn => w.best x hx z ((hz z).2 hz') hn⟩
theorem WI.inD {P : List (List Int)} {d : Int → Int} {k : Nat} {Z : Int → Prop} {ds h : List Int} (w : WI P d k Z ds h) : InD ds h := fun x hx => by
  have := w.zp x (w.hz x hx)
  rw [w.dl]; exact this
theorem Hz3 {ds : List Int} {x y v : Int} (hx : 0 ≤ x ∧ x < (ds.length : Int)) (hy : 0 ≤ y) : dv (ds.set x.toNat v) y = if x = y then v else dv ds y := by
  unfold dv
  rw [gzt (by omega)]
  by_cases h : x = y
  · subst h; rw [if_pos rfl, if_pos rfl]
  · rw [if_neg h, if_neg (by omega)]
theorem Kzr {P : List (List Int)} {d : Int → Int} {k : Nat} {Z : Int → Prop} {ds h : List Int} (w : WI P d k Z ds h) (hk1 : 1 ≤ k) (hk2 : k ≤ 2000) {x : Int} (hx : InP P x) (hn : ¬ Z x) :
    ∃ ds' h', (hzb x (d x) ds h (k : Int)).o = some (ds', h') ∧ WI P d k (fun z => Z z ∨ z = x) ds' h' := by
  have hxh : ¬ x ∈ h := fun hx' => hn (w.hz x hx')
  have hxd : 0 ≤ x ∧ x < (ds.length : Int) := by rw [w.dl]; exact hx
  obtain ⟨D, hD⟩ : ∃ D, D = ds.set x.toNat (d x) := ⟨_, rfl⟩
  have hDl : D.length = ds.length := by rw [hD, List.length_set]
  have hDo : ∀ y, 0 ≤ y → y ≠ x → dv D y = dv ds y := fun y hy hyx => by rw [hD, Hz3 hxd hy, if_neg (Ne.symm hyx)]
  have hDx : dv D x = d x := by rw [hD, Hz3 hxd hxd.1, if_pos rfl]
  have hin := w.inD
  have hDh : ∀ y ∈ h, dv D y = d y := fun y hy => by
    rw [hDo y (hin y hy).1 (fun e => hxh (by rw [← e]; exact hy))]; exact w.dd y hy
  have hinD : InD D h := fun y hy => by rw [hDl]; exact hin y hy
  have hHP : HP D h h.length := fun i i1 i2 => by
    have m1 := azl i2
    have m2 := azl (show (i - 1) / 2 < h.length by omega)
    have := w.hp i i1 i2
    unfold Wo at this ⊢
    rw [hDh _ m1, hDh _ m2]
    rw [w.dd _ m1, w.dd _ m2] at this
    exact this
  have hlk := w.lk
  obtain ⟨h1, p1, p2, p3⟩ := Kzg hinD (by omega) hHP (x := x) (by rw [hDl]; exact hxd)
  have hl1 : h1.length = h.length + 1 := by rw [p2.length_eq]; rfl
  have hin1 : InD D h1 := fun y hy => by
    rcases List.mem_cons.1 (p2.mem_iff.1 hy) with rfl | hy
    · rw [hDl]; exact hxd
    · exact hinD y hy
  have hd1 : ∀ y ∈ h1, dv D y = d y := fun y hy => by
    rcases List.mem_cons.1 (p2.mem_iff.1 hy) with rfl | hy
    · exact hDx
    · exact hDh y hy
  have hn1 : h1.Nodup := p2.nodup_iff.2 (List.nodup_cons.2 ⟨hxh, w.nd⟩)
  have hz1 : ∀ y ∈ h1, Z y ∨ y = x := fun y hy => by
    rcases List.mem_cons.1 (p2.mem_iff.1 hy) with rfl | hy
    · exact .inr rfl
    · exact .inl (w.hz y hy)
  have hzp : ∀ z, Z z ∨ z = x → InP P z := fun z hz => by
    rcases hz with hz | rfl
    · exact w.zp z hz
    · exact hx
  have hm1 : ∀ z, ¬ z ∈ h1 → ¬ z ∈ h ∧ z ≠ x := fun z hz => ⟨fun hh => hz (p2.mem_iff.2 (List.mem_cons_of_mem _ hh)), fun hh => hz (p2.mem_iff.2 (by rw [hh]; exact List.mem_cons_self ..))⟩
  have e0 : (hzb x (d x) ds h (k : Int)).o = (hzd x (d x) ds h (k : Int)).run NN := rfl
  rw [e0]
  simp only [hzd, T.run]
  rw [az4 (by omega), az4 (by omega), ← hD, p1]
  simp only [Option.bind_some, Dzl]
  by_cases hgt : h1.length > k
  · obtain ⟨h2, t1, t2, t3, t4⟩ := Kze hin1 (by omega) (by rw [hl1]; exact p3) (by omega)
    rw [az7 (by omega), t1]
    have hl2 : h2.length + 1 = h1.length := by have := t2.length_eq; simpa using this
    have hn2 : (gd h1 0 :: h2).Nodup := t2.nodup_iff.2 hn1
    have hs2 : ∀ y ∈ h2, y ∈ h1 := fun y hy => t2.mem_iff.1 (List.mem_cons_of_mem _ hy)
    obtain ⟨n1, n2⟩ := List.nodup_cons.1 hn2
    have hmem : gd h1 0 ∈ h1 := t2.mem_iff.1 (List.mem_cons_self ..)
    have hlt : ∀ y ∈ h2, LtI d y (gd h1 0) := fun y hy => by
      have h3 := t4 y (hs2 y hy)
      have h4 : y ≠ gd h1 0 := fun e => n1 (by rw [← e]; exact hy)
      unfold Wo at h3
      rw [hd1 y (hs2 y hy), hd1 _ hmem] at h3
      unfold LtI; omega
    refine ⟨D, h2, rfl, ⟨by rw [hDl]; exact w.dl, n2, fun y hy => hz1 y (hs2 y hy), hzp, fun y hy => hd1 y (hs2 y hy), t3, by omega, fun hh => by omega, fun y hy z hz hnz => ?_⟩⟩
    by_cases hzt : z = gd h1 0
    · rw [hzt]; exact hlt y hy
    · have hz1' : ¬ z ∈ h1 := fun hh => by
        rcases List.mem_cons.1 (t2.mem_iff.2 hh) with hh | hh
        · exact hzt hh
        · exact hnz hh
      obtain ⟨hzh, hzx⟩ := hm1 z hz1'
      have hZz : Z z := hz.resolve_right hzx
      rcases List.mem_cons.1 (p2.mem_iff.1 (hs2 y hy)) with rfl | hyh
      · have hth : gd h1 0 ∈ h := by
          rcases List.mem_cons.1 (p2.mem_iff.1 hmem) with e | e
          · exact absurd (by rw [e]; exact hy) n1
          · exact e
        have k1 := w.best _ hth z hZz hzh
        have k2 := hlt y hy
        unfold LtI at *; omega
      · exact w.best y hyh z hZz hzh
  · rw [az6 (by omega)]
    refine ⟨D, h1, rfl, ⟨by rw [hDl]; exact w.dl, hn1, hz1, hzp, hd1, by rw [hl1]; exact p3, by omega, fun _ z hz => ?_, fun y hy z hz hnz => ?_⟩⟩
    · rcases hz with hz | rfl
      · exact p2.mem_iff.2 (List.mem_cons_of_mem _ (w.all (by omega) z hz))
      · exact p2.mem_iff.2 (List.mem_cons_self ..)
    · obtain ⟨hzh, hzx⟩ := hm1 z hnz
      exact absurd (w.all (by omega) z (hz.resolve_right hzx)) hzh
open Go.Proofs
section
variable {r : az8} {P : List (List Int)} {q : List Int} (hr : RoV r) (hP : PtsOk P r.Joints.length) (hq : QOk r.Joints.length q)
include hr hP hq
theorem Hz4 {ax pt x : Int} (ha : 0 ≤ ax ∧ ax < (r.Joints.length : Int)) (hpt : InP P pt) (hx : InP P x) (hs : (q.getD ax.toNat default ≤ vK P ax pt ∧ vK P ax pt ≤ vK P ax x) ∨ (vK P ax x ≤ vK P ax pt ∧ vK P ax pt ≤ q.getD ax.toNat default)) :
    (r.Joints.getD ax.toNat default).Weight * aB (q.getD ax.toNat default) (vK P ax pt) ≤ dI r P q x := by
  have hp1 := hP.2.2 _ (azl (show x.toNat < P.length by unfold InP at hx; omega))
  have hp1 : QOk r.Joints.length (P.getD x.toNat default) := hp1
  rw [Fz6 hr hP hq hx]
  have h1 := Azo hr hp1 hq r.Joints.length (Nat.le_refl _) ax.toNat (by omega)
  have hw := hr.w (show ax.toNat < r.Joints.length by omega)
  refine Int.le_trans (Int.mul_le_mul_of_nonneg_left ?_ (by omega)) h1
  show _ ≤ aB (q.getD ax.toNat default) (vK P ax x)
  unfold aB; omega
theorem Ezv {Q : List aze} (hinj : ∀ a b, a < P.length → b < P.length → (nd Q a).Point = (nd Q b).Point → a = b) (hQ : Q.length = P.length) {k : Nat} (hk1 : 1 ≤ k) (hk2 : k ≤ 2000) : ∀ (N : Nat) (i : Int) (b e : Nat) (Z : Int → Prop) (ds h : List Int), e - b < N → KD P r.Joints.length Q i b e → e ≤ P.length →
    (∀ j, b ≤ j → j < e → ¬ Z (nd Q j).Point) → WI P (dI r P q) k Z ds h →
    ∃ ds' h', (RecS.fix ezs N).o (i, r.Joints, P, Q, q, ds, h, (k : Int)) = some (ds', h') ∧ WI P (dI r P q) k (fun z => Z z ∨ ∃ j, b ≤ j ∧ j < e ∧ z = (nd Q j).Point) ds' h'
  | 0, _, _, _, _, _, _, hN, _, _, _, _ => by omega
  | N + 1, i, b, e, Z, ds, h, hN, kd, heP, hZ, w => by
    have ho : (RecS.fix ezs (N + 1)).o (i, r.Joints, P, Q, q, ds, h, (k : Int)) = (kzc (RecS.fix ezs N) i r.Joints P Q q ds h (k : Int)).run NN := rfl
    rw [ho]
    simp only [kzc, T.run]
    rcases kd.root with ⟨rfl, rfl⟩ | ⟨rfl, hbe⟩
    · rw [fzh rfl]
      exact ⟨ds, h, rfl, w.congr fun z => ⟨.inl, fun h => h.elim id fun ⟨j, j1, j2, _⟩ => by omega⟩⟩
    obtain ⟨hbQ, hax, hpt⟩ := kd.data b (Nat.le_refl _) hbe
    obtain ⟨m, k1, k2, o1, o2⟩ := kd.inv
    have l1 := k1.le
    have l2 := k2.le
    have hnd : Q.getD b default = nd Q b := rfl
    have hJl := hP.at hpt
    have hql := hq.1
    rw [ezt (by omega), az4 (by omega)]
    simp only [Int.toNat_natCast, hnd]
    rw [Bzu hr hP hq Q hpt]
    simp only [Option.bind_some]
    obtain ⟨ds1, h1, t1, w1⟩ := Kzr w hk1 hk2 hpt (hZ b (Nat.le_refl _) hbe)
    have hpt' := hpt
    unfold InP at hpt'
    rw [t1]
    simp only [Option.bind_some]
    rw [az4 (by omega), az4 (by omega), az4 (by omega)]
    obtain ⟨v, hv⟩ : ∃ v, v = vK P (nd Q b).Axis (nd Q b).Point := ⟨_, rfl⟩
    have hvx : (P.getD (nd Q b).Point.toNat default).getD (nd Q b).Axis.toNat default = v := by rw [hv]; rfl
    rw [hvx]
    have hqb := hq.at (nd Q b).Axis.toNat
    have hp0 := hP.2.2 _ (azl (show (nd Q b).Point.toNat < P.length by omega))
    have hp0 : QOk r.Joints.length (P.getD (nd Q b).Point.toNat default) := hp0
    have hvb := hp0.at (nd Q b).Axis.toNat
    rw [hvx] at hvb
    have hww := hr.w (show (nd Q b).Axis.toNat < r.Joints.length by omega)
    have eg : IntKind.i64.wrap (q.getD (nd Q b).Axis.toNat default - v) = q.getD (nd Q b).Axis.toNat default - v := w64 (by omega) (by omega)
    have eg2 : IntKind.i64.wrap (0 - (q.getD (nd Q b).Axis.toNat default - v)) = 0 - (q.getD (nd Q b).Axis.toNat default - v) := w64 (by omega) (by omega)
    have emx : max (q.getD (nd Q b).Axis.toNat default - v) (0 - (q.getD (nd Q b).Axis.toNat default - v)) = aB (q.getD (nd Q b).Axis.toNat default) v := by unfold aB; omega
    have ewt : IntKind.i64.wrap ((r.Joints.getD (nd Q b).Axis.toNat default).Weight * aB (q.getD (nd Q b).Axis.toNat default) v) = (r.Joints.getD (nd Q b).Axis.toNat default).Weight * aB (q.getD (nd Q b).Axis.toNat default) v := by
      have := szn hr hp0 hq (show (nd Q b).Axis.toNat < r.Joints.length by omega)
      rw [hvx] at this
      exact w64 (by omega) (by omega)
    simp only [eg, eg2, emx, ewt]
    have hfd : ∀ j, b < j → j < e → InP P (nd Q j).Point := fun j j1 j2 => (kd.data j (by omega) j2).2.2
    obtain ⟨iN, bN, eN, iF, bF, eF, hA, kN, kF, hrng, hlr, hfar⟩ : ∃ iN bN eN iF bF eF, (bif decide (q.getD (nd Q b).Axis.toNat default - v > 0) then some (Step3.out ((nd Q b).High, (nd Q b).Low)) else some (Step3.out ((nd Q b).Low, (nd Q b).High)) : Option (Step3 Unit (Int × Int) (List Int × List Int))) = some (.out (iN, iF)) ∧ KD P r.Joints.length Q iN bN eN ∧ KD P r.Joints.length Q iF bF eF ∧
        (∀ j, (bN ≤ j ∧ j < eN) ∨ (bF ≤ j ∧ j < eF) ↔ b + 1 ≤ j ∧ j < e) ∧ ((eN ≤ bF ∨ eF ≤ bN) ∧ (b + 1 ≤ bN ∧ eN ≤ e ∧ bN ≤ eN) ∧ (b + 1 ≤ bF ∧ eF ≤ e ∧ bF ≤ eF)) ∧ ∀ j, bF ≤ j → j < eF → (r.Joints.getD (nd Q b).Axis.toNat default).Weight * aB (q.getD (nd Q b).Axis.toNat default) v ≤ dI r P q (nd Q j).Point := by
      by_cases hgap : q.getD (nd Q b).Axis.toNat default - v > 0
      · refine ⟨_, m, e, _, b + 1, m, by rw [az7 hgap], k2, k1, fun j => by omega, by omega, fun j j1 j2 => ?_⟩
        have := ltK_iff.1 (o1 j j1 j2)
        rw [hv]
        exact Hz4 hr hP hq hax hpt (hfd j (by omega) (by omega)) (.inr (by omega))
      · refine ⟨_, b + 1, m, _, m, e, by rw [az6 hgap], k1, k2, fun j => by omega, by omega, fun j j1 j2 => ?_⟩
        have := ltK_iff.1 (o2 j j1 j2)
        rw [hv]
        exact Hz4 hr hP hq hax hpt (hfd j (by omega) (by omega)) (.inl (by omega))
    rw [hA, az5]
    simp only
    have hself : ∀ j, b < j → j < e → (nd Q j).Point ≠ (nd Q b).Point := fun j j1 j2 hh => by
      have := hinj j b (by omega) (by omega) hh; omega
    obtain ⟨ds2, h2, t2, w2⟩ := Ezv hinj hQ hk1 hk2 N iN bN eN (fun z => Z z ∨ z = (nd Q b).Point) ds1 h1 (by omega) kN (by omega) (fun j j1 j2 hz => by
      rcases hz with hz | hz
      · exact hZ j (by omega) (by omega) hz
      · exact hself j (by omega) (by omega) hz) w1
    have hC : ((RecS.fix ezs N).C (iN, r.Joints, P, Q, q, ds1, h1, (k : Int))).o = some (ds2, h2) := t2
    rw [hC]
    simp only [Option.bind_some]
    rw [az4 (by omega)]
    have hfin : ∀ z, ((Z z ∨ z = (nd Q b).Point) ∨ ∃ j, bN ≤ j ∧ j < eN ∧ z = (nd Q j).Point) ∨ (∃ j, bF ≤ j ∧ j < eF ∧ z = (nd Q j).Point) ↔ Z z ∨ ∃ j, b ≤ j ∧ j < e ∧ z = (nd Q j).Point := fun z => by
      constructor
      · rintro (((h | h) | ⟨j, j1, j2, h⟩) | ⟨j, j1, j2, h⟩)
        · exact .inl h
        · exact .inr ⟨b, Nat.le_refl _, hbe, h⟩
        · exact .inr ⟨j, by omega, by omega, h⟩
        · exact .inr ⟨j, by omega, by omega, h⟩
      · rintro (h | ⟨j, j1, j2, h⟩)
        · exact .inl (.inl (.inl h))
        · by_cases hjb : j = b
          · subst hjb; exact .inl (.inl (.inr h))
          · rcases (hrng j).2 ⟨by omega, j2⟩ with hh | hh
            · exact .inl (.inr ⟨j, hh.1, hh.2, h⟩)
            · exact .inr ⟨j, hh.1, hh.2, h⟩
    have hnz : ∀ j, bF ≤ j → j < eF → ¬ ((Z (nd Q j).Point ∨ (nd Q j).Point = (nd Q b).Point) ∨ ∃ j', bN ≤ j' ∧ j' < eN ∧ (nd Q j).Point = (nd Q j').Point) := fun j j1 j2 hz => by
      rcases hz with (hz | hz) | ⟨j', a1, a2, hz⟩
      · exact hZ j (by omega) (by omega) hz
      · exact hself j (by omega) (by omega) hz
      · have := hinj j j' (by omega) (by omega) hz; omega
    have e3 : (kzh h2 ds2 (k : Int)).o = (hza h2 ds2 (k : Int)).run NN := rfl
    rw [e3]
    simp only [hza, T.run, Dzl, Option.bind_some]
    have go : ∃ ds' h', ((RecS.fix ezs N).C (iF, r.Joints, P, Q, q, ds2, h2, (k : Int))).o = some (ds', h') ∧ WI P (dI r P q) k (fun z => Z z ∨ ∃ j, b ≤ j ∧ j < e ∧ z = (nd Q j).Point) ds' h' := by
      obtain ⟨ds3, h3, t3, w3⟩ := Ezv hinj hQ hk1 hk2 N iF bF eF _ ds2 h2 (by omega) kF (by omega) hnz w2
      exact ⟨ds3, h3, t3, w3.congr hfin⟩
    by_cases hlt : h2.length < k
    · obtain ⟨ds3, h3, t3, w3⟩ := go
      rw [az7 (by omega)]
      simp only [Option.bind_some, Bool.not_false, cond_true, az5]
      rw [t3]
      exact ⟨ds3, h3, rfl, w3⟩
    · have hlk := w2.lk
      have hlen : h2.length = k := by omega
      have z0 : (0 : Int).toNat = 0 := rfl
      have hm0 : gd h2 0 ∈ h2 := azl (show 0 < h2.length by omega)
      have hi0 := w2.inD _ hm0
      have hgd : h2.getD 0 default = gd h2 0 := rfl
      rw [az6 (by omega)]
      simp only [z0, hgd]
      rw [az4 (by omega), az4 (by omega), az4 (by omega), az4 (by omega)]
      simp only [Option.bind_some, Bool.not_true, cond_false, az5]
      have hdv : ds2.getD (gd h2 0).toNat default = dI r P q (gd h2 0) := w2.dd _ hm0
      rw [hdv]
      by_cases hle : (r.Joints.getD (nd Q b).Axis.toNat default).Weight * aB (q.getD (nd Q b).Axis.toNat default) v ≤ dI r P q (gd h2 0)
      · obtain ⟨ds3, h3, t3, w3⟩ := go
        rw [az7 hle, t3]
        exact ⟨ds3, h3, rfl, w3⟩
      · rw [az6 hle]
        refine ⟨ds2, h2, rfl, WI.congr ?_ hfin⟩
        refine ⟨w2.dl, w2.nd, fun x hx => .inl (w2.hz x hx), fun z hz => ?_, w2.dd, w2.hp, w2.lk, fun hh => by omega, fun x hx z hz hnz' => ?_⟩
        · rcases hz with hz | ⟨j, j1, j2, rfl⟩
          · exact w2.zp z hz
          · exact hfd j (by omega) (by omega)
        · rcases hz with hz | ⟨j, j1, j2, rfl⟩
          · exact w2.best x hx z hz hnz'
          · have h3 := hfar j j1 j2
            obtain ⟨t, ht, htx⟩ := List.getElem_of_mem hx
            have h4 := w2.hp.top t ht
            have h5 : gd h2 t = x := by rw [← htx]; simp [gd, List.getD_eq_getElem?_getD, ht]
            rw [h5] at h4
            unfold Wo at h4
            rw [w2.dd x hx, w2.dd _ hm0] at h4
            unfold LtI; omega
def Hzk (P : List (List Int)) (d : Int → Int) (k : Nat) (L : List Int) : Prop := L.Pairwise (LtI d) ∧ (∀ x ∈ L, InP P x) ∧ L.length ≤ k ∧ (L.length < k → ∀ z, InP P z → z ∈ L) ∧ ∀ x ∈ L, ∀ z, InP P z → ¬ z ∈ L → LtI d x z
omit hr hP hq in
theorem Kzf {ds : List Int} {n0 : Nat} (hn : n0 ≤ 90000) {d : Int → Int} {h0 : List Int} (hl0 : h0.length = n0) (hnd : h0.Nodup) (hin : InD ds h0) (hhp : HP ds h0 h0.length) (hd : ∀ x ∈ h0, dv ds x = d x) : ∃ L, andK (iter (fun x : List Int × List Int × List Int × Int => bif decide (x.2.2.2 ≥ 0) then (izk x.2.1 x.2.2.1).o.bind fun y => grd (0 ≤ x.2.2.2 ∧ x.2.2.2 < (x.1.length : Int)) (grd (x.2.2.2.toNat < x.1.length ∧ 0 ≤ x.2.2.2.toNat) (some (Step3.next (x.1.set x.2.2.2.toNat y.1, y.2.1, y.2.2, IntKind.i64.wrap (x.2.2.2 - 1))))) else some (Step3.out x.1)) NN (List.replicate n0 (0 : Int), h0, ds, IntKind.i64.wrap ((n0 : Int) - 1))) (fun y => some y) = some L ∧ L.Perm h0 ∧ L.Pairwise (LtI d) := by
  refine ezm (P := fun L : List Int => L.Perm h0 ∧ L.Pairwise (LtI d)) (x := (List.replicate n0 (0 : Int), h0, ds, IntKind.i64.wrap ((n0 : Int) - 1)))
    (fun m (y : List Int × List Int × List Int × Int) => y.2.2.1 = ds ∧ y.2.2.2 = (y.2.1.length : Int) - 1 ∧ y.2.1.length ≤ m ∧ y.2.1.length ≤ n0 ∧ y.1.length = n0 ∧ (y.2.1 ++ y.1.drop y.2.1.length).Perm h0 ∧ HP ds y.2.1 y.2.1.length ∧ (y.1.drop y.2.1.length).Pairwise (LtI d) ∧ ∀ x ∈ y.2.1, ∀ t ∈ y.1.drop y.2.1.length, LtI d x t)
    (fun L : List Int => L.Perm h0 ∧ L.Pairwise (LtI d)) n0 ⟨rfl, by simp only; rw [w64 (by omega) (by omega)]; omega, by simp only; omega, by simp only; omega, by simp, by simp [hl0], hhp, by simp [hl0], by simp [hl0]⟩ (by omega) ?_ (fun z hz => ⟨_, rfl, hz⟩)
  rintro m ⟨z, h, d', y⟩ ⟨hd', hy, hm, hln, hz, hp, hh, hs, hb⟩
  simp only at hd' hy hm hln hz hp hh hs hb ⊢
  rw [hd']
  have hmem : ∀ x ∈ h, x ∈ h0 := fun x hx => hp.mem_iff.1 (List.mem_append_left _ hx)
  by_cases h0' : h.length = 0
  · obtain rfl := List.length_eq_zero_iff.1 h0'
    rw [az6 (by simp at hy; omega)]
    refine .inr (.inl ⟨_, rfl, ?_, ?_⟩)
    · simpa using hp
    · simpa using hs
  · obtain ⟨g, t1, t2, t3, t4⟩ := Kze (ds := ds) (h := h) (fun x hx => hin x (hmem x hx)) (by omega) hh (by omega)
    have hgl : g.length + 1 = h.length := by have := t2.length_eq; simpa using this
    have hnh : h.Nodup := by
      have := hp.nodup_iff.2 hnd
      exact (List.nodup_append.1 this).1
    obtain ⟨n1, n2⟩ := List.nodup_cons.1 (t2.nodup_iff.2 hnh)
    have htop : gd h 0 ∈ h := t2.mem_iff.1 (List.mem_cons_self ..)
    have hy' : y = (g.length : Int) := by omega
    subst hy'
    rw [az7 (by omega), t1]
    simp only [Option.bind_some, Int.toNat_natCast]
    rw [az4 (by omega), az4 (by omega)]
    have hdrop : (z.set g.length (gd h 0)).drop g.length = gd h 0 :: z.drop h.length := by
      rw [List.drop_set, if_neg (by omega), Nat.sub_self, ← hgl]
      have : z.drop g.length = z.getD g.length default :: z.drop (g.length + 1) := by
        rw [List.drop_eq_getElem_cons (by omega), List.getD_eq_getElem?_getD, List.getElem?_eq_getElem (by omega), Option.getD_some]
      rw [this]; rfl
    refine .inl ⟨_, m - 1, rfl, by omega, rfl, w64 (by omega) (by omega), by simp only; omega, by simp only; omega, by simp only [List.length_set]; exact hz, ?_, t3, ?_, fun x hx t ht => ?_⟩
    · simp only
      rw [hdrop]
      exact (List.perm_middle.trans (List.Perm.append_right _ t2)).trans hp
    · simp only
      rw [hdrop]
      exact List.pairwise_cons.2 ⟨fun t ht => hb _ htop t ht, hs⟩
    · simp only at hx ht
      rw [hdrop] at ht
      have hxh : x ∈ h := t2.mem_iff.1 (List.mem_cons_of_mem _ hx)
      rcases List.mem_cons.1 ht with rfl | ht
      · have h3 := t4 x hxh
        have h4 : x ≠ gd h 0 := fun e => n1 (by rw [← e]; exact hx)
        unfold Wo at h3
        rw [hd x (hmem x hxh), hd _ (hmem _ htop)] at h3
        unfold LtI; omega
      · exact hb x hxh t ht
theorem Jzo {Q : List aze} (hw : KDw P r.Joints.length Q) : (pz5 r P Q q).o = some true := by
  have er : (⟨r.Joints, r.Masses⟩ : az8) = r := rfl
  have hJ := gzl hr
  have hv : dz4 r = 0 := hr
  have hsm : (hzo q).o = some true := Ezk q (by rw [hq.1]; omega) hq.2
  show (lz6 r P Q q).run NN = _
  simp only [lz6, T.run, er, izr, hv, hsm, Gzu hP hw, Option.bind_some]
  rw [cz9 rfl, cz9 (by rw [hq.1])]
  simp only [Bool.not_true, cond_false, az5]
  by_cases h0 : P.length = 0
  · rw [fzh (by omega)]
  · have z0 : (0 : Int).toNat = 0 := rfl
    have := (hP.2.2 _ (azl (show 0 < P.length by omega))).1
    rw [ezt (by omega), az4 (by omega), z0, this]; simp
theorem yzy {Q : List aze} (hw : KDw P r.Joints.length Q) {k : Nat} (hk1 : 1 ≤ k) (hk2 : k ≤ 2000) (hpts : ∀ x, InP P x → ∃ j, j < P.length ∧ (nd Q j).Point = x) : ∃ L, (gz4 r P Q q (k : Int)).o = some L ∧ Hzk P (dI r P q) k L := by
  have er : (⟨r.Joints, r.Masses⟩ : az8) = r := rfl
  obtain ⟨i0, hkd⟩ := hw.kd
  have hn := hP.1
  show ∃ L, (ezv r P Q q (k : Int)).run NN = some L ∧ _
  simp only [ezv, T.run, er, Jzo hr hP hq hw, Option.bind_some]
  rw [az6 (by omega), az5]
  simp only [Bool.not_true, cond_false]
  rw [az4 (by omega)]
  simp only [Int.toNat_natCast]
  have w0 : WI P (dI r P q) k (fun _ => False) (List.replicate P.length (0 : Int)) [] :=
    ⟨by simp, List.nodup_nil, fun x hx => (by cases hx), fun z hz => hz.elim, fun x hx => (by cases hx), fun i i1 i2 => (by simp at i2), Nat.zero_le _, fun _ z hz => hz.elim, fun x hx => (by cases hx)⟩
  obtain ⟨ds, h, v1, w⟩ : ∃ ds h, (qzl ⟨r.Joints, P, Q, q⟩ nl (List.replicate P.length (0 : Int)) (k : Int)).o = some (h, ds) ∧ WI P (dI r P q) k (InP P) ds h := by
    show ∃ ds h, (mzm ⟨r.Joints, P, Q, q⟩ nl (List.replicate P.length (0 : Int)) (k : Int)).run NN = some (h, ds) ∧ _
    simp only [mzm, T.run]
    have hl := hw.len
    by_cases h0 : 0 < P.length
    · have hkd' : KD P r.Joints.length Q 0 0 P.length := by
        rcases hkd.root with ⟨-, h⟩ | ⟨h, -⟩
        · omega
        · rw [h] at hkd; exact hkd
      obtain ⟨ds, h, t, w⟩ := Ezv hr hP hq hw.inj hl hk1 hk2 NN 0 0 P.length (fun _ => False) (List.replicate P.length (0 : Int)) [] (by show _ < 4294967296; omega) hkd' (Nat.le_refl _) (fun _ _ _ h => h) w0
      have hC : (ozd 0 r.Joints P Q q (List.replicate P.length (0 : Int)) nl (k : Int)).o = some (ds, h) := t
      rw [az7 (by omega), hC]
      refine ⟨ds, h, rfl, w.congr fun z => ?_⟩
      constructor
      · rintro (h | ⟨j, j1, j2, rfl⟩)
        · exact h.elim
        · exact (hkd'.data j j1 j2).2.2
      · intro hz
        obtain ⟨j, j1, j2⟩ := hpts z hz
        exact .inr ⟨j, Nat.zero_le _, j1, j2.symm⟩
    · rw [az6 (by omega)]
      exact ⟨_, _, rfl, w0.congr fun z => ⟨fun h => h.elim, fun hz => by unfold InP at hz; omega⟩⟩
  rw [v1]
  simp only [Option.bind_some, Dzl, Int.toNat_natCast, List.length_replicate]
  have hlk := w.lk
  rw [az4 (by omega)]
  obtain ⟨L, q1, q2, q3⟩ := Kzf (n0 := h.length) (by omega) rfl w.nd w.inD w.hp w.dd
  refine ⟨L, q1, q3, fun x hx => w.zp x (w.hz x (q2.mem_iff.1 hx)), by rw [q2.length_eq]; exact hlk, fun hh z hz => q2.mem_iff.2 (w.all (by rw [← q2.length_eq]; exact hh) z hz), fun x hx z hz hnz => w.best x (q2.mem_iff.1 hx) z hz fun hh => hnz (q2.mem_iff.2 hh)⟩
end
open Go.Proofs
open Go.Sort (SWO)
theorem rzi {A B : List Int} (hA : A.Nodup) (h : ∀ x ∈ A, x ∈ B) : A.length ≤ B.length := by
  induction A generalizing B with
  | nil => exact Nat.zero_le _
  | cons a A ih =>
    obtain ⟨h1, h2⟩ := List.nodup_cons.1 hA
    have ha := h a (List.mem_cons_self ..)
    have hp := List.perm_cons_erase ha
    have := ih (B := B.erase a) h2 fun x hx => by
      have hxB := h x (List.mem_cons_of_mem _ hx)
      rcases List.mem_cons.1 (hp.mem_iff.1 hxB) with rfl | h3
      · exact absurd hx h1
      · exact h3
    have hl := hp.length_eq
    simp only [List.length_cons] at hl ⊢
    omega
theorem uzo {α : Type} {l : List α} (h : l.Nodup) {i j : Nat} (hi : i < l.length) (hj : j < l.length) (e : l[i] = l[j]) : i = j := by
  have hp := List.pairwise_iff_getElem.1 h
  refine Classical.byContradiction fun hn => ?_
  by_cases c : i < j
  · exact hp i j hi hj c e
  · exact hp j i hj hi (by omega) e.symm
theorem LtI.nd {d : Int → Int} {L : List Int} (h : L.Pairwise (LtI d)) : L.Nodup := h.imp fun h e => by subst e; unfold LtI at h; omega
theorem yzx {P : List (List Int)} {d : Int → Int} {k : Nat} {L F : List Int} (h : Hzk P d k L) (hF : F.Pairwise (LtI d)) (hm : ∀ x, x ∈ F ↔ InP P x) (v : Int) : v ∈ L ↔ v ∈ F.take k := by
  obtain ⟨h1, h2, h3, h4, h5⟩ := h
  have hLn := LtI.nd h1
  have hFn := LtI.nd hF
  constructor
  · intro hv
    obtain ⟨A, B, hAB⟩ := List.append_of_mem ((hm v).2 (h2 v hv))
    rw [hAB] at hF hFn
    obtain ⟨p1, p2, p3⟩ := List.pairwise_append.1 hF
    obtain ⟨n1, n2, n3⟩ := List.nodup_append.1 hFn
    have hA : ∀ x ∈ A, x ∈ L := fun x hx => by
      have hlt := p3 x hx v (List.mem_cons_self ..)
      refine Classical.byContradiction fun hn => ?_
      have := h5 v hv x ((hm x).1 (by rw [hAB]; exact List.mem_append_left _ hx)) hn
      unfold LtI at *; omega
    have hnv : (v :: A).Nodup := List.nodup_cons.2 ⟨fun hh => n3 v hh v (List.mem_cons_self ..) rfl, n1⟩
    have := rzi hnv (B := L) fun x hx => by
      rcases List.mem_cons.1 hx with rfl | hx
      · exact hv
      · exact hA x hx
    simp only [List.length_cons] at this
    rw [hAB, List.take_append]
    obtain ⟨t, ht⟩ : ∃ t, k - A.length = t + 1 := ⟨k - A.length - 1, by omega⟩
    rw [ht, List.take_succ_cons]
    exact List.mem_append_right _ (List.mem_cons_self ..)
  · intro hv
    refine Classical.byContradiction fun hn => ?_
    have hvF := List.mem_of_mem_take hv
    have hvP := (hm v).1 hvF
    have hlk : ¬ L.length < k := fun hh => hn (h4 hh v hvP)
    obtain ⟨A, B, hAB⟩ := List.append_of_mem hvF
    rw [hAB] at hF hFn hv
    obtain ⟨p1, p2, p3⟩ := List.pairwise_append.1 hF
    obtain ⟨n1, n2, n3⟩ := List.nodup_append.1 hFn
    have p4 := (List.pairwise_cons.1 p2).1
    have hLA : ∀ x ∈ L, x ∈ A := fun x hx => by
      have hlt := h5 x hx v hvP hn
      have hxF := (hm x).2 (h2 x hx)
      rw [hAB] at hxF
      rcases List.mem_append.1 hxF with hxA | hxB
      · exact hxA
      · rcases List.mem_cons.1 hxB with rfl | hxB
        · exact absurd hx hn
        · have := p4 x hxB
          unfold LtI at *; omega
    have hlen := rzi hLn hLA
    have hvA : v ∈ A := by
      rw [List.take_append_of_le_length (by omega)] at hv
      exact List.mem_of_mem_take hv
    exact n3 v hvA v (List.mem_cons_self ..) rfl
section
variable {r : az8} {P : List (List Int)} (hr : RoV r) (hl : P.length ≤ 900) (hin : ∀ c ∈ P, bzk r c = true) (hnd : P.Nodup)
include hr hl hin hnd
theorem Dzt {u k : Nat} (hu : u < P.length) (hk : 1 ≤ k) {L : List Int} (h : Hzk P (dI r P (P.getD u default)) (min k P.length + 1) L) (v : Int) : (v ∈ L ∧ v ≠ (u : Int)) ↔ ∃ w : Nat, v = (w : Int) ∧ hzu r P (k : Int) u w := by
  have hP := Ez4 hr (by omega) hin
  have hq := ozx (hin _ (azl hu))
  have hPn : ∀ c ∈ P, c.length < 4294967296 := fun c hc => by have := ez9 (hin c hc); omega
  obtain ⟨l, -, ns, -, ho⟩ := wze r P (P.getD u default) (u : Int) (by omega) hPn (hPn _ (azl hu))
  have hmem : ∀ w, w ∈ ns ↔ w < P.length ∧ (w : Int) ≠ (u : Int) := fun w => ho.1.mem_iff.trans mem_ixs
  have d0 : dI r P (P.getD u default) (u : Int) = 0 := by
    rw [Fz6 hr hP hq (by unfold InP; omega), Int.toNat_natCast]
    have : ∀ n, sumR r (P.getD u default) (P.getD u default) n = 0 := fun n => by
      induction n with
      | zero => rfl
      | succ n ih => rw [sumR, ih]; unfold aB; simp
    exact this _
  have hpos : ∀ w, w < P.length → w ≠ u → 0 < dI r P (P.getD u default) (w : Int) := fun w hw hwu => by
    rw [Fz6 hr hP hq (by unfold InP; omega), Int.toNat_natCast]
    refine Jz5 hr (ozx (hin _ (azl hw))) hq fun e => hwu ?_
    have h1 : P[w] = P.getD w default := by rw [List.getD_eq_getElem?_getD, List.getElem?_eq_getElem hw, Option.getD_some]
    have h2 : P[u] = P.getD u default := by rw [List.getD_eq_getElem?_getD, List.getElem?_eq_getElem hu, Option.getD_some]
    exact uzo hnd hw hu (h1.trans (e.trans h2.symm))
  have hF : (cz5 (u :: ns)).Pairwise (LtI (dI r P (P.getD u default))) := by
    refine List.Pairwise.map _ (fun a b h => h) (List.pairwise_cons (R := fun a b : Nat => LtI (dI r P (P.getD u default)) (a : Int) (b : Int)).2 ⟨fun w hw => ?_, ho.2.imp fun {a b} h => ?_⟩)
    · have := (hmem w).1 hw
      have := hpos w (by omega) (by omega)
      unfold LtI; omega
    · unfold LtD at h
      unfold LtI dI
      rw [Int.toNat_natCast, Int.toNat_natCast]; omega
  have hm : ∀ x, x ∈ cz5 (u :: ns) ↔ InP P x := fun x => by
    unfold cz5
    rw [List.mem_map]
    constructor
    · rintro ⟨w, hw, rfl⟩
      rcases List.mem_cons.1 hw with rfl | hw
      · unfold InP; omega
      · have := (hmem w).1 hw; unfold InP; omega
    · intro hx
      unfold InP at hx
      refine ⟨x.toNat, ?_, by omega⟩
      by_cases e : x.toNat = u
      · rw [e]; exact List.mem_cons_self ..
      · exact List.mem_cons_of_mem _ ((hmem _).2 (by omega))
  rw [yzx h hF hm v]
  have ht : (cz5 (u :: ns)).take (min k P.length + 1) = (u : Int) :: cz5 (ns.take (min k P.length)) := by
    simp [cz5, List.map_take]
  rw [ht]
  have hnl : ns.length ≤ P.length := by
    rw [ho.1.length_eq]; unfold ixs; exact Nat.le_trans (List.length_filter_le _ _) (by simp)
  constructor
  · rintro ⟨h1, h2⟩
    rcases List.mem_cons.1 h1 with h1 | h1
    · exact absurd h1 h2
    · obtain ⟨w, hw, rfl⟩ := List.mem_map.1 h1
      obtain ⟨k1, k2⟩ := (pz4 ho).1 hw
      exact ⟨w, rfl, k1, by omega⟩
  · rintro ⟨w, rfl, k1, k2⟩
    have := Gzz ho k1
    have hw := (pz4 ho (i := min k P.length)).2 ⟨k1, by omega⟩
    refine ⟨List.mem_cons_of_mem _ (List.mem_map.2 ⟨w, hw, rfl⟩), (mem_ixs.1 k1).2⟩
omit hr hl hin hnd in
theorem key2 (a b : Int × Int) : mz5 (azn a) (azn b) = true ↔ a = b := by
  obtain ⟨a0, a1⟩ := a
  obtain ⟨b0, b1⟩ := b
  simp only [mz5, azn, czi, if_true, Option.map_some]
  simp
def mapP (l : List (Int × Int)) : List ((Int × Int) × Bool) := (l.map fun c => (c, true)).reverse
omit hr hl hin hnd in
theorem Gz0 (l : List (Int × Int)) (c : Int × Int) : nzo azn (mapP l) (azn c) = true ↔ c ∈ l := by
  unfold mapP
  rw [← List.map_reverse]
  have : c ∈ l ↔ c ∈ l.reverse := by simp
  rw [this]
  induction l.reverse with
  | nil => simp [nzo]
  | cons a l ih =>
    simp only [List.map_cons, nzo]
    by_cases e : mz5 (azn c) (azn a) = true
    · rw [if_pos e]
      exact ⟨fun _ => by rw [(key2 _ _).1 e]; exact List.mem_cons_self .., fun _ => rfl⟩
    · rw [if_neg e]
      refine Iff.trans ih ⟨List.mem_cons_of_mem _, fun h => ?_⟩
      rcases List.mem_cons.1 h with rfl | h
      · exact absurd ((key2 _ _).2 rfl) e
      · exact h
def lt2 (a b : Int × Int) : Bool := decide (a.1 < b.1 ∨ (a.1 = b.1 ∧ a.2 < b.2))
omit hr hl hin hnd in
theorem xz2 {a b : Int × Int} : lt2 a b = true ↔ a.1 < b.1 ∨ (a.1 = b.1 ∧ a.2 < b.2) := by unfold lt2; rw [decide_eq_true_eq]
omit hr hl hin hnd in
theorem lt2_not {a b : Int × Int} : lt2 a b = false ↔ ¬ (a.1 < b.1 ∨ (a.1 = b.1 ∧ a.2 < b.2)) := by unfold lt2; rw [decide_eq_false_iff_not]
omit hr hl hin hnd in
theorem swo2 : SWO lt2 where
  irrefl x := lt2_not.2 (by omega)
  trans x y z h1 h2 := by rw [xz2] at *; omega
  ntrans x y z h1 h2 := by rw [lt2_not] at *; omega
omit hr hl hin hnd in
theorem Hzq : nz7 (fun _ => True) dz3 lt2 := fun x y _ _ => by
  refine ⟨if cmpI' x.1 y.1 ≠ 0 then cmpI' x.1 y.1 else if cmpI' x.2 y.2 ≠ 0 then cmpI' x.2 y.2 else 0, ?_, ?_⟩
  · have hI : ∀ a b : Int, (bz6 a b).o = some (cmpI' a b) := cmpI
    have h2 : (izc x.1 x.2 y.1 y.2).o = some (if cmpI' x.1 y.1 ≠ 0 then cmpI' x.1 y.1 else if cmpI' x.2 y.2 ≠ 0 then cmpI' x.2 y.2 else 0) := by
      show (fze x.1 x.2 y.1 y.2).run NN = _
      simp only [fze, T.run, hI, Option.bind_some]
      rw [az4 (by omega), az4 (by omega)]
      by_cases c1 : cmpI' x.1 y.1 = 0
      · rw [cz9 c1, if_neg (by omega), az4 (by omega), az4 (by omega)]
        by_cases c2 : cmpI' x.2 y.2 = 0
        · rw [cz9 c2, if_neg (by omega)]
        · rw [ezb c2, if_pos c2]
      · rw [ezb c1, if_pos c1]
    show (gzk x y).run NN = _
    simp only [gzk, T.run, h2, Option.bind_some]
  · rw [Bool.eq_iff_iff, decide_eq_true_eq, xz2]
    unfold cmpI'
    split <;> (try split) <;> (try split) <;> (try split) <;> (try split) <;> omega
def PairL (n : Nat) (S : Nat → Nat → Prop) (l : List (Int × Int)) : Prop := l.Nodup ∧ ∀ p, p ∈ l ↔ ∃ a b : Nat, a < b ∧ b < n ∧ S a b ∧ p = ((a : Int), (b : Int))
omit hr hl hin hnd in
theorem PairL.congr {n : Nat} {S S' : Nat → Nat → Prop} {l : List (Int × Int)} (h : PairL n S l) (hs : ∀ a b, a < b → b < n → (S a b ↔ S' a b)) : PairL n S' l :=
  ⟨h.1, fun p => (h.2 p).trans ⟨fun ⟨a, b, h1, h2, h3, h4⟩ => ⟨a, b, h1, h2, (hs a b h1 h2).1 h3, h4⟩, fun ⟨a, b, h1, h2, h3, h4⟩ => ⟨a, b, h1, h2, (hs a b h1 h2).2 h3, h4⟩⟩⟩
omit hr hl hin hnd in
theorem PairL.add {n : Nat} {S : Nat → Nat → Prop} {X : List (Int × Int)} (h : PairL n S X) {x y : Nat} (hx : x < y) (hy : y < n) : (((x : Int), (y : Int)) ∈ X → PairL n (fun a b => S a b ∨ (a = x ∧ b = y)) X) ∧ (¬ ((x : Int), (y : Int)) ∈ X → PairL n (fun a b => S a b ∨ (a = x ∧ b = y)) (X ++ [((x : Int), (y : Int))])) := by
  refine ⟨fun hm => h.congr fun a b h1 h2 => ⟨.inl, fun hs => hs.elim id fun ⟨e1, e2⟩ => ?_⟩, fun hm => ⟨?_, fun p => ?_⟩⟩
  · obtain ⟨a', b', k1, k2, k3, k4⟩ := (h.2 _).1 hm
    simp only [Prod.mk.injEq] at k4
    have q1 : a' = a := by omega
    have q2 : b' = b := by omega
    rw [q1, q2] at k3; exact k3
  · refine List.nodup_append.2 ⟨h.1, by simp, fun a ha b hb => ?_⟩
    simp at hb
    intro e
    exact hm (by rw [← hb, ← e]; exact ha)
  · rw [List.mem_append, h.2 p, List.mem_singleton]
    constructor
    · rintro (⟨a, b, k1, k2, k3, k4⟩ | rfl)
      · exact ⟨a, b, k1, k2, .inl k3, k4⟩
      · exact ⟨x, y, hx, hy, .inr ⟨rfl, rfl⟩, rfl⟩
    · rintro ⟨a, b, k1, k2, k3 | ⟨rfl, rfl⟩, k4⟩
      · exact .inl ⟨a, b, k1, k2, k3, k4⟩
      · exact .inr k4
theorem Az6 {k : Int} (hk : 1 ≤ k) : ∃ ps, (lzg r P k).o = some ps ∧ ps.Pairwise (fun a b => lt2 a b = true) ∧ PairL P.length (rz5 r P k) ps := by
  have hP := Ez4 hr (by omega) hin
  obtain ⟨Q, i0, b1, b2, b3, b4⟩ := Czi hP
  have hinj : ∀ p q, p < P.length → q < P.length → (nd Q p).Point = (nd Q q).Point → p = q := fun p q hp hq h => by
    have hn : (Q.map (·.Point)).Nodup := b3.nodup_iff.2 (gzq _)
    have hg : ∀ t, t < P.length → ∃ h : t < (Q.map (·.Point)).length, (Q.map (·.Point))[t] = (nd Q t).Point := fun t ht => ⟨by simp; omega, by simp [nd, List.getD_eq_getElem?_getD, List.getElem?_eq_getElem (show t < Q.length by omega)]⟩
    obtain ⟨h1, e1⟩ := hg p hp
    obtain ⟨h2, e2⟩ := hg q hq
    exact uzo hn h1 h2 (e1.trans (h.trans e2.symm))
  have hw : KDw P r.Joints.length Q := ⟨b2, ⟨i0, b4⟩, hinj⟩
  have hpts : ∀ x, InP P x → ∃ j, j < P.length ∧ (nd Q j).Point = x := fun x hx => by
    unfold InP at hx
    have hm : x ∈ Q.map (·.Point) := b3.mem_iff.2 (List.mem_map.2 ⟨x.toNat, List.mem_range.2 (by omega), by omega⟩)
    obtain ⟨D, hD, rfl⟩ := List.mem_map.1 hm
    obtain ⟨t, ht, rfl⟩ := List.getElem_of_mem hD
    exact ⟨t, by omega, by simp [nd, List.getD_eq_getElem?_getD, ht]⟩
  obtain ⟨kn, hkn, hkn1⟩ : ∃ kn : Nat, k = (kn : Int) ∧ 1 ≤ kn := ⟨k.toNat, by omega, by omega⟩
  have er : (⟨r.Joints, r.Masses⟩ : az8) = r := rfl
  show ∃ ps, (iz6 r P k).run NN = some ps ∧ _
  simp only [iz6, T.run, er, b1, Option.bind_some]
  have hw1 : IntKind.i64.wrap (min k (P.length : Int) + 1) = ((min kn P.length + 1 : Nat) : Int) := by rw [w64 (by omega) (by omega)]; omega
  rw [hw1]
  refine ezm (x := ((nl : List (Int × Int)), (nl : List ((Int × Int) × Bool)), (0 : Int))) (P := fun ps : List (Int × Int) => ps.Pairwise (fun a b => lt2 a b = true) ∧ PairL P.length (rz5 r P k) ps)
    (fun m (y : List (Int × Int) × List ((Int × Int) × Bool) × Int) => ∃ u : Nat, y.2.2 = (u : Int) ∧ u + m = P.length ∧ y.2.1 = mapP y.1 ∧ y.1.length ≤ 1001 * u ∧ PairL P.length (fun a b => (a < u ∧ hzu r P k a b) ∨ (b < u ∧ hzu r P k b a)) y.1)
    (fun z : List (Int × Int) => z.length ≤ 1000000 ∧ PairL P.length (rz5 r P k) z) P.length ⟨0, rfl, by omega, rfl, by simp [nl], List.nodup_nil, fun p => ⟨fun h => (by cases h), fun ⟨a, b, _, _, h, _⟩ => (by omega)⟩⟩ (by omega) ?_ ?_
  · rintro m ⟨X, M, y⟩ ⟨u, hu, hum, hM, hXl, hX⟩
    simp only at hu hM hXl hX ⊢
    subst hu
    rw [hM]
    cases m with
    | zero =>
      obtain rfl : u = P.length := by omega
      rw [az6 (by omega)]
      exact .inr (.inl ⟨_, rfl, by omega, hX.congr fun a b h1 h2 => by unfold rz5; constructor <;> rintro (h | h) <;> first | exact .inl h.2 | exact .inr h.2 | exact .inl ⟨by omega, h⟩ | exact .inr ⟨by omega, h⟩⟩)
    | succ m =>
      have hul : u < P.length := by omega
      have hq := ozx (hin _ (azl hul))
      obtain ⟨L, n1, n2⟩ := yzy hr hP hq hw (k := min kn P.length + 1) (by omega) (by omega) hpts
      have hLm := Dzt hr hl hin hnd hul hkn1 n2
      have hLn := LtI.nd n2.1
      have hLP := n2.2.1
      have hLl := n2.2.2.1
      rw [az7 (by omega), az4 (by omega), Int.toNat_natCast, n1, wn (by omega)]
      simp only [Option.bind_some]
      rw [← hkn] at hLm
      suffices hi : ∃ s, _ = some s ∧ (∃ X' : List (Int × Int), s = Step3.next (X', mapP X', ((u + 1 : Nat) : Int)) ∧ X'.length ≤ 1001 * (u + 1) ∧ PairL P.length (fun a b => (a < u + 1 ∧ hzu r P k a b) ∨ (b < u + 1 ∧ hzu r P k b a)) X') by
        obtain ⟨s, e, X', rfl, k1, k2⟩ := hi
        exact .inl ⟨_, m, e, Nat.lt_succ_self m, u + 1, rfl, by omega, rfl, k1, k2⟩
      refine ezm (x := (X, mapP X, (0 : Int))) (fun m' (y : List (Int × Int) × List ((Int × Int) × Bool) × Int) => ∃ i : Nat, y.2.2 = (i : Int) ∧ i + m' = L.length ∧ y.2.1 = mapP y.1 ∧ y.1.length ≤ 1001 * u + i ∧ PairL P.length (fun a b => ((a < u ∧ hzu r P k a b) ∨ (b < u ∧ hzu r P k b a)) ∨ (a = u ∧ (b : Int) ∈ L.take i) ∨ (b = u ∧ (a : Int) ∈ L.take i)) y.1)
        (fun y : List (Int × Int) × List ((Int × Int) × Bool) => y.2 = mapP y.1 ∧ y.1.length ≤ 1001 * (u + 1) ∧ PairL P.length (fun a b => (a < u + 1 ∧ hzu r P k a b) ∨ (b < u + 1 ∧ hzu r P k b a)) y.1) L.length ⟨0, rfl, by omega, rfl, by simp only; omega, hX.congr fun a b _ _ => by simp⟩ (by omega) ?_ ?_
      · rintro m' ⟨X1, M1, y⟩ ⟨i, hi, him, hM1, hX1l, hX1⟩
        simp only at hi hM1 hX1l hX1 ⊢
        subst hi
        rw [hM1]
        cases m' with
        | zero =>
          obtain rfl : i = L.length := by omega
          rw [az6 (by omega)]
          refine .inr (.inl ⟨_, rfl, rfl, by simp only; omega, hX1.congr fun a b h1 h2 => ?_⟩)
          rw [List.take_length]
          have key : ∀ w : Nat, w ≠ u → ((w : Int) ∈ L ↔ hzu r P k u w) := fun w hwu => by
            have := hLm (w : Int)
            constructor
            · intro hw
              obtain ⟨w', e, h⟩ := this.1 ⟨hw, by omega⟩
              have : w' = w := by omega
              rw [this] at h; exact h
            · intro h
              exact (this.2 ⟨w, rfl, h⟩).1
          constructor
          · rintro ((h | h) | ⟨rfl, h⟩ | ⟨rfl, h⟩)
            · exact .inl ⟨by omega, h.2⟩
            · exact .inr ⟨by omega, h.2⟩
            · exact .inl ⟨by omega, (key b (by omega)).1 h⟩
            · exact .inr ⟨by omega, (key a (by omega)).1 h⟩
          · rintro (⟨h, h'⟩ | ⟨h, h'⟩)
            · by_cases e : a = u
              · subst e; exact .inr (.inl ⟨rfl, (key b (by omega)).2 h'⟩)
              · exact .inl (.inl ⟨by omega, h'⟩)
            · by_cases e : b = u
              · subst e; exact .inr (.inr ⟨rfl, (key a (by omega)).2 h'⟩)
              · exact .inl (.inr ⟨by omega, h'⟩)
        | succ m' =>
          have hv := hLP _ (azl (show i < L.length by omega))
          have ht : L.take (i + 1) = L.take i ++ [L.getD i default] := lzj (by omega)
          rw [az7 (by omega), az4 (by omega), Int.toNat_natCast, wn (by omega)]
          generalize L.getD i default = v at hv ht ⊢
          unfold InP at hv
          obtain ⟨w, rfl⟩ : ∃ w : Nat, v = (w : Int) := ⟨v.toNat, by omega⟩
          by_cases huw : u = w
          · have hb : ((u : Int) != (w : Int)) = false := by simp [huw]
            rw [hb]
            simp only [cond_false, az5]
            refine .inl ⟨_, m', rfl, Nat.lt_succ_self m', i + 1, rfl, by omega, rfl, by simp only; omega, hX1.congr fun a b h1 h2 => ?_⟩
            rw [ht]
            simp only [List.mem_append, List.mem_singleton]
            constructor
            · rintro (h | ⟨h, h'⟩ | ⟨h, h'⟩)
              · exact .inl h
              · exact .inr (.inl ⟨h, .inl h'⟩)
              · exact .inr (.inr ⟨h, .inl h'⟩)
            · rintro (h | ⟨h, h' | h'⟩ | ⟨h, h' | h'⟩)
              · exact .inl h
              · exact .inr (.inl ⟨h, h'⟩)
              · omega
              · exact .inr (.inr ⟨h, h'⟩)
              · omega
          · have hb : ((u : Int) != (w : Int)) = true := by simp; omega
            have hmn : min (u : Int) (w : Int) = ((min u w : Nat) : Int) := by omega
            have hmx : max (u : Int) (w : Int) = ((max u w : Nat) : Int) := by omega
            rw [hb, hmn, hmx]
            simp only [cond_true]
            obtain ⟨g1, g2⟩ := hX1.add (x := min u w) (y := max u w) (by omega) (by omega)
            have hcg : ∀ a b : Nat, a < b → b < P.length → ((((a < u ∧ hzu r P k a b) ∨ (b < u ∧ hzu r P k b a)) ∨ (a = u ∧ (b : Int) ∈ L.take i) ∨ (b = u ∧ (a : Int) ∈ L.take i)) ∨ (a = min u w ∧ b = max u w) ↔ ((a < u ∧ hzu r P k a b) ∨ (b < u ∧ hzu r P k b a)) ∨ (a = u ∧ (b : Int) ∈ L.take (i + 1)) ∨ (b = u ∧ (a : Int) ∈ L.take (i + 1))) := fun a b h1 h2 => by
              rw [ht]
              simp only [List.mem_append, List.mem_singleton]
              constructor
              · rintro ((h | ⟨h, h'⟩ | ⟨h, h'⟩) | h)
                · exact .inl h
                · exact .inr (.inl ⟨h, .inl h'⟩)
                · exact .inr (.inr ⟨h, .inl h'⟩)
                · by_cases hlt : u < w
                  · exact .inr (.inl ⟨by omega, .inr (by omega)⟩)
                  · exact .inr (.inr ⟨by omega, .inr (by omega)⟩)
              · rintro (h | ⟨h, h' | h'⟩ | ⟨h, h' | h'⟩)
                · exact .inl (.inl h)
                · exact .inl (.inr (.inl ⟨h, h'⟩))
                · exact .inr (by omega)
                · exact .inl (.inr (.inr ⟨h, h'⟩))
                · exact .inr (by omega)
            have hmg := Gz0 X1 (((min u w : Nat) : Int), ((max u w : Nat) : Int))
            by_cases hm : (((min u w : Nat) : Int), ((max u w : Nat) : Int)) ∈ X1
            · rw [hmg.2 hm]
              simp only [Bool.not_true, cond_false, az5]
              exact .inl ⟨_, m', rfl, Nat.lt_succ_self m', i + 1, rfl, by omega, rfl, by simp only; omega, (g1 hm).congr hcg⟩
            · have hf : nzo azn (mapP X1) (azn (((min u w : Nat) : Int), ((max u w : Nat) : Int))) = false := Bool.eq_false_iff.2 fun h => hm (hmg.1 h)
              rw [hf]
              simp only [Bool.not_false, cond_true, az5]
              rw [az4 (by simp only [List.length_cons, List.length_nil, azt]; omega), az5]
              refine .inl ⟨_, m', rfl, Nat.lt_succ_self m', i + 1, rfl, by omega, ?_, by simp only [List.length_append, List.length_cons, List.length_nil]; omega, (g2 hm).congr hcg⟩
              simp [mapP]
      · rintro ⟨X2, M2⟩ ⟨h1, h2, h3⟩
        simp only at h1 h2 h3 ⊢
        rw [h1]
        exact ⟨_, rfl, X2, rfl, h2, h3⟩
  · rintro X ⟨hXl, hX⟩
    obtain ⟨s, s1, s2, s3⟩ := Czb Hzq swo2 X 0 X.length (by omega) hXl (fun _ _ => trivial)
    simp only [List.take_zero, List.nil_append, Nat.zero_add, List.drop_length, List.append_nil, List.drop_zero, List.take_length] at s1 s2
    rw [s1]
    refine ⟨s, rfl, ?_, s2.nodup_iff.2 hX.1, fun p => s2.mem_iff.trans (hX.2 p)⟩
    have hsn : s.Nodup := s2.nodup_iff.2 hX.1
    refine (List.pairwise_and_iff.2 ⟨s3, hsn⟩).imp fun {a b} h => ?_
    obtain ⟨h1, h2⟩ := h
    rw [lt2_not] at h1
    rw [xz2]
    have : ¬ (a.1 = b.1 ∧ a.2 = b.2) := fun hh => h2 (Prod.ext hh.1 hh.2)
    omega
end
open Go.Proofs
theorem xzk : ∀ (a b : List az1), SoE a → SoE b → (∀ e, e ∈ a ↔ e ∈ b) → a = b
  | [], [], _, _, _ => rfl
  | [], y :: b, _, _, h => by have := (h y).2 (List.mem_cons_self ..); cases this
  | x :: a, [], _, _, h => by have := (h x).1 (List.mem_cons_self ..); cases this
  | x :: a, y :: b, ha, hb, h => by
    obtain ⟨a1, a2⟩ := List.pairwise_cons.1 ha
    obtain ⟨b1, b2⟩ := List.pairwise_cons.1 hb
    have hxy : x = y := by
      rcases List.mem_cons.1 ((h x).1 (List.mem_cons_self ..)) with e | e
      · exact e
      · rcases List.mem_cons.1 ((h y).2 (List.mem_cons_self ..)) with e' | e'
        · exact e'.symm
        · have h1 := b1 x e
          have h2 := a1 y e'
          rw [fzm] at h1 h2; omega
    subst hxy
    have : a = b := xzk a b a2 b2 fun e => by
      constructor
      · intro he
        rcases List.mem_cons.1 ((h e).1 (List.mem_cons_of_mem _ he)) with rfl | h'
        · have := a1 _ he; rw [fzm] at this; omega
        · exact h'
      · intro he
        rcases List.mem_cons.1 ((h e).2 (List.mem_cons_of_mem _ he)) with rfl | h'
        · have := b1 _ he; rw [fzm] at this; omega
        · exact h'
    rw [this]
theorem MapE.uniq {r : az8} {P : List (List Int)} {S : Nat → Nat → Prop} {a b : List az1} (ha : MapE r P S a) (hb : MapE r P S b) : a = b :=
  xzk a b ha.1 hb.1 fun e => (ha.2 e).trans (hb.2 e).symm
theorem wz8 (r : az8) (P : List (List Int)) (hPn : ∀ c ∈ P, c.length < 4294967296) {a b : Nat} (ha : a < P.length) (hb : b < P.length) : (gz6 r P (a : Int) (b : Int)).o = some (newE r P (a : Int) (b : Int)) := by
  have er : (⟨r.Joints, r.Masses⟩ : az8) = r := rfl
  show (izq r P (a : Int) (b : Int)).run NN = _
  simp only [izq, T.run, er, Int.toNat_natCast]
  rw [az4 (by omega), az4 (by omega), tzz r _ _ (hPn _ (azl ha)) (hPn _ (azl hb))]; rfl
theorem Lz3 (r : az8) (pts : List (List Int)) (k : Int) (hp : pts.length ≤ 900) :
    ∃ m, (nzt r pts k).o = some m ∧ (dz4 r ≠ 0 → m.Points = [] ∧ m.Edges = []) ∧ (dz4 r = 0 → m.Points = disL r pts pts.length ∧ ∃ es, m.Edges = es.take 8192 ∧ MapE r m.Points (rz5 r m.Points k) es) := by
  have er : (⟨r.Joints, r.Masses⟩ : az8) = r := rfl
  show ∃ m, (nzu r pts k).run NN = some m ∧ _
  simp only [nzu, T.run, er, izr, vzr r pts (by omega), Option.bind_some]
  by_cases hr : dz4 r ≠ 0
  · rw [ezb hr]
    exact ⟨_, rfl, fun _ => ⟨rfl, rfl⟩, fun h => absurd h hr⟩
  have hr : dz4 r = 0 := Classical.not_not.1 hr
  rw [cz9 hr]
  have hPl := lzr r pts pts.length
  have hin := ozn r pts pts.length
  have hnd := pzr r pts pts.length
  have hPn : ∀ c ∈ disL r pts pts.length, c.length < 4294967296 := fun c hc => by have := ez9 (hin c hc); omega
  obtain ⟨P, hP⟩ : ∃ P, P = disL r pts pts.length := ⟨_, rfl⟩
  rw [← hP] at hPl hin hnd hPn ⊢
  by_cases hk : k < 1
  · rw [az7 hk]
    refine ⟨_, rfl, fun h => absurd hr h, fun _ => ⟨rfl, [], rfl, (MapE.nil r P).congr fun a b _ _ => ⟨fun h => h.elim, fun h => ?_⟩⟩⟩
    unfold rz5 hzu at h
    rcases h with h | h <;> (have := h.2; omega)
  · rw [az6 hk]
    obtain ⟨ps, e1, h1, h2⟩ := Az6 (r := r) hr (by omega) hin hnd (k := k) (by omega)
    have hes : MapE r P (rz5 r P k) (ps.map fun p => newE r P p.1 p.2) := by
      refine ⟨List.Pairwise.map _ (fun a b h => ?_) h1, fun e => ?_⟩
      · rw [xz2] at h
        rw [fzm]; exact h
      · rw [List.mem_map]
        constructor
        · rintro ⟨p, hp, rfl⟩
          obtain ⟨a, b, q1, q2, q3, rfl⟩ := (h2.2 p).1 hp
          exact ⟨a, b, q1, q2, q3, rfl⟩
        · rintro ⟨a, b, q1, q2, q3, rfl⟩
          exact ⟨_, (h2.2 _).2 ⟨a, b, q1, q2, q3, rfl⟩, rfl⟩
    rw [e1]
    simp only [Option.bind_some]
    rw [az4 (by omega)]
    have z0 : (0 : Int).toNat = 0 := rfl
    have hmin : (min (ps.length : Int) 8192).toNat = min ps.length 8192 := by omega
    have htk : (ps.drop 0).take (min ps.length 8192 - 0) = ps.take 8192 := by
      rw [List.drop_zero, Nat.sub_zero, Nat.min_comm, List.take_eq_take_iff]; omega
    simp only [z0, hmin, htk]
    obtain ⟨R, hR⟩ : ∃ R, R = ps.take 8192 := ⟨_, rfl⟩
    have hRl : R.length ≤ 8192 := by rw [hR, List.length_take]; omega
    have hRm : ∀ p ∈ R, p ∈ ps := fun p hp => List.mem_of_mem_take (by rw [← hR]; exact hp)
    rw [← hR]
    refine ⟨⟨P, R.map fun p => newE r P p.1 p.2⟩, ?_, fun h => absurd hr h, fun _ => ⟨rfl, _, ?_, hes⟩⟩
    · refine (nzk (fun j => ((R.take j).map (fun p => newE r P p.1 p.2), (j : Int))) (R.map fun p => newE r P p.1 p.2) R.length (by simp [nl]) (by show _ < 4294967296; omega) (fun j hj => ?_) ?_).trans rfl
      · obtain ⟨a, b, q1, q2, -, q4⟩ := (h2.2 _).1 (hRm _ (azl hj))
        have ht : R.take (j + 1) = R.take j ++ [R.getD j default] := lzj hj
        dsimp only
        rw [az7 (by omega), az4 (by omega), Int.toNat_natCast, ht, q4]
        dsimp only
        rw [wz8 r P hPn (by omega) q2]
        simp only [Option.bind_some]
        rw [az4 (by simp only [List.length_cons, List.length_nil, List.length_map, List.length_take, azt]; omega), wn (by omega)]
        simp
      · dsimp only; rw [az6 (by omega), List.take_length]
    · rw [hR, List.map_take]
theorem Kzo (a : List Int) (h : a.length < 4294967296) : (mzx a a).o = some true := by
  show (jz3 a a).run NN = _
  simp only [jz3, T.run]
  rw [cz9 rfl]
  refine (jzp (fun _ => none) a.length h (fun j hj => ?_) (by rw [az6 (by omega)])).trans ?_
  · rw [az7 (by omega), az4 (by omega), az4 (by omega), wn (by omega), cz9 rfl]
  · rw [(dzv _ _).2 (fun _ _ _ => rfl)]
theorem Ezi (a : List (List Int)) (h : a.length < 4294967296) (hn : ∀ c ∈ a, c.length < 4294967296) : (izu a a).o = some true := by
  show (fzz a a).run NN = _
  simp only [fzz, T.run]
  rw [cz9 rfl]
  refine (jzp (fun _ => none) a.length h (fun j hj => ?_) (by rw [az6 (by omega)])).trans ?_
  · rw [az7 (by omega), az4 (by omega), az4 (by omega), wn (by omega), Int.toNat_natCast, Kzo _ (hn _ (azl hj))]; rfl
  · rw [(dzv _ _).2 (fun _ _ _ => rfl)]
def PieB (x : azr) : Prop := x.Normals.length < 4294967296
def ResB (x : azc) : Prop := (x.Pieces.length < 4294967296 ∧ ∀ c ∈ x.Pieces, PieB c) ∧ PieB x.At ∧ x.Witness.Left.length < 4294967296 ∧ x.Witness.Right.length < 4294967296
theorem Kz7 (r : az8) (P : List (List Int)) (a b : Int) : ResB (newE r P a b).Proof :=
  ⟨⟨(by show (0 : Nat) < 4294967296; decide), fun c hc => (by cases hc)⟩, (by show (0 : Nat) < 4294967296; decide), (by show (0 : Nat) < 4294967296; decide), (by show (0 : Nat) < 4294967296; decide)⟩
open Go.Proofs
instance decNear (r : az8) (P : List (List Int)) (k : Int) (u v : Nat) : Decidable (hzu r P k u v) := by unfold hzu; infer_instance
instance decJoin (r : az8) (P : List (List Int)) (k : Int) (u v : Nat) : Decidable (rz5 r P k u v) := by unfold rz5; infer_instance
open Go.Proofs
def nmL (i : Nat) : ByteArray := (⟨#[97, 98, 99, 100, 101, 102, 103, 104, 105, 106]⟩ : ByteArray).extract i (i + 1)
theorem Lz2 (t : Nat) (h : t < 8) : 0 ≤ ([3, 3, 1, 2, 4, 5, 3, 0] : List Int).getD t 0 ∧ ([3, 3, 1, 2, 4, 5, 3, 0] : List Int).getD t 0 ≤ 5 := by
  revert t; decide
def JV (i : Nat) (j : azj) : Prop := j.Name = nmL i ∧ (0 ≤ j.Kind ∧ j.Kind ≤ 6) ∧ (-1 ≤ j.Parent ∧ j.Parent < (i : Int)) ∧ rzf j.Offset 4194304 = true ∧ (-fz3 j.Kind ≤ j.Lo ∧ j.Lo ≤ j.Hi ∧ j.Hi ≤ fz3 j.Kind) ∧ Bzs j = true
section
variable {l : List Int} (hl : l.length < 4294967296) {n : Int} (h0 : 0 ≤ n) (h1 : n ≤ (l.length : Int))
include hl h0 h1
theorem yzq {i : Nat} (i1 : i ≤ 2) : ∃ j n', (jzj l n (i : Int)).o = some (j, l, n') ∧ JV i j ∧ 0 ≤ n' ∧ n' ≤ (l.length : Int) := by
  have e0 : (jzj l n (i : Int)).o = (jzk l n (i : Int)).run NN := rfl
  rw [e0]
  simp only [jzk, T.run]
  have el : (gzw (i : Int)).o = some (nmL i) := by
    have e1 : (gzw (i : Int)).o = (ize (i : Int)).run NN := rfl
    rw [e1]
    simp only [ize, T.run]
    rw [wn (by omega), az4 ⟨by omega, by omega, by rw [show ((⟨#[97, 98, 99, 100, 101, 102, 103, 104, 105, 106]⟩ : ByteArray).size) = 10 from rfl]; omega⟩]; rfl
  obtain ⟨r1, n1, e1, a1, b1, c1, d1⟩ := azh hl h0 h1 (k := 4) (by decide) (by decide)
  obtain ⟨r2, n2, e2, a2, b2, c2, d2⟩ := azh hl c1 d1 (k := 3) (by decide) (by decide)
  obtain ⟨r3, n3, e3, a3, b3, c3, d3⟩ := azh hl c2 d2 (k := 8) (by decide) (by decide)
  obtain ⟨r4, n4, e4, a4, b4, c4, d4⟩ := azh hl c3 d3 (k := 4) (by decide) (by decide)
  rw [el, Option.bind_some, e1, Option.bind_some, e2, Option.bind_some, e3, Option.bind_some, az4 ⟨by simp only; omega, by simp only; omega⟩, e4, Option.bind_some]
  have hK6 := Lz2 r3.toNat (by omega)
  generalize hK : ([3, 3, 1, 2, 4, 5, 3, 0] : List Int).getD r3.toNat 0 = K at hK6
  have rest : ∀ (m pr : Int), 0 ≤ m → m ≤ (l.length : Int) → (-1 ≤ pr ∧ pr < (i : Int)) → ∃ j n', (andC (bif decide ((i : Int) > 0) then (cz1 l m 2).o.bind fun y21 => (cz1 y21.2.1 y21.2.2 1).o.bind fun y22 => some (.out (y22.2.1, y22.2.2, 131072, IntKind.i64.wrap (y21.1 * 32768), IntKind.i64.wrap (y22.1 * 32768))) else some (.out (l, m, 0, 0, 0)) : Option (Step3 Unit (List Int × Int × Int × Int × Int) (azj × List Int × Int))) fun y20 =>
      andC (bif K == 0 then some (.out (y20.1, y20.2.1, 0, 0)) else andC (bif K == 4 then some (.out (K == 4)) else some (.out (K == 5)) : Option (Step3 Unit Bool (Step3 Unit (List Int × Int × Int × Int) (azj × List Int × Int)))) fun y36 =>
        bif y36 then (azd y20.1 y20.2.1 3).o.bind fun y37 => (azd y37.2.1 y37.2.2 4).o.bind fun y38 => some (.out (y38.2.1, y38.2.2, IntKind.i64.wrap (IntKind.i64.wrap (0 - y37.1) * 65536), IntKind.i64.wrap (y38.1 * 32768)))
        else (azd y20.1 y20.2.1 5).o.bind fun y39 => (azd y39.2.1 y39.2.2 4).o.bind fun y40 => (azd y40.2.1 y40.2.2 3).o.bind fun y41 =>
          some (.out (y41.2.1, y41.2.2, IntKind.i64.wrap ((IntKind.i64.wrap (IntKind.i64.wrap (0 - y39.1) * 65536)).tdiv 8), IntKind.i64.wrap (IntKind.i64.wrap ((IntKind.i64.wrap (IntKind.i64.wrap (1 + y40.1) * 65536)).tdiv 8) + y41.1))) : Option (Step3 Unit (List Int × Int × Int × Int) (azj × List Int × Int))) fun y35 =>
      some ((⟨nmL i, K, pr, (y20.2.2.1, y20.2.2.2.1, y20.2.2.2.2), y35.2.2.1, y35.2.2.2, IntKind.i64.wrap (1 + r1), 65536, IntKind.i64.wrap (65536 + r2), 327680⟩ : azj), y35.1, y35.2.1)) = some (j, l, n') ∧ JV i j ∧ 0 ≤ n' ∧ n' ≤ (l.length : Int) := by
    intro m pr m0 m1 hpr
    have jv : ∀ (o1 o2 o3 lo hi : Int), ((-4194304 ≤ o1 ∧ o1 ≤ 4194304) ∧ (-4194304 ≤ o2 ∧ o2 ≤ 4194304) ∧ (-4194304 ≤ o3 ∧ o3 ≤ 4194304)) → (-fz3 K ≤ lo ∧ lo ≤ hi ∧ hi ≤ fz3 K) → JV i ⟨nmL i, K, pr, (o1, o2, o3), lo, hi, IntKind.i64.wrap (1 + r1), 65536, IntKind.i64.wrap (65536 + r2), 327680⟩ := fun o1 o2 o3 lo hi ho hr => by
      have hrb := xzd K
      have hr2 : fz3 K ≤ 524288 ∨ (K = 4 ∨ K = 5) := by unfold fz3; split <;> (try split) <;> omega
      refine ⟨rfl, by simp only; omega, by simp only; omega, ?_, hr, ?_⟩
      · rw [rzg]; exact ⟨ho.1, ho.2.1, ho.2.2⟩
      · rw [w64 (x := 1 + r1) (by omega) (by omega), w64 (x := 65536 + r2) (by omega) (by omega)]
        unfold Bzs betV
        simp only [Bool.and_eq_true, decide_eq_true_eq]; omega
    have lim : ∀ (m : Int) (o1 o2 o3 : Int), 0 ≤ m → m ≤ (l.length : Int) → ((-4194304 ≤ o1 ∧ o1 ≤ 4194304) ∧ (-4194304 ≤ o2 ∧ o2 ≤ 4194304) ∧ (-4194304 ≤ o3 ∧ o3 ≤ 4194304)) → ∃ j n', (andC (bif K == 0 then some (.out (l, m, 0, 0)) else andC (bif K == 4 then some (.out (K == 4)) else some (.out (K == 5)) : Option (Step3 Unit Bool (Step3 Unit (List Int × Int × Int × Int) (azj × List Int × Int)))) fun y36 =>
        bif y36 then (azd l m 3).o.bind fun y37 => (azd y37.2.1 y37.2.2 4).o.bind fun y38 => some (.out (y38.2.1, y38.2.2, IntKind.i64.wrap (IntKind.i64.wrap (0 - y37.1) * 65536), IntKind.i64.wrap (y38.1 * 32768)))
        else (azd l m 5).o.bind fun y39 => (azd y39.2.1 y39.2.2 4).o.bind fun y40 => (azd y40.2.1 y40.2.2 3).o.bind fun y41 =>
          some (.out (y41.2.1, y41.2.2, IntKind.i64.wrap ((IntKind.i64.wrap (IntKind.i64.wrap (0 - y39.1) * 65536)).tdiv 8), IntKind.i64.wrap (IntKind.i64.wrap ((IntKind.i64.wrap (IntKind.i64.wrap (1 + y40.1) * 65536)).tdiv 8) + y41.1))) : Option (Step3 Unit (List Int × Int × Int × Int) (azj × List Int × Int))) fun y35 =>
      some ((⟨nmL i, K, pr, (o1, o2, o3), y35.2.2.1, y35.2.2.2, IntKind.i64.wrap (1 + r1), 65536, IntKind.i64.wrap (65536 + r2), 327680⟩ : azj), y35.1, y35.2.1)) = some (j, l, n') ∧ JV i j ∧ 0 ≤ n' ∧ n' ≤ (l.length : Int) := by
      intro m o1 o2 o3 m0 m1 ho
      cases hk0 : K == 0
      · simp only [cond_false, fz6, az5]
        simp only [beq_eq_false_iff_ne, ne_eq] at hk0
        cases hk4 : (bif K == 4 then K == 4 else K == 5)
        · obtain ⟨s1, n1, e1, a1, b1, c1, d1⟩ := azh hl m0 m1 (k := 5) (by decide) (by decide)
          obtain ⟨s2, n2, e2, a2, b2, c2, d2⟩ := azh hl c1 d1 (k := 4) (by decide) (by decide)
          obtain ⟨s3, n3, e3, a3, b3, c3, d3⟩ := azh hl c2 d2 (k := 3) (by decide) (by decide)
          simp only [cond_false]
          rw [e1, Option.bind_some, e2, Option.bind_some, e3, Option.bind_some, az5]
          have hR : fz3 K = 524288 := by
            have : K ≠ 4 ∧ K ≠ 5 := by
              by_cases h4 : K = 4
              · rw [h4] at hk4; cases hk4
              · rw [ezt h4] at hk4; exact ⟨h4, by simpa using hk4⟩
            unfold fz3; rw [if_neg hk0, if_pos (by omega)]
          refine ⟨_, _, rfl, jv _ _ _ _ _ ho ?_, c3, d3⟩
          rw [hR]
          simp only
          rw [w64 (x := 0 - s1) (by omega) (by omega), w64 (x := (0 - s1) * 65536) (by omega) (by omega), w64 (x := 1 + s2) (by omega) (by omega), w64 (x := (1 + s2) * 65536) (by omega) (by omega), tzr (a := (1 + s2) * 65536) (by omega),
            show (0 - s1) * 65536 = -(s1 * 65536) by omega, zzj, tzr (by omega), w64 (x := -(s1 * 65536 / 8)) (by omega) (by omega), w64 (x := (1 + s2) * 65536 / 8) (by omega) (by omega), w64 (x := (1 + s2) * 65536 / 8 + s3) (by omega) (by omega)]
          omega
        · obtain ⟨s1, n1, e1, a1, b1, c1, d1⟩ := azh hl m0 m1 (k := 3) (by decide) (by decide)
          obtain ⟨s2, n2, e2, a2, b2, c2, d2⟩ := azh hl c1 d1 (k := 4) (by decide) (by decide)
          simp only [cond_true]
          rw [e1, Option.bind_some, e2, Option.bind_some, az5]
          have hR : fz3 K = 4194304 := by
            have : K = 4 ∨ K = 5 := by
              by_cases h4 : K = 4
              · exact .inl h4
              · rw [ezt h4] at hk4; exact .inr (by simpa using hk4)
            unfold fz3; rw [if_neg hk0, if_neg (by omega)]
          refine ⟨_, _, rfl, jv _ _ _ _ _ ho ?_, c2, d2⟩
          rw [hR]
          simp only
          rw [w64 (x := 0 - s1) (by omega) (by omega), w64 (x := (0 - s1) * 65536) (by omega) (by omega), w64 (x := s2 * 32768) (by omega) (by omega)]
          omega
      · have hk : K = 0 := by simpa using hk0
        have hR : fz3 K = 0 := by rw [hk]; rfl
        exact ⟨_, _, rfl, jv _ _ _ _ _ ho (by rw [hR]; simp only; omega), m0, m1⟩
    cases decide ((i : Int) > 0)
    · simp only [cond_false, az5]; exact lim m 0 0 0 m0 m1 (by decide)
    · obtain ⟨s1, n1, e1, a1, b1, c1, d1⟩ := dzd hl m0 m1 (k := 2) (by decide) (by decide)
      obtain ⟨s2, n2, e2, a2, b2, c2, d2⟩ := dzd hl c1 d1 (k := 1) (by decide) (by decide)
      simp only [cond_true]
      rw [e1, Option.bind_some, e2, Option.bind_some, az5]
      rw [w64 (x := s1 * 32768) (by omega) (by omega), w64 (x := s2 * 32768) (by omega) (by omega)]
      exact lim n2 _ _ _ c2 d2 (by simp only; omega)
  cases r4 == 1
  · simp only [cond_false]
    rw [w64 (x := (i : Int) - 1) (by omega) (by omega)]
    exact rest n4 _ c4 d4 (by simp only; omega)
  · exact rest n4 _ c4 d4 (by simp only; omega)
theorem yzs : ∃ b : az8 × List Int × Int, (iza l n).o = some b ∧ b.2.1 = l ∧ ((1 ≤ b.1.Joints.length ∧ b.1.Joints.length ≤ 3 ∧ ∀ t, t < b.1.Joints.length → JV t (b.1.Joints.getD t default)) ∧ b.1.Masses.length ≤ 2 ∧ ∀ x ∈ b.1.Masses, vzj b.1.Joints.length x = true) ∧ 0 ≤ b.2.2 ∧ b.2.2 ≤ (l.length : Int) := by
  have e0 : (iza l n).o = (jzl l n).run NN := rfl
  rw [e0]
  simp only [jzl, T.run]
  obtain ⟨r1, n1, e1, a1, b1, c1, d1⟩ := azh hl h0 h1 (k := 3) (by decide) (by decide)
  rw [e1, Option.bind_some]
  simp only
  rw [w64 (x := 1 + r1) (by omega) (by omega)]
  obtain ⟨R, hR⟩ : ∃ R : Nat, 1 + r1 = (R : Int) := ⟨(1 + r1).toNat, by omega⟩
  rw [hR]
  refine tzo (g := fun b => b) R (by omega) (fun j (y : List Int × Int × List azj × Int) => y.1 = l ∧ 0 ≤ y.2.1 ∧ y.2.1 ≤ (l.length : Int) ∧ y.2.2.1.length = j ∧ (∀ t, t < j → JV t (y.2.2.1.getD t default)) ∧ y.2.2.2 = (j : Int))
    (fun (z : List Int × Int × List azj) => z.1 = l ∧ 0 ≤ z.2.1 ∧ z.2.1 ≤ (l.length : Int) ∧ z.2.2.length = R ∧ ∀ t, t < R → JV t (z.2.2.getD t default)) ⟨rfl, c1, d1, rfl, fun t ht => by omega, rfl⟩ (fun j y hj hy => ?_) (fun y hy => ?_) (fun z hz => ?_)
  · obtain ⟨f1, f2, f3, f4, f5, f6⟩ := hy
    obtain ⟨jt, n', ej, hj1, hj2, hj3⟩ := yzq hl f2 f3 (i := j) (by omega)
    rw [f6, f1, az7 (by omega), ej, Option.bind_some]
    simp only
    rw [az4 ⟨by simp; omega, by simp [azt]; omega⟩, wn (by omega)]
    refine ⟨_, rfl, rfl, hj2, hj3, by simp; omega, fun t ht => ?_, rfl⟩
    simp only [List.getD_eq_getElem?_getD] at f5 ⊢
    by_cases e : t < j
    · rw [List.getElem?_append_left (by omega)]; exact f5 t e
    · obtain rfl : t = j := by omega
      rw [List.getElem?_append_right (by omega), f4, Nat.sub_self]; exact hj1
  · obtain ⟨f1, f2, f3, f4, f5, f6⟩ := hy
    rw [f6, az6 (by omega)]; exact ⟨_, rfl, f1, f2, f3, f4, f5⟩
  · obtain ⟨f1, f2, f3, f4, f5⟩ := hz
    obtain ⟨r2, n2, e2, a2, b2, c2, d2⟩ := azh hl f2 f3 (k := 3) (by decide) (by decide)
    rw [f1, e2, Option.bind_some]
    simp only
    obtain ⟨M, hM⟩ : ∃ M : Nat, r2 = (M : Int) := ⟨r2.toNat, by omega⟩
    rw [hM]
    refine tzo (g := fun b => b) M (by omega) (fun j (y : List Int × Int × List czc × Int) => y.1 = l ∧ 0 ≤ y.2.1 ∧ y.2.1 ≤ (l.length : Int) ∧ y.2.2.1.length = j ∧ y.2.2.2 = (M : Int) - (j : Int) ∧ ∀ x ∈ y.2.2.1, vzj R x = true)
      (fun (w : List Int × Int × List czc) => w.1 = l ∧ 0 ≤ w.2.1 ∧ w.2.1 ≤ (l.length : Int) ∧ w.2.2.length = M ∧ ∀ x ∈ w.2.2, vzj R x = true) ⟨rfl, c2, d2, rfl, by simp, fun x hx => by cases hx⟩ (fun j y hj hy => ?_) (fun y hy => ?_) (fun w hw => ?_)
    · obtain ⟨g1, g2, g3, g4, g5, g6⟩ := hy
      obtain ⟨s1, m1, q1, u1, v1, w1, x1⟩ := azh hl g2 g3 (k := (R : Int)) (by omega) (by omega)
      obtain ⟨s2, m2, q2, u2, v2, w2, x2⟩ := azh hl w1 x1 (k := 9000) (by decide) (by decide)
      obtain ⟨s3, m3, q3, u3, v3, w3, x3⟩ := dzd hl w2 x2 (k := 3) (by decide) (by decide)
      obtain ⟨s4, m4, q4, u4, v4, w4, x4⟩ := dzd hl w3 x3 (k := 2) (by decide) (by decide)
      rw [g5, g1, az7 (by omega), q1, Option.bind_some, q2, Option.bind_some, q3, Option.bind_some, q4, Option.bind_some]
      simp only
      rw [az4 ⟨by simp; omega, by simp [azt]; omega⟩, w64 (x := (M : Int) - (j : Int) - 1) (by omega) (by omega)]
      refine ⟨_, rfl, rfl, w4, x4, by simp; omega, by simp only; omega, fun x hx => ?_⟩
      rcases List.mem_append.1 hx with hx | hx
      · exact g6 x hx
      · rw [List.mem_singleton.1 hx]
        unfold vzj betV
        simp only
        rw [w64 (x := 1 + s2) (by omega) (by omega), w64 (x := s3 * 32768) (by omega) (by omega), w64 (x := s4 * 32768) (by omega) (by omega)]
        have hnv : rzf (s3 * 32768, 0, s4 * 32768) 4194304 = true := by rw [rzg]; exact ⟨by simp only; omega, by simp only; omega, by simp only; omega⟩
        rw [hnv]
        simp only [Bool.and_true, Bool.and_eq_true, decide_eq_true_eq]; omega
    · obtain ⟨g1, g2, g3, g4, g5, g6⟩ := hy
      rw [g5, az6 (by omega)]; exact ⟨_, rfl, g1, g2, g3, g4, g6⟩
    · exact ⟨_, rfl, hw.1, ⟨⟨by simp only; omega, by simp only; omega, fun t ht => f5 t (by simp only at ht; omega)⟩, by simp only; omega, by simp only; rw [f4]; exact hw.2.2.2.2⟩, hw.2.1, hw.2.2.1⟩
end
theorem n01 : (nmL 0 == nmL 1) = false := by kernel_rfl
theorem n02 : (nmL 0 == nmL 2) = false := by kernel_rfl
theorem n12 : (nmL 1 == nmL 2) = false := by kernel_rfl
theorem nv0 : uzm (nmL 0) = true := by kernel_rfl
theorem nv1 : uzm (nmL 1) = true := by kernel_rfl
theorem nv2 : uzm (nmL 2) = true := by kernel_rfl
theorem Lz4 (i : Nat) (hi : i ≤ 2) : uzm (nmL i) = true ∧ ∀ t : Nat, t < i → (nmL t == nmL i) = false := by
  have h3 : i = 0 ∨ i = 1 ∨ i = 2 := by omega
  rcases h3 with rfl | rfl | rfl
  · exact ⟨nv0, fun t ht => by omega⟩
  · refine ⟨nv1, fun t ht => ?_⟩
    obtain rfl : t = 0 := by omega
    exact n01
  · refine ⟨nv2, fun t ht => ?_⟩
    have : t = 0 ∨ t = 1 := by omega
    rcases this with rfl | rfl
    · exact n02
    · exact n12
theorem yzo (l : List Int) (hl : l.length < 4294967296) : ∃ r, (lzv l).o = some r ∧ RoB r ∧ RoV r := by
  have ef : (fzn l).o = some (l, 0) := rfl
  obtain ⟨r, e, h⟩ := yzp l hl
  refine ⟨r, e, h, ?_⟩
  obtain ⟨⟨r', l', n'⟩, e1, e2, ⟨⟨h1, h2, h3⟩, h4, h5⟩, -⟩ := yzs hl (n := 0) (by omega) (by omega)
  simp only at e2 h1 h2 h3 h4 h5
  have e3 : (lzv l).o = some r' := by
    show (jzh l).run NN = _
    simp only [jzh, T.run, ef, Option.bind_some, e1]
  obtain rfl : r = r' := by rw [e] at e3; exact Option.some.inj e3
  have hj : ∀ t, t < r.Joints.length → mzw r.Joints t = 0 := fun t ht => by
    obtain ⟨q1, q2, q3, q4, q5, q6⟩ := h3 t ht
    obtain ⟨n1, n2⟩ := Lz4 t (by omega)
    unfold mzw
    have hf : gzx (pzz r.Joints (r.Joints.getD t default).Name) t = true := noneB_iff.2 fun s hs => by
      unfold pzz
      rw [(h3 s (by omega)).1, q1]; exact n2 s hs
    simp only
    rw [hf, q1, n1, q4, q6, decide_eq_false (show ¬ (r.Joints.getD t default).Kind < 0 by omega), decide_eq_false (show ¬ (r.Joints.getD t default).Kind > 6 by omega), decide_eq_false (show ¬ (r.Joints.getD t default).Parent < -1 by omega), decide_eq_false (show ¬ (r.Joints.getD t default).Parent ≥ (t : Int) by omega),
      decide_eq_false (show ¬ (r.Joints.getD t default).Lo > (r.Joints.getD t default).Hi by omega), decide_eq_false (show ¬ (r.Joints.getD t default).Lo < -fz3 (r.Joints.getD t default).Kind by omega), decide_eq_false (show ¬ (r.Joints.getD t default).Hi > fz3 (r.Joints.getD t default).Kind by omega)]
    rfl
  show dz4 r = 0
  unfold dz4
  rw [if_neg (by omega)]
  have hs : scan (errJ r.Joints) r.Joints.length 0 = none := (dzv _ _).2 fun t _ ht => by
    unfold errJ
    rw [hj t (by omega)]; rfl
  rw [hs]
  simp only
  have hm : gzx (badM r.Joints.length r.Masses) r.Masses.length = true := noneB_iff.2 fun t ht => by
    unfold badM
    rw [h5 _ (azl ht)]; rfl
  rw [if_neg (by rw [hm]; simp; omega)]
theorem rzb (r : az8) (m : List Int) (hm : m.length < 4294967296) (hr : RoB r) (hv : RoV r) : ∃ p, (kzm r m).o = some p ∧ bzk r p = true := by
  have ef : (fzn m).o = some (m, 0) := rfl
  obtain ⟨r1, r2, r3⟩ := hr
  suffices hs : ∃ p, (kzm r m).o = some p ∧ (p.length = r.Joints.length ∧ ∀ t, t < r.Joints.length → (r.Joints.getD t default).Lo ≤ p.getD t default ∧ p.getD t default ≤ (r.Joints.getD t default).Hi) by
    obtain ⟨p, p1, p2, p3⟩ := hs
    refine ⟨p, p1, ?_⟩
    unfold bzk
    simp only [Bool.and_eq_true, decide_eq_true_eq]
    refine ⟨hv, p2, noneB_iff.2 fun t ht => ?_⟩
    have := p3 t (by omega)
    unfold outJ
    simp only [Bool.or_eq_false_iff, decide_eq_false_iff_not]; omega
  show ∃ p, (nzm r m).run NN = some p ∧ _
  simp only [nzm, T.run, ef, Option.bind_some]
  refine ezm (P := fun p : List Int => p.length = r.Joints.length ∧ ∀ t, t < r.Joints.length → (r.Joints.getD t default).Lo ≤ p.getD t default ∧ p.getD t default ≤ (r.Joints.getD t default).Hi) (fun k (y : List Int × Int × List Int × Int) => ∃ j : Nat, y.1 = m ∧ (0 ≤ y.2.1 ∧ y.2.1 ≤ (m.length : Int)) ∧ y.2.2.2 = (j : Int) ∧ j + k = r.Joints.length ∧ y.2.2.1.length = j ∧ ∀ t, t < j → (r.Joints.getD t default).Lo ≤ y.2.2.1.getD t default ∧ y.2.2.1.getD t default ≤ (r.Joints.getD t default).Hi)
    (fun z : List Int => z.length = r.Joints.length ∧ ∀ t, t < r.Joints.length → (r.Joints.getD t default).Lo ≤ z.getD t default ∧ z.getD t default ≤ (r.Joints.getD t default).Hi) r.Joints.length ⟨0, rfl, ⟨by simp, by simp⟩, rfl, by omega, by simp [nl], fun t ht => by omega⟩ (by omega) ?_ (fun z hz => ⟨_, rfl, hz⟩)
  rintro k ⟨l1, ix, p, y⟩ ⟨j, h1, ⟨h2, h3⟩, h4, h5, h6, h7⟩
  simp only at h1 h2 h3 h4 h6 h7 ⊢
  subst h1; subst h4
  cases k with
  | zero => exact .inr (.inl ⟨_, by rw [az6 (by omega)], by omega, fun t ht => h7 t (by omega)⟩)
  | succ k =>
    have hj := r3 _ (azl (show j < r.Joints.length by omega))
    unfold JB at hj
    have app : ∀ x, (r.Joints.getD j default).Lo ≤ x ∧ x ≤ (r.Joints.getD j default).Hi → ∀ t, t < j + 1 → (r.Joints.getD t default).Lo ≤ (p ++ [x]).getD t default ∧ (p ++ [x]).getD t default ≤ (r.Joints.getD t default).Hi := fun x hx t ht => by
      by_cases e : t < j
      · have : (p ++ [x]).getD t default = p.getD t default := by simp [List.getD_eq_getElem?_getD, List.getElem?_append_left (show t < p.length by omega)]
        rw [this]; exact h7 t e
      · obtain rfl : t = j := by omega
        have : (p ++ [x]).getD t default = x := by simp [List.getD_eq_getElem?_getD, List.getElem?_append_right (show p.length ≤ t by omega), h6]
        rw [this]; exact hx
    rw [az7 (by omega), az4 (by omega), az4 (by omega), Int.toNat_natCast, wn (by omega)]
    obtain ⟨s1, x1, e1, a1, b1, c1, d1⟩ := azh hm h2 h3 (k := 6) (by decide) (by decide)
    rw [e1]
    simp only [Option.bind_some]
    by_cases q1 : s1 = 0
    · rw [fzh q1, az4 (by simp only [List.length_cons, List.length_nil, azt]; omega), az5]
      exact .inl ⟨_, k, rfl, Nat.lt_succ_self k, j + 1, rfl, ⟨c1, d1⟩, rfl, by omega, by simp only [List.length_append, List.length_cons, List.length_nil]; omega, app _ (by omega)⟩
    · rw [ezt q1]
      by_cases q2 : s1 = 1
      · rw [fzh q2, az4 (by simp only [List.length_cons, List.length_nil, azt]; omega), az5]
        exact .inl ⟨_, k, rfl, Nat.lt_succ_self k, j + 1, rfl, ⟨c1, d1⟩, rfl, by omega, by simp only [List.length_append, List.length_cons, List.length_nil]; omega, app _ (by omega)⟩
      · rw [ezt q2]
        have hw : IntKind.i64.wrap ((r.Joints.getD j default).Hi - (r.Joints.getD j default).Lo) = (r.Joints.getD j default).Hi - (r.Joints.getD j default).Lo := w64 (by omega) (by omega)
        simp only [hw]
        have hw2 : IntKind.i64.wrap ((r.Joints.getD j default).Hi - (r.Joints.getD j default).Lo + 1) = (r.Joints.getD j default).Hi - (r.Joints.getD j default).Lo + 1 := w64 (by omega) (by omega)
        simp only [hw2]
        obtain ⟨s2, x2, e2, a2, b2, c2, d2⟩ := azh hm c1 d1 (k := (r.Joints.getD j default).Hi - (r.Joints.getD j default).Lo + 1) (by omega) (by omega)
        rw [e2]
        simp only [Option.bind_some]
        rw [w64 (x := (r.Joints.getD j default).Lo + s2) (by omega) (by omega), az4 (by simp only [List.length_cons, List.length_nil, azt]; omega), az5]
        exact .inl ⟨_, k, rfl, Nat.lt_succ_self k, j + 1, rfl, ⟨c2, d2⟩, rfl, by omega, by simp only [List.length_append, List.length_cons, List.length_nil]; omega, app _ (by omega)⟩
open Go.Proofs
theorem vzh (r : az8) (n : Nat) (hn : n ≤ 1000) (m : List Int) (hm : m.length < 4294967296) (hr : RoB r) (hv : RoV r) : ∃ p, (qza r (n : Int) m).o = some p ∧ p.length = n ∧ ∀ c ∈ p, bzk r c = true := by
  have ef : (fzn m).o = some (m, 0) := rfl
  obtain ⟨r1, r2, r3⟩ := hr
  show ∃ p, (mz6 r (n : Int) m).run NN = some p ∧ _
  simp only [mz6, T.run, ef, Option.bind_some]
  have hw : IntKind.i64.wrap (2 * (r.Joints.length : Int)) = ((2 * r.Joints.length : Nat) : Int) := by rw [w64 (by omega) (by omega)]; omega
  rw [hw]
  refine ezm (P := fun p : List (List Int) => p.length = n ∧ ∀ c ∈ p, bzk r c = true) (fun k (y : List Int × Int × List (List Int) × Int) => ∃ j : Nat, y.1 = m ∧ (0 ≤ y.2.1 ∧ y.2.1 ≤ (m.length : Int)) ∧ y.2.2.2 = (j : Int) ∧ j + k = n ∧ y.2.2.1.length = j ∧ ∀ c ∈ y.2.2.1, bzk r c = true)
    (fun z : List (List Int) => z.length = n ∧ ∀ c ∈ z, bzk r c = true) n ⟨0, rfl, ⟨by simp, by simp⟩, rfl, by omega, by simp [nl], fun c hc => by cases hc⟩ (by omega) ?_ (fun z hz => ⟨_, rfl, hz⟩)
  rintro k ⟨l1, ix, p, y⟩ ⟨j, h1, ⟨h2, h3⟩, h4, h5, h6, h7⟩
  simp only at h1 h2 h3 h4 h6 h7 ⊢
  subst h1; subst h4
  cases k with
  | zero => exact .inr (.inl ⟨_, by rw [az6 (by omega)], by omega, h7⟩)
  | succ k =>
    rw [az7 (by omega), wn (by omega)]
    suffices hi : ∃ s, _ = some s ∧ (∃ (ix' : Int) (c : List Int), s = Step3.next (l1, ix', p ++ [c], ((j + 1 : Nat) : Int)) ∧ (0 ≤ ix' ∧ ix' ≤ (l1.length : Int)) ∧ bzk r c = true) by
      obtain ⟨s, e, ix', c, rfl, k1, k2⟩ := hi
      refine .inl ⟨_, k, e, Nat.lt_succ_self k, j + 1, rfl, k1, rfl, by omega, by simp only [List.length_append, List.length_cons, List.length_nil]; omega, fun c' hc' => ?_⟩
      rcases List.mem_append.1 hc' with hc' | hc'
      · exact h7 c' hc'
      · simp at hc'; subst hc'; exact k2
    refine ezm (fun k (y : List Int × Int × List Int × Int) => ∃ i : Nat, y.1 = l1 ∧ (0 ≤ y.2.1 ∧ y.2.1 ≤ (l1.length : Int)) ∧ y.2.2.2 = (i : Int) ∧ i + k = 2 * r.Joints.length ∧ y.2.2.1.length = i)
      (fun z : List Int × Int × List Int => z.1 = l1 ∧ (0 ≤ z.2.1 ∧ z.2.1 ≤ (l1.length : Int)) ∧ z.2.2.length = 2 * r.Joints.length) (2 * r.Joints.length) ⟨0, rfl, ⟨h2, h3⟩, rfl, by omega, by simp [nl]⟩ (by omega) ?_ ?_
    · rintro k' ⟨l2, ix2, q, y2⟩ ⟨i, g1, ⟨g2, g3⟩, g4, g5, g6⟩
      simp only at g1 g2 g3 g4 g6 ⊢
      subst g1; subst g4
      cases k' with
      | zero => exact .inr (.inl ⟨_, by rw [az6 (by omega)], rfl, ⟨g2, g3⟩, by simp only; omega⟩)
      | succ k' =>
        obtain ⟨s1, x1, e1, a1, b1, c1, d1⟩ := azh hm g2 g3 (k := 1048576) (by decide) (by decide)
        rw [az7 (by omega), e1]
        simp only [Option.bind_some]
        rw [az4 (by simp only [List.length_cons, List.length_nil, azt]; omega), wn (by omega)]
        exact .inl ⟨_, k', rfl, Nat.lt_succ_self k', i + 1, rfl, ⟨c1, d1⟩, rfl, by omega, by simp only [List.length_append, List.length_cons, List.length_nil]; omega⟩
    · rintro ⟨l2, ix2, q⟩ ⟨g1, g2, g3⟩
      simp only at g1 g2 g3 ⊢
      subst g1
      obtain ⟨c, ec, lc⟩ := rzb r q (by omega) ⟨r1, r2, r3⟩ hv
      rw [ec]
      simp only [Option.bind_some]
      rw [az4 (by simp only [List.length_cons, List.length_nil, azt]; omega)]
      exact ⟨_, rfl, ix2, c, rfl, g2, lc⟩
theorem Czq (r : az8) (pts : List (List Int)) (j : Nat) : (disL r pts j).length ≤ (disL r pts (j + 1)).length := by
  conv => rhs; unfold disL
  split
  · simp
  · exact Nat.le_refl _
theorem Fz8 (r : az8) (pts : List (List Int)) (h : 0 < pts.length) (hi : bzk r (pts.getD 0 default) = true) : 0 < (disL r pts pts.length).length := by
  have h1 : ∀ j, 0 < j → 0 < (disL r pts j).length := fun j => by
    induction j with
    | zero => intro h; omega
    | succ j ih =>
      intro _
      by_cases h0 : j = 0
      · subst h0
        unfold disL
        rw [if_pos ⟨hi, by simp [disL]⟩]; simp
      · have := Czq r pts j
        have := ih (by omega); omega
  exact h1 _ h
theorem Czl (k : Int) (h0 : 0 ≤ k) (h3 : k ≤ 3) : ∃ x, (lzu k).o = some x ∧ x.Kind = uzd k ∧ (k = 0 → Ezy x = true) ∧ ResB x := by
  show ∃ x, (pz0 k).run NN = some x ∧ _
  simp only [pz0, T.run]
  by_cases h1 : k = 1
  · subst h1; exact ⟨_, rfl, rfl, fun h => (by omega), (by refine ⟨⟨?_, ?_⟩, ?_, ?_, ?_⟩ <;> simp [PieB, nl])⟩
  · by_cases h2 : k = 2
    · subst h2; exact ⟨_, rfl, rfl, fun h => (by omega), (by refine ⟨⟨?_, ?_⟩, ?_, ?_, ?_⟩ <;> simp [PieB, nl])⟩
    · by_cases h3 : k = 3
      · subst h3; exact ⟨_, rfl, rfl, fun h => (by omega), (by refine ⟨⟨?_, ?_⟩, ?_, ?_, ?_⟩ <;> simp [PieB, nl])⟩
      · obtain rfl : k = 0 := by omega
        exact ⟨_, rfl, rfl, fun _ => rfl, (by refine ⟨⟨?_, ?_⟩, ?_, ?_, ?_⟩ <;> simp [PieB, nl])⟩
def Jzd (r : az8) (m : aza) : Prop := m.Points.length ≤ 7 ∧ m.Edges.length ≤ 49 ∧ (∀ c ∈ m.Points, c.length ≤ 10) ∧ 0 < m.Points.length ∧ VaP r m ∧ ∀ e ∈ m.Edges, ResB e.Proof
theorem vzi (r : az8) (l : List Int) (hl : l.length < 4294967296) (hr : RoB r) (hv : RoV r) : ∃ m, (qzb r l).o = some m ∧ Jzd r m := by
  have ef : (fzn l).o = some (l, 0) := rfl
  show ∃ m, (mz7 r l).run NN = some m ∧ _
  obtain ⟨s1, x1, e1, a1, b1, c1, d1⟩ := azh (l := l) (n := 0) hl (by omega) (by omega) (k := 6) (by decide) (by decide)
  obtain ⟨s2, x2, e2, a2, b2, c2, d2⟩ := azh (l := l) hl c1 d1 (k := 3) (by decide) (by decide)
  obtain ⟨n, hn⟩ : ∃ n : Nat, 2 + s1 = (n : Int) := ⟨(2 + s1).toNat, by omega⟩
  have hw1 : IntKind.i64.wrap (2 + s1) = (n : Int) := by rw [w64 (by omega) (by omega)]; exact hn
  have hw2 : IntKind.i64.wrap (1 + s2) = 1 + s2 := w64 (by omega) (by omega)
  obtain ⟨p, ep, lp, hp⟩ := vzh r n (by omega) l hl hr hv
  obtain ⟨⟨P, E⟩, em, hm1, hm2⟩ := Bzb r p (1 + s2) (by omega) (fun c hc => by have := ez9 (hp c hc); omega)
  simp only [mz7, T.run, ef, e1, e2, hw1, hw2, ep, em, Option.bind_some]
  simp only at hm1 hm2
  have hE : P.length ≤ 7 ∧ E.length ≤ 49 ∧ (∀ c ∈ P, c.length ≤ 10) ∧ 0 < P.length ∧ (dz4 r = 0 → (P.Nodup ∧ ∀ c ∈ P, bzk r c = true) ∧ SoE E ∧ ∀ e ∈ E, (0 ≤ e.U ∧ e.U < e.V ∧ e.V < (P.length : Int)) ∧ e.Cost = dstV r (P.getD e.U.toNat default) (P.getD e.V.toNat default)) := by
    by_cases h0 : dz4 r = 0
    · obtain ⟨h1, es, rfl, h3, h4⟩ := hm2 h0
      have hlen := lzr r p p.length
      rw [← h1] at hlen
      have hsq : P.length * P.length ≤ 7 * 7 := Nat.mul_le_mul (by omega) (by omega)
      have htl : (es.take 8192).length ≤ es.length := by rw [List.length_take]; omega
      have hin : ∀ c ∈ P, bzk r c = true := fun c hc => ozn r p p.length c (by rw [← h1]; exact hc)
      refine ⟨by omega, by omega, fun c hc => (ez9 (hin c hc)).2, ?_, fun _ => ⟨⟨by rw [h1]; exact pzr r p _, hin⟩, h4.1.sublist (List.take_sublist _ _), fun e he => ?_⟩⟩
      · rw [h1]; exact Fz8 r p (by omega) (hp _ (azl (by omega)))
      · obtain ⟨a, b, k1, k2, -, rfl⟩ := (h4.2 e).1 (List.mem_of_mem_take he)
        exact ⟨by simp only [newE]; omega, rfl⟩
    · exact absurd hv h0
  obtain ⟨q1, q2, q3, q4, q5⟩ := hE
  refine ezm (P := fun m => Jzd r m) (fun m (y : List Int × Int × List az1 × Int) => ∃ i : Nat, y.1 = l ∧ (0 ≤ y.2.1 ∧ y.2.1 ≤ (l.length : Int)) ∧ y.2.2.2 = (i : Int) ∧ i + m = E.length ∧ y.2.2.1.length = E.length ∧
      ∀ t, t < E.length → ((y.2.2.1.getD t default).U = (E.getD t default).U ∧ (y.2.2.1.getD t default).V = (E.getD t default).V ∧ (y.2.2.1.getD t default).Cost = (E.getD t default).Cost) ∧ (t < i → StV (y.2.2.1.getD t default) ∧ ResB (y.2.2.1.getD t default).Proof))
    (fun z : List az1 => z.length = E.length ∧ ∀ t, t < E.length → ((z.getD t default).U = (E.getD t default).U ∧ (z.getD t default).V = (E.getD t default).V ∧ (z.getD t default).Cost = (E.getD t default).Cost) ∧ StV (z.getD t default) ∧ ResB (z.getD t default).Proof) E.length
    ⟨0, rfl, ⟨c2, d2⟩, rfl, by omega, rfl, fun t ht => ⟨⟨rfl, rfl, rfl⟩, fun h => by omega⟩⟩ (by omega) ?_ ?_
  · rintro m ⟨l1, ix, z, y⟩ ⟨i, h1, ⟨h2, h3⟩, h4, h5, h6, h7⟩
    simp only at h1 h2 h3 h4 h6 h7 ⊢
    subst h1; subst h4
    cases m with
    | zero => exact .inr (.inl ⟨_, by rw [az6 (by omega)], h6, fun t ht => ⟨(h7 t ht).1, (h7 t ht).2 (by omega)⟩⟩)
    | succ m =>
      obtain ⟨s3, x3, e3, a3, b3, c3, d3⟩ := azh hl h2 h3 (k := 4) (by decide) (by decide)
      obtain ⟨cl, ecl, k1, k2, k3⟩ := Czl s3 (by omega) (by omega)
      rw [az7 (by omega), e3]
      simp only [Option.bind_some]
      have hi : i < z.length := by omega
      rw [az4 (by omega), az4 (by omega), Int.toNat_natCast, az4 (by rw [List.length_set]; omega), az4 (by rw [List.length_set]; omega), gzt hi, if_pos rfl, ecl]
      simp only [Option.bind_some]
      rw [az4 (by rw [List.length_set]; omega), az4 (by rw [List.length_set]; omega), wn (by omega)]
      refine .inl ⟨_, m, rfl, Nat.lt_succ_self m, i + 1, rfl, ⟨c3, d3⟩, rfl, by omega, by simp only [List.length_set]; omega, fun t ht => ?_⟩
      simp only
      rw [gzt (by rw [List.length_set]; omega)]
      by_cases hit : i = t
      · subst hit
        rw [if_pos rfl]
        obtain ⟨g1, g2, g3⟩ := (h7 i ht).1
        refine ⟨⟨g1, g2, g3⟩, fun _ => ⟨⟨⟨by simp only; omega, by simp only; omega⟩, k1, k2⟩, k3⟩⟩
      · rw [if_neg hit, gzt hi, if_neg hit]
        exact ⟨(h7 t ht).1, fun h => (h7 t ht).2 (by omega)⟩
  · rintro z ⟨z1, z2⟩
    refine ⟨_, rfl, q1, by simp only; omega, q3, q4, ?_, fun e he => ?_⟩
    rotate_left
    · obtain ⟨t, ht, rfl⟩ := List.getElem_of_mem he
      have := (z2 t (by simp only at ht; omega)).2.2
      simpa only [List.getD_eq_getElem?_getD, List.getElem?_eq_getElem ht, Option.getD_some] using this
    have h0 : dz4 r = 0 := hv
    obtain ⟨⟨w1, w2⟩, w3, w4⟩ := q5 h0
    refine ⟨h0, fun i hi => ⟨w2 _ (azl hi), wz0 w1 hi⟩, fun i hi => ?_⟩
    simp only at hi ⊢
    rw [z1] at hi
    obtain ⟨⟨g1, g2, g3⟩, g4, -⟩ := z2 i hi
    obtain ⟨f1, f2⟩ := w4 _ (azl hi)
    refine ⟨⟨⟨endsV_iff.2 (by simp only; omega), by omega⟩, by rw [g3, g1, g2]; exact f2, g4⟩, fun h => ?_⟩
    obtain ⟨⟨u1, u2, -⟩, -⟩ := z2 (i - 1) (by omega)
    have := Ezl w3 (show i - 1 < i by omega) hi
    rw [fzm] at this ⊢
    omega
open Go.Proofs
open Go.Sort (SWO)
theorem Czn (l : List (List Int)) (h : l.length < 4294967296) : (gz7 l).o = some l := by
  show (dzy l).run NN = _
  cases l with
  | nil => rfl
  | cons a l =>
    simp only [dzy, T.run]
    simp only [List.length_cons] at h
    rw [az4 (by simp), az4 ⟨by simp only [List.length_nil, List.length_cons]; omega, by simp only [List.length_nil, List.length_cons, azt]; omega⟩]; rfl
theorem zzt (l : List az1) (h : l.length < 100000) : (cz7 l).o = some l := by
  show (bz3 l).run NN = _
  cases l with
  | nil => rfl
  | cons a l =>
    simp only [bz3, T.run]
    simp only [List.length_cons] at h
    rw [az4 (by simp), az4 ⟨by simp only [List.length_nil, List.length_cons]; omega, by simp only [List.length_nil, List.length_cons, azt]; omega⟩]; rfl
theorem xzv (l : List azr) (h : l.length < 4294967296) : (ezj l).o = some l := by
  show (czj l).run NN = _
  cases l with
  | nil => rfl
  | cons a l =>
    simp only [czj, T.run]
    simp only [List.length_cons] at h
    rw [az4 (by simp), az4 ⟨by simp only [List.length_nil, List.length_cons]; omega, by simp only [List.length_nil, List.length_cons, azt]; omega⟩]; rfl
theorem vzq (l : List (Int × Int × Int)) (h : l.length < 4294967296) : (dzh l).o = some l := by
  show (dzi l).run NN = _
  cases l with
  | nil => rfl
  | cons a l =>
    simp only [dzi, T.run]
    simp only [List.length_cons] at h
    rw [az4 (by simp), az4 ⟨by simp only [List.length_nil, List.length_cons]; omega, by simp only [List.length_nil, List.length_cons, azt]; omega⟩]; rfl
theorem xzj {α : Type} [Inhabited α] (l : List α) {i : Nat} (h : i < l.length) : l.set i (l.getD i default) = l := by
  refine pzt (by simp) fun j hj => ?_
  rw [List.length_set] at hj
  rw [gzt h]
  split
  · rename_i e; rw [e]
  · rfl
theorem rz6 (x : azc) (h : ResB x) : (gzi x).o = some x := by
  obtain ⟨⟨h1, h2⟩, h3, h4, h5⟩ := h
  show (gzj x).run NN = _
  simp only [gzj, T.run, xzv _ h1, Option.bind_some]
  refine (nzk (fun j => (x.Pieces, (j : Int))) x.Pieces x.Pieces.length rfl h1 (fun j hj => ?_) (by dsimp only; rw [az6 (by omega)])).trans ?_
  · dsimp only
    have hp := h2 _ (azl hj)
    rw [az7 (by omega), az4 (by omega), az4 (by omega), Int.toNat_natCast, vzq _ hp]
    simp only [Option.bind_some]
    rw [az4 (by omega), az4 (by omega), wn (by omega)]
    have : (⟨(x.Pieces.getD j default).Depth, (x.Pieces.getD j default).Index, (x.Pieces.getD j default).Normals⟩ : azr) = x.Pieces.getD j default := rfl
    rw [this, xzj _ hj]
  · rw [vzq _ h3, mzr _ h4, mzr _ h5]; rfl
theorem Czm (m : aza) (h1 : m.Points.length < 4294967296) (h2 : ∀ c ∈ m.Points, c.length < 4294967296) (h3 : m.Edges.length < 100000) (h4 : ∀ e ∈ m.Edges, ResB e.Proof) : (lze m).o = some (m.Points, m.Edges) := by
  show (lzf m).run NN = _
  simp only [lzf, T.run, Czn _ h1, zzt _ h3, Option.bind_some]
  refine (nzk (fun j => (m.Points, (j : Int))) m.Points m.Points.length rfl h1 (fun j hj => ?_) (by dsimp only; rw [az6 (by omega)])).trans ?_
  · dsimp only
    rw [az7 (by omega), az4 (by omega), az4 (by omega), Int.toNat_natCast, mzr _ (h2 _ (azl hj))]
    simp only [Option.bind_some]
    rw [az4 (by omega), az4 (by omega), wn (by omega), xzj _ hj]
  · refine (nzk (fun j => (m.Edges, (j : Int))) m.Edges m.Edges.length rfl (by show _ < 4294967296; omega) (fun j hj => ?_) (by dsimp only; rw [az6 (by omega)])).trans rfl
    dsimp only
    rw [az7 (by omega), az4 (by omega), az4 (by omega), Int.toNat_natCast, rz6 _ (h4 _ (azl hj))]
    simp only [Option.bind_some]
    rw [az4 (by omega), az4 (by omega), wn (by omega)]
    have : (⟨(m.Edges.getD j default).U, (m.Edges.getD j default).V, (m.Edges.getD j default).Cost, (m.Edges.getD j default).State, (m.Edges.getD j default).Proof⟩ : az1) = m.Edges.getD j default := rfl
    rw [this, xzj _ hj]
def idxV (l : List (List Int)) (c : List Int) : Int := match scan (fun i => sw (eqV (l.getD i default) c) (i : Int)) l.length 0 with | some x => x | none => -1
theorem Hzx (a b : List Int) (h : a.length < 4294967296) : (hz5 a b).o = some (eqV a b) := by
  show (ezo a b).run NN = _
  simp only [ezo, T.run]
  unfold eqV
  by_cases e : a.length = b.length
  · rw [cz9 (by omega)]
    refine (jzp (fun j => sw (a.getD j default != b.getD j default) false) a.length h (fun j hj => ?_) ?_).trans ?_
    · rw [az7 (by omega), az4 (by omega), az4 (by omega), wn (by omega), Int.toNat_natCast, ← izw]
    · rw [az6 (by omega)]
    · rw [mzl]
      by_cases hn : gzx (fun j => a.getD j default != b.getD j default) a.length = true
      · rw [hn]
        have : a = b := pzt e fun i hi => by
          have := of_decide_eq_true hn i hi
          simpa using this
        rw [decide_eq_true this]; rfl
      · have hn' : gzx (fun j => a.getD j default != b.getD j default) a.length = false := by simpa using hn
        rw [hn']
        have : a ≠ b := fun h => hn (by subst h; exact decide_eq_true (fun i _ => by simp))
        rw [decide_eq_false this]; rfl
  · rw [ezb (by omega), decide_eq_false (fun h => e (by rw [h]))]
theorem Fzj (l : List (List Int)) (c : List Int) (hl : l.length < 4294967296) (hn : ∀ x ∈ l, x.length < 4294967296) : (fz4 l c).o = some (idxV l c) := by
  show (czz l c).run NN = _
  simp only [czz, T.run]
  refine (jzp (fun i => sw (eqV (l.getD i default) c) (i : Int)) l.length hl (fun j hj => ?_) (by rw [az6 (by omega)])).trans ?_
  · have he : (pzf (l.getD j default) c).o = some (eqV (l.getD j default) c) := by
      show (lzc (l.getD j default) c).run NN = _
      simp only [lzc, T.run, Hzx _ _ (hn _ (azl hj)), Option.bind_some]
    rw [az7 (by omega), az4 (by omega), wn (by omega), Int.toNat_natCast, he]
    simp only [Option.bind_some]
    rw [← izw]
  · unfold idxV
    cases scan (fun i => sw (eqV (l.getD i default) c) (i : Int)) l.length 0 <;> rfl
theorem wz2 (l : List (List Int)) (c : List Int) (hl : l.length < 4294967296) (hn : ∀ x ∈ l, x.length < 4294967296) : (gzy l c).o = some (idxV l c) := by
  show (dz7 l c).run NN = _
  simp only [dz7, T.run]
  refine (jzp (fun i => sw (eqV (l.getD i default) c) (i : Int)) l.length hl (fun j hj => ?_) (by rw [az6 (by omega)])).trans ?_
  · rw [az7 (by omega), az4 (by omega), wn (by omega), Int.toNat_natCast, wz5 _ _ (hn _ (azl hj))]
    simp only [Option.bind_some]
    rw [← izw]
  · unfold idxV
    cases scan (fun i => sw (eqV (l.getD i default) c) (i : Int)) l.length 0 <;> rfl
theorem Bz6 {l : List (List Int)} {c : List Int} (hl : l.length < 4294967296) (hn : ∀ x ∈ l, x.length < 4294967296) : (idxV l c ≥ 0 ↔ c ∈ l) ∧ idxV l c < (l.length : Int) := by
  obtain ⟨z, z1, z2⟩ := uzw l c hl hn
  rw [wz2 l c hl hn] at z1
  have hz := Option.some.inj z1
  subst hz
  refine ⟨?_, ?_⟩
  · unfold memB at z2
    exact decide_eq_decide.1 z2
  · unfold idxV
    cases hs : scan (fun i => sw (eqV (l.getD i default) c) (i : Int)) l.length 0 with
    | none => simp only; omega
    | some x =>
      obtain ⟨j, -, h2, h3, -⟩ := jzq _ _ hs
      simp only
      unfold sw at h3
      cases hb : eqV (l.getD j default) c with
      | false => rw [hb] at h3; cases h3
      | true => rw [hb] at h3; simp only [cond_true, Option.some.injEq] at h3; omega
theorem Dz8 (r : az8) (pts : List (List Int)) (es : List az1) (u v : Int) (hn : ∀ c ∈ pts, c.length < 4294967296) (he : es.length ≤ 1000000) (hu : 0 ≤ u ∧ u < (pts.length : Int)) (hv : 0 ≤ v ∧ v < (pts.length : Int)) :
    (hzq r pts es u v).o = some (insF (newE r pts (min u v) (max u v)) es) := by
  rw [← Bz7 r pts es u v hn he hu hv]
  show (kz9 r pts es u v).run NN = (hzg r pts es u v).run NN
  simp only [kz9, hzg, T.run]
  refine congrArg (fun f => andK (iter f NN (nl, false, 0)) _) (funext fun x => ?_)
  by_cases h : x.2.2 < (es.length : Int)
  · rw [az7 h, az7 h]
    by_cases h0 : 0 ≤ x.2.2 ∧ x.2.2 < (es.length : Int)
    · rw [az4 h0, az4 h0, az4 (show x.2.2.toNat < es.length by omega)]
    · unfold grd; rw [if_neg h0, if_neg h0]
  · rw [az6 h, az6 h]
theorem swoE : SWO ltE where
  irrefl x := by
    cases h : ltE x x with
    | false => rfl
    | true => rw [fzm] at h; omega
  trans x y z h1 h2 := by rw [fzm] at *; omega
  ntrans x y z h1 h2 := by
    cases h : ltE x z with
    | false => rfl
    | true =>
      have k1 : ¬ ltE x y = true := by rw [h1]; decide
      have k2 : ¬ ltE y z = true := by rw [h2]; decide
      rw [fzm] at h k1 k2; omega
theorem Hzr : nz7 (fun _ => True) azi ltE := fun x y _ _ => by
  refine ⟨cmpE x y, ?_, ?_⟩
  · have hI : ∀ a b : Int, (bz6 a b).o = some (cmpI' a b) := cmpI
    show (fzd x y).run NN = _
    simp only [fzd, T.run, hI, Azw, Option.bind_some]; rfl
  · rw [Bool.eq_iff_iff, decide_eq_true_eq, fzm]
    unfold cmpE cmpI'
    split <;> (try split) <;> (try split) <;> (try split) <;> (try split) <;> omega
theorem Gzt {l s : List az1} (hp : s.Perm l) (hs : s.Pairwise fun a b => ltE b a = false) (hn : l.Pairwise fun a b => ¬ (a.U = b.U ∧ a.V = b.V)) : SoE s := by
  have hn' : s.Pairwise fun a b => ¬ (a.U = b.U ∧ a.V = b.V) := hp.symm.pairwise hn (fun {a b} h hh => h ⟨hh.1.symm, hh.2.symm⟩)
  refine (List.pairwise_and_iff.2 ⟨hs, hn'⟩).imp fun {a b} h => ?_
  obtain ⟨h1, h2⟩ := h
  have k : ¬ ltE b a = true := by rw [h1]; decide
  rw [fzm] at k ⊢
  omega
theorem Fzt {r : az8} {P : List (List Int)} (hP : PtsOk P r.Joints.length) : ∃ Q, (hzm P).o = some Q ∧ KDw P r.Joints.length Q ∧ ∀ x, InP P x → ∃ j, j < P.length ∧ (nd Q j).Point = x := by
  obtain ⟨Q, i0, b1, b2, b3, b4⟩ := Czi hP
  refine ⟨Q, b1, ⟨b2, ⟨i0, b4⟩, fun p q hp hq h => ?_⟩, fun x hx => ?_⟩
  · have hn : (Q.map (·.Point)).Nodup := b3.nodup_iff.2 (gzq _)
    have hg : ∀ t, t < P.length → ∃ h : t < (Q.map (·.Point)).length, (Q.map (·.Point))[t] = (nd Q t).Point := fun t ht => ⟨by simp; omega, by simp [nd, List.getD_eq_getElem?_getD, List.getElem?_eq_getElem (show t < Q.length by omega)]⟩
    obtain ⟨h1, e1⟩ := hg p hp
    obtain ⟨h2, e2⟩ := hg q hq
    exact uzo hn h1 h2 (e1.trans (h.trans e2.symm))
  · unfold InP at hx
    have hm : x ∈ Q.map (·.Point) := b3.mem_iff.2 (List.mem_map.2 ⟨x.toNat, List.mem_range.2 (by omega), by omega⟩)
    obtain ⟨D, hD, rfl⟩ := List.mem_map.1 hm
    obtain ⟨t, ht, rfl⟩ := List.getElem_of_mem hD
    exact ⟨t, by omega, by simp [nd, List.getD_eq_getElem?_getD, ht]⟩
def AddP (r : az8) (m : aza) (q : List Int) (S : Int → Prop) (es : List az1) : Prop := SoE es ∧ ∀ e, e ∈ es ↔ e ∈ m.Edges ∨ ∃ v, S v ∧ e = newE r (m.Points ++ [q]) v (m.Points.length : Int)
theorem Izm {r : az8} {P : List (List Int)} {q : List Int} (hl : P.length ≤ 900) (hPn : ∀ c ∈ P, c.length < 4294967296) (hq : q.length < 4294967296) : ∃ ns : List Nat, (gz5 r (P ++ [q]) q (P.length : Int)).o = some (cz5 ns) ∧ ns.length ≤ P.length ∧ (cz5 ns).Pairwise (LtI (dI r P q)) ∧ ∀ x, x ∈ cz5 ns ↔ InP P x := by
  have hn2 : ∀ c ∈ P ++ [q], c.length < 4294967296 := fun c hc => by
    rcases List.mem_append.1 hc with hc | hc
    · exact hPn c hc
    · simp at hc; subst hc; exact hq
  obtain ⟨l, e, ns, rfl, ho⟩ := wze r (P ++ [q]) q (P.length : Int) (by simp; omega) hn2 hq
  have hlen : (P ++ [q]).length = P.length + 1 := by simp
  rw [hlen] at ho
  have hmem : ∀ w, w ∈ ns ↔ w < P.length := fun w => by
    rw [ho.1.mem_iff, mem_ixs]
    constructor
    · rintro ⟨h1, h2⟩; omega
    · intro h; omega
  have hd : ∀ w, w < P.length → dQ r (P ++ [q]) q w = dQ r P q w := fun w hw => by
    unfold dQ
    have : (P ++ [q]).getD w default = P.getD w default := by simp [List.getD_eq_getElem?_getD, List.getElem?_append_left hw]
    rw [this]
  refine ⟨ns, e, ?_, ?_, fun x => ?_⟩
  · rw [ho.1.length_eq, xz0, if_pos (by simp)]
    unfold ixs
    exact Nat.le_trans (List.length_filter_le _ _) (by simp)
  · refine List.pairwise_map.2 (List.Pairwise.imp_of_mem (fun {a b} ha hb h => ?_) ho.2)
    unfold LtD at h
    rw [hd a ((hmem a).1 ha), hd b ((hmem b).1 hb)] at h
    unfold LtI dI
    rw [Int.toNat_natCast, Int.toNat_natCast]; omega
  · unfold cz5 InP
    rw [List.mem_map]
    constructor
    · rintro ⟨w, hw, rfl⟩
      have := (hmem w).1 hw; omega
    · intro hx
      exact ⟨x.toNat, (hmem _).2 (by omega), by omega⟩
section
variable {r : az8} {m : aza} (hva : VaP r m) (hp : m.Points.length ≤ 60) (he : m.Edges.length ≤ 100)
include hva hp he
omit hp he in
theorem Jz9 : SoE m.Edges ∧ ∀ e ∈ m.Edges, 0 ≤ e.U ∧ e.U < e.V ∧ e.V < (m.Points.length : Int) := by
  obtain ⟨h1, h2, h3⟩ := hva
  have hE : ∀ e ∈ m.Edges, 0 ≤ e.U ∧ e.U < e.V ∧ e.V < (m.Points.length : Int) := fun e hm => by
    obtain ⟨i, hi, rfl⟩ := List.getElem_of_mem hm
    have := (h3 i hi).1.1
    rw [List.getD_eq_getElem?_getD, List.getElem?_eq_getElem hi, Option.getD_some] at this
    obtain ⟨k1, k2⟩ := this
    have := endsV_iff.1 k1; omega
  refine ⟨List.pairwise_iff_getElem.2 fun i j hi hj hij => ?_, hE⟩
  have key : ∀ t, i + 1 + t < m.Edges.length → ltE (m.Edges.getD i default) (m.Edges.getD (i + 1 + t) default) = true := fun t => by
    induction t with
    | zero => intro h; exact (h3 (i + 1) h).2 (by omega)
    | succ t ih =>
      intro h
      have k1 := ih (by omega)
      have k2 := (h3 (i + 1 + (t + 1)) h).2 (by omega)
      have : i + 1 + (t + 1) - 1 = i + 1 + t := by omega
      rw [this] at k2
      exact swoE.trans _ _ _ k1 k2
  have := key (j - i - 1) (by omega)
  have ej : i + 1 + (j - i - 1) = j := by omega
  rw [ej] at this
  simpa only [List.getD_eq_getElem?_getD, List.getElem?_eq_getElem hi, List.getElem?_eq_getElem hj, Option.getD_some] using this
omit hp he in
theorem Jz8 : ∀ c ∈ m.Points, bzk r c = true := fun c hc => by
  obtain ⟨i, hi, rfl⟩ := List.getElem_of_mem hc
  have := (hva.2.1 i hi).1
  simpa only [List.getD_eq_getElem?_getD, List.getElem?_eq_getElem hi, Option.getD_some] using this
theorem Gz6 {q : List Int} (hq : bzk r q = true) {ns : List Nat} (hnl : ns.length ≤ m.Points.length) (hns : (cz5 ns).Nodup) (hnm : ∀ x ∈ cz5 ns, InP m.Points x) (k : Int) {R : Type} (K : List az1 → Option R) :
    ∃ es, andK (iter (fun x : List az1 × Int => andC (bif decide (x.2 < ((cz5 ns).length : Int)) then some (Step3.out (decide (x.2 < k))) else some (Step3.out false)) fun y => bif y then grd (0 ≤ x.2 ∧ x.2 < ((cz5 ns).length : Int)) ((hzq r (m.Points ++ [q]) x.1 (m.Points.length : Int) ((cz5 ns).getD x.2.toNat default)).o.bind fun y => some (Step3.next (y, IntKind.i64.wrap (x.2 + 1)))) else some (Step3.out x.1)) NN (m.Edges, 0)) K = K es ∧ es.length ≤ 160 ∧ AddP r m q (fun v => v ∈ (cz5 ns).take (min k (ns.length : Int)).toNat) es := by
  obtain ⟨s1, s2⟩ := Jz9 hva
  have hin := Jz8 hva
  have hn2 : ∀ c ∈ m.Points ++ [q], c.length < 4294967296 := fun c hc => by
    rcases List.mem_append.1 hc with hc | hc
    · have := ez9 (hin c hc); omega
    · simp at hc; subst hc; have := ez9 hq; omega
  have hpl : (m.Points ++ [q]).length = m.Points.length + 1 := by simp
  have hcl : (cz5 ns).length = ns.length := by simp
  have main : ∀ (t : Nat) (i : Nat) (E : List az1), i + t = (min k (ns.length : Int)).toNat → E.length ≤ 100 + i → AddP r m q (fun v => v ∈ (cz5 ns).take i) E → ∃ es, (∀ N, t < N → iter (fun x : List az1 × Int => andC (bif decide (x.2 < ((cz5 ns).length : Int)) then some (Step3.out (decide (x.2 < k))) else some (Step3.out false)) fun y => bif y then grd (0 ≤ x.2 ∧ x.2 < ((cz5 ns).length : Int)) ((hzq r (m.Points ++ [q]) x.1 (m.Points.length : Int) ((cz5 ns).getD x.2.toNat default)).o.bind fun y => some (Step3.next (y, IntKind.i64.wrap (x.2 + 1)))) else (some (Step3.out x.1) : Option (Step3 (List az1 × Int) (List az1) R))) N (E, (i : Int)) = some (.inl es)) ∧ es.length ≤ 160 ∧ AddP r m q (fun v => v ∈ (cz5 ns).take (min k (ns.length : Int)).toNat) es := by
    intro t
    induction t with
    | zero =>
      intro i E hi hEl hE
      have hi' : i = (min k (ns.length : Int)).toNat := by omega
      refine ⟨E, fun N hN => ?_, by omega, by rw [← hi']; exact hE⟩
      obtain ⟨M, rfl⟩ : ∃ M, N = M + 1 := ⟨N - 1, by omega⟩
      simp only [iter]
      by_cases c : i < ns.length
      · rw [az7 (by omega), decide_eq_false (by omega), az5]; rfl
      · rw [az6 (by omega), az5]; rfl
    | succ t ih =>
      intro i E hi hEl hE
      have hin1 : i < ns.length := by omega
      have hg := tzu hin1
      have hv := hnm _ (azl (show i < (cz5 ns).length by omega))
      rw [hg] at hv
      have ht : (cz5 ns).take (i + 1) = (cz5 ns).take i ++ [((ns.getD i default : Nat) : Int)] := by
        rw [lzj (show i < (cz5 ns).length by omega), hg]
      have hnt : ¬ ((ns.getD i default : Nat) : Int) ∈ (cz5 ns).take i := by
        have hd : (cz5 ns).take i ++ [((ns.getD i default : Nat) : Int)] = (cz5 ns).take (i + 1) := ht.symm
        have := (List.take_sublist (i + 1) (cz5 ns)).nodup hns
        rw [ht] at this
        intro hm'
        exact (List.nodup_append.1 this).2.2 _ hm' _ (List.mem_singleton.2 rfl) rfl
      unfold InP at hv
      have hins := Dz8 r (m.Points ++ [q]) E (m.Points.length : Int) ((ns.getD i default : Nat) : Int) hn2 (by omega) (by omega) (by omega)
      have hmn : min (m.Points.length : Int) ((ns.getD i default : Nat) : Int) = ((ns.getD i default : Nat) : Int) := by omega
      have hmx : max (m.Points.length : Int) ((ns.getD i default : Nat) : Int) = (m.Points.length : Int) := by omega
      rw [hmn, hmx] at hins
      obtain ⟨A, hA⟩ : ∃ A, A = newE r (m.Points ++ [q]) ((ns.getD i default : Nat) : Int) (m.Points.length : Int) := ⟨_, rfl⟩
      rw [← hA] at hins
      have hAU : A.U = ((ns.getD i default : Nat) : Int) := by rw [hA]; rfl
      have hAV : A.V = (m.Points.length : Int) := by rw [hA]; rfl
      have hE' : AddP r m q (fun v => v ∈ (cz5 ns).take (i + 1)) (insF A E) := by
        refine ⟨Az2 A E hE.1, fun e => (tzn A E hE.1 e).trans ?_⟩
        rw [hE.2 e, ht]
        simp only [List.mem_append, List.mem_singleton]
        constructor
        · rintro ((h | ⟨v, h1, h2⟩) | ⟨h1, -⟩)
          · exact .inl h
          · exact .inr ⟨v, .inl h1, h2⟩
          · exact .inr ⟨_, .inr rfl, h1.trans hA⟩
        · rintro (h | ⟨v, h1 | rfl, h2⟩)
          · exact .inl (.inl h)
          · exact .inl (.inr ⟨v, h1, h2⟩)
          · refine .inr ⟨h2.trans hA.symm, fun x hx hc => ?_⟩
            rcases (hE.2 x).1 hx with hx | ⟨v', h1, rfl⟩
            · have := s2 x hx; omega
            · simp only [newE] at hc
              have : v' = ((ns.getD i default : Nat) : Int) := by omega
              rw [this] at h1
              exact hnt h1
      obtain ⟨es, e1, e2, e3⟩ := ih (i + 1) (insF A E) (by omega) (by have := tzm A E; omega) hE'
      refine ⟨es, fun N hN => ?_, e2, e3⟩
      obtain ⟨M, rfl⟩ : ∃ M, N = M + 1 := ⟨N - 1, by omega⟩
      have hstep := e1 M (by omega)
      simp only [iter]
      rw [az7 (by omega), decide_eq_true (by omega), az5]
      simp only [cond_true]
      rw [az4 (by omega), Int.toNat_natCast, hg, hins]
      simp only [Option.bind_some]
      rw [wn (by omega)]
      exact hstep
  obtain ⟨es, e1, e2, e3⟩ := main (min k (ns.length : Int)).toNat 0 m.Edges (by omega) (by omega) ⟨s1, fun e => by simp⟩
  have := e1 NN (by show _ < 4294967296; omega)
  refine ⟨es, ?_, e2, e3⟩
  exact tzh this
end
open Go.Proofs
def SmM (m : aza) : Prop := m.Points.length ≤ 60 ∧ m.Edges.length ≤ 100 ∧ (∀ c ∈ m.Points, c.length < 4294967296) ∧ ∀ e ∈ m.Edges, ResB e.Proof
theorem Kzy (r : az8) (m : aza) (q : List Int) (k : Int) (hm : SmM m) :
    ∃ m' i, (nzr r m q k).o = some (m', i) ∧ (ozb r m q k).o = some (m', i) ∧ (m'.Points.length ≤ 61 ∧ (∀ c ∈ m'.Points, c.length < 4294967296) ∧ m'.Edges.length ≤ 160 ∧ ∀ e ∈ m'.Edges, ResB e.Proof) ∧
      (VaP r m → bzk r q = true → (q ∈ m.Points ∧ m' = m ∧ i = idxV m.Points q) ∨ (¬ q ∈ m.Points ∧ i = (m.Points.length : Int) ∧ m'.Points = m.Points ++ [q] ∧ ∃ S : Int → Prop, (∀ v, S v → InP m.Points v) ∧ AddP r m q S m'.Edges)) := by
  obtain ⟨hp, he, hc, hb⟩ := hm
  have er : (⟨r.Joints, r.Masses⟩ : az8) = r := rfl
  have em : (⟨m.Points, m.Edges⟩ : aza) = m := rfl
  have hpb : PtB m := ⟨by omega, by omega, hc⟩
  obtain ⟨v, v1, v2⟩ := Ezt r m hpb
  have v3 : (kz7 r m).o = some v := by
    obtain ⟨w, w1, w2⟩ := Cz3 r m hpb
    have : v = w := Bool.eq_iff_iff.2 (v2.trans w2.symm)
    rw [this]; exact w1
  have hcl := Czm m (by omega) hc (by omega) hb
  have same : ∀ i : Int, (m.Points.length ≤ 61 ∧ (∀ c ∈ m.Points, c.length < 4294967296) ∧ m.Edges.length ≤ 160 ∧ ∀ e ∈ m.Edges, ResB e.Proof) := fun _ => ⟨by omega, hc, by omega, hb⟩
  have e1 : (nzr r m q k).o = (nzs r m q k).run NN := rfl
  have e2 : (ozb r m q k).o = (kz6 r m q k).run NN := rfl
  rw [e1, e2]
  simp only [nzs, kz6, T.run, er, em, hcl, v1, v3, ozl, mza, Option.bind_some]
  cases hv : v with
  | false =>
    refine ⟨m, -1, rfl, rfl, same 0, fun h => ?_⟩
    rw [v2.2 h] at hv; cases hv
  | true =>
    have hva := v2.1 hv
    cases hq : bzk r q with
    | false => exact ⟨m, -1, rfl, rfl, same 0, fun _ h => by cases h⟩
    | true =>
      simp only [Bool.not_true, cond_false, az5]
      rw [Fzj m.Points q (by omega) hc, wz2 m.Points q (by omega) hc]
      simp only [Option.bind_some]
      obtain ⟨hidx, -⟩ := Bz6 (l := m.Points) (c := q) (by omega) hc
      by_cases hi : idxV m.Points q ≥ 0
      · rw [az7 hi, az7 hi]
        exact ⟨m, _, rfl, rfl, same 0, fun _ _ => .inl ⟨hidx.1 hi, rfl, rfl⟩⟩
      · rw [az6 hi, az6 hi]
        have hqn : ¬ q ∈ m.Points := fun h => hi (hidx.2 h)
        have hr : RoV r := hva.1
        have hin := Jz8 hva
        obtain ⟨s1, s2⟩ := Jz9 hva
        have hP := Ez4 hr (by omega) hin
        have hqo := ozx hq
        have hql := ez9 hq
        obtain ⟨Q, b1, hw, hpts⟩ := Fzt hP
        obtain ⟨ns, o1, o2, o3, o4⟩ := Izm (r := r) (P := m.Points) (q := q) (by omega) hc (by omega)
        have hcl2 : (cz5 ns).length = ns.length := by simp
        obtain ⟨kk, hkk, hkk2⟩ : ∃ kk : Nat, max 0 (min k (m.Points.length : Int)) = (kk : Int) ∧ kk ≤ 60 := ⟨(max 0 (min k (m.Points.length : Int))).toNat, by omega, by omega⟩
        obtain ⟨L, n1, n2, n3⟩ : ∃ L, (gz4 r m.Points Q q (kk : Int)).o = some L ∧ (L.Nodup ∧ L.length ≤ 60) ∧ ∀ v, v ∈ L ↔ v ∈ (cz5 ns).take kk := by
          by_cases hk0 : kk = 0
          · subst hk0
            refine ⟨[], ?_, ⟨List.nodup_nil, by simp⟩, fun v => by simp⟩
            show (ezv r m.Points Q q ((0 : Nat) : Int)).run NN = _
            simp only [ezv, T.run]
            rw [az7 (by decide), az5]; rfl
          · obtain ⟨L, q1, q2⟩ := yzy hr hP hqo hw (k := kk) (by omega) (by omega) hpts
            exact ⟨L, q1, ⟨LtI.nd q2.1, by have := q2.2.2.1; omega⟩, yzx q2 o3 o4⟩
        have hnsl : ns.length = m.Points.length := by
          have h1 := rzi (LtI.nd o3) (B := cz5 (List.range m.Points.length)) fun x hx => by
            have := (o4 x).1 hx
            unfold InP at this
            exact List.mem_map.2 ⟨x.toNat, List.mem_range.2 (by omega), by omega⟩
          have h2 := rzi (gzq m.Points.length) (B := cz5 ns) fun x hx => by
            obtain ⟨t, ht, rfl⟩ := List.mem_map.1 hx
            have := List.mem_range.1 ht
            exact (o4 _).2 (by unfold InP; omega)
          simp at h1 h2; omega
        have hkm : (min k (ns.length : Int)).toNat = kk := by omega
        have hLP : ∀ v, v ∈ L → InP m.Points v := fun v hv => (o4 v).1 (List.mem_of_mem_take ((n3 v).1 hv))
        rw [hkk, az6 (by omega), decide_eq_false (by rw [w64 (by omega) (by omega)]; omega), az5]
        simp only [cond_false]
        rw [mzr q (by omega), b1]
        simp only [Option.bind_some]
        rw [n1]
        simp only [Option.bind_some]
        rw [az4 (by simp only [List.length_cons, List.length_nil, azt]; omega), az4 (by rw [azt]; omega), az4 (by rw [azt]; omega), az4 (by simp only [List.length_cons, List.length_nil, azt]; omega), o1]
        simp only [Option.bind_some]
        obtain ⟨es, f1, f2, f3⟩ := Gz6 hva hp he hq (ns := ns) o2 (LtI.nd o3) (fun x hx => (o4 x).1 hx) k (fun y46 => andC (bif decide (((m.Points ++ [q]).length : Int) > 1024) then some (Step3.out true) else some (Step3.out (decide ((y46.length : Int) > 8192)))) fun y => bif y then some (m, -1) else some ((⟨m.Points ++ [q], y46⟩ : aza), (m.Points.length : Int)))
        rw [hkm] at f3
        have hpl : (m.Points ++ [q]).length = m.Points.length + 1 := by simp
        have hfin : andC (bif decide (((m.Points ++ [q]).length : Int) > 1024) then some (Step3.out true) else some (Step3.out (decide ((es.length : Int) > 8192)))) (fun y => bif y then some (m, -1) else some ((⟨m.Points ++ [q], es⟩ : aza), (m.Points.length : Int))) = some ((⟨m.Points ++ [q], es⟩ : aza), (m.Points.length : Int)) := by
          rw [az6 (by omega), decide_eq_false (by omega), az5]; rfl
        have hPn2 : ∀ c ∈ m.Points ++ [q], c.length < 4294967296 := fun c hc' => by
          rcases List.mem_append.1 hc' with hc' | hc'
          · exact hc c hc'
          · simp at hc'; subst hc'; omega
        obtain ⟨X, hX⟩ : ∃ X, X = m.Edges ++ L.map fun v => newE r (m.Points ++ [q]) v (m.Points.length : Int) := ⟨_, rfl⟩
        have hXl : X.length ≤ 160 := by rw [hX]; simp; omega
        have hXn : X.Pairwise fun a b => ¬ (a.U = b.U ∧ a.V = b.V) := by
          rw [hX]
          refine List.pairwise_append.2 ⟨s1.imp fun {a b} h hh => ?_, List.pairwise_map.2 (n2.1.imp fun {a b} h hh => h hh.1), fun a ha b hb' hh => ?_⟩
          · rw [fzm] at h; omega
          · obtain ⟨v, hv, rfl⟩ := List.mem_map.1 hb'
            have := s2 a ha
            simp only [newE] at hh; omega
        obtain ⟨s, t1, t2, t3⟩ := qz5 Hzr swoE X 0 X.length (by omega) (by omega) (fun _ _ => trivial)
        simp only [List.take_zero, List.nil_append, Nat.zero_add, List.drop_length, List.append_nil, List.drop_zero, List.take_length] at t1 t2
        have hsE : AddP r m q (fun v => v ∈ (cz5 ns).take kk) s := by
          refine ⟨Gzt t2 t3 hXn, fun e => t2.mem_iff.trans ?_⟩
          rw [hX, List.mem_append, List.mem_map]
          constructor
          · rintro (h | ⟨v, h1, h2⟩)
            · exact .inl h
            · exact .inr ⟨v, (n3 v).1 h1, h2.symm⟩
          · rintro (h | ⟨v, h1, h2⟩)
            · exact .inl h
            · exact .inr ⟨v, (n3 v).2 h1, h2.symm⟩
        have hse : s = es := xzk s es hsE.1 f3.1 fun e => (hsE.2 e).trans (f3.2 e).symm
        have hRes : ∀ e ∈ es, ResB e.Proof := fun e h => by
          rcases (f3.2 e).1 h with h | ⟨v, -, rfl⟩
          · exact hb e h
          · exact Kz7 _ _ _ _
        have loopA : andK (iter (fun x : List az1 × Int => bif decide (x.2 < (L.length : Int)) then grd (0 ≤ x.2 ∧ x.2 < (L.length : Int)) ((gz6 r (m.Points ++ [q]) (L.getD x.2.toNat default) (m.Points.length : Int)).o.bind fun y => grd ((x.1.length + [y].length) * 160 ≤ 140737488355328 ∧ x.1.length + [y].length ≤ maxLen) (some (Step3.next (x.1 ++ [y], IntKind.i64.wrap (x.2 + 1))))) else some (Step3.out x.1)) NN (m.Edges, 0)) (fun y46 => (azx y46 0 y46.length).o.bind fun y50 => some ((⟨m.Points ++ [q], y50⟩ : aza), (m.Points.length : Int))) = some ((⟨m.Points ++ [q], es⟩ : aza), (m.Points.length : Int)) := by
          refine (nzk (fun j => (m.Edges ++ (L.take j).map (fun v => newE r (m.Points ++ [q]) v (m.Points.length : Int)), (j : Int))) X L.length (by simp) (by show _ < 4294967296; omega) (fun j hj => ?_) ?_).trans ?_
          · have hLj := hLP _ (azl hj)
            have ht : L.take (j + 1) = L.take j ++ [L.getD j default] := lzj hj
            dsimp only
            rw [az7 (by omega), az4 (by omega), Int.toNat_natCast, ht]
            generalize L.getD j default = v at hLj ⊢
            unfold InP at hLj
            obtain ⟨w, rfl⟩ : ∃ w : Nat, v = (w : Int) := ⟨v.toNat, by omega⟩
            rw [wz8 r _ hPn2 (by omega) (by omega)]
            simp only [Option.bind_some]
            rw [az4 (by simp only [List.length_cons, List.length_nil, List.length_append, List.length_map, List.length_take, azt]; omega), wn (by omega)]
            simp
          · dsimp only; rw [az6 (by omega), List.take_length, hX]
          · rw [t1]
            simp only [Option.bind_some, hse]
        refine ⟨⟨m.Points ++ [q], es⟩, (m.Points.length : Int), loopA, f1.trans hfin, ⟨by rw [hpl]; omega, hPn2, f2, hRes⟩, fun _ _ => .inr ⟨hqn, rfl, rfl, _, fun v hv => (o4 v).1 (List.mem_of_mem_take hv), f3⟩⟩
open Go.Proofs
theorem Hzj {r : az8} {m : aza} (hr : dz4 r = 0) (hin : ∀ c ∈ m.Points, bzk r c = true) (hnd : m.Points.Nodup) (hs : SoE m.Edges) (he : ∀ e ∈ m.Edges, EdV r m e) : VaP r m :=
  ⟨hr, fun i hi => ⟨hin _ (azl hi), wz0 hnd hi⟩, fun i hi => ⟨he _ (azl hi), fun h0 => Ezl hs (by omega) hi⟩⟩
theorem Ezs {r : az8} {m : aza} (h : VaP r m) : m.Points.Nodup := by
  refine List.pairwise_iff_getElem.2 fun i j hi hj hij e => ?_
  have h2 := (h.2.1 j hj).2
  refine h2 ?_
  rw [List.getD_eq_getElem?_getD, List.getElem?_eq_getElem hj, Option.getD_some, ← e]
  have : (m.Points.take j)[i]'(by rw [List.length_take]; omega) = m.Points[i] := List.getElem_take
  rw [← this]
  exact List.getElem_mem _
theorem Kzu {r : az8} {m : aza} (h : VaP r m) {e : az1} (he : e ∈ m.Edges) : EdV r m e := by
  obtain ⟨i, hi, rfl⟩ := List.getElem_of_mem he
  have := (h.2.2 i hi).1
  rw [List.getD_eq_getElem?_getD, List.getElem?_eq_getElem hi, Option.getD_some] at this
  exact this
theorem Dzv (r : az8) (P : List (List Int)) (a b : Int) : StV (newE r P a b) := ⟨⟨by show (0 : Int) ≤ 0; decide, by show (0 : Int) ≤ 3; decide⟩, rfl, fun _ => rfl⟩
theorem Jz2 {l : List az1} (h : SoE l) {a b : az1} (ha : a ∈ l) (hb : b ∈ l) (hu : a.U = b.U) (hv : a.V = b.V) : a = b := by
  obtain ⟨i, hi, rfl⟩ := List.getElem_of_mem ha
  obtain ⟨j, hj, rfl⟩ := List.getElem_of_mem hb
  have hp := List.pairwise_iff_getElem.1 h
  by_cases c : i < j
  · have := hp i j hi hj c; rw [fzm] at this; omega
  · by_cases c2 : j < i
    · have := hp j i hj hi c2; rw [fzm] at this; omega
    · have : i = j := by omega
      subst this; rfl
theorem Fza (m : aza) (hm : m.Edges.length < 4294967296) (hs : SoE m.Edges) {e : az1} (he : e ∈ m.Edges) (h0 : 0 ≤ e.U) (h1 : e.U < e.V) : ∃ z : Nat, (mzb m e.U e.V).o = some (z : Int) ∧ z < m.Edges.length ∧ m.Edges.getD z default = e := by
  have hmn : min e.U e.V = e.U := by omega
  have hmx : max e.U e.V = e.V := by omega
  suffices hh : ∃ z : Int, (mzb m e.U e.V).o = some z ∧ (0 ≤ z ∧ z < (m.Edges.length : Int)) ∧ m.Edges.getD z.toNat default = e by
    obtain ⟨z, z1, z2, z3⟩ := hh
    exact ⟨z.toNat, by rw [z1]; congr 1; omega, by omega, z3⟩
  obtain ⟨i, hi, hie⟩ := List.getElem_of_mem he
  have hgi : m.Edges.getD i default = e := by rw [List.getD_eq_getElem?_getD, List.getElem?_eq_getElem hi, Option.getD_some, hie]
  obtain ⟨x, j, hx, hj, hg⟩ : ∃ (x : Int) (j : Nat), scan (fun i => sw (decide ((m.Edges.getD i default).U = e.U ∧ (m.Edges.getD i default).V = e.V)) (i : Int)) m.Edges.length 0 = some x ∧ (j < m.Edges.length ∧ x = (j : Int)) ∧ (m.Edges.getD j default).U = e.U ∧ (m.Edges.getD j default).V = e.V := by
    cases hsc : scan (fun i => sw (decide ((m.Edges.getD i default).U = e.U ∧ (m.Edges.getD i default).V = e.V)) (i : Int)) m.Edges.length 0 with
    | none =>
      have := (dzv _ _).1 hsc i (Nat.zero_le _) (by omega)
      rw [hgi, decide_eq_true ⟨rfl, rfl⟩] at this; cases this
    | some x =>
      obtain ⟨j, -, h2, h3, -⟩ := jzq _ _ hsc
      unfold sw at h3
      cases hb : decide ((m.Edges.getD j default).U = e.U ∧ (m.Edges.getD j default).V = e.V) with
      | false => rw [hb] at h3; cases h3
      | true =>
        rw [hb] at h3
        simp only [cond_true, Option.some.injEq] at h3
        exact ⟨x, j, rfl, ⟨by omega, h3.symm⟩, of_decide_eq_true hb⟩
  refine ⟨x, ?_, by omega, ?_⟩
  · show (mzc m e.U e.V).run NN = _
    simp only [mzc, T.run, hmn, hmx]
    refine (jzp (fun i => sw (decide ((m.Edges.getD i default).U = e.U ∧ (m.Edges.getD i default).V = e.V)) (i : Int)) m.Edges.length hm (fun j hj => ?_) (by rw [az6 (by omega)])).trans ?_
    · rw [az7 (by omega), az4 (by omega), az4 (by omega), wn (by omega), Int.toNat_natCast, ← izw]
      by_cases c1 : (m.Edges.getD j default).U = e.U
      · rw [fzh c1, az5]
        by_cases c2 : (m.Edges.getD j default).V = e.V
        · rw [decide_eq_true ⟨c1, c2⟩, beq_iff_eq.2 c2]
        · have : ((m.Edges.getD j default).V == e.V) = false := by simpa using c2
          rw [decide_eq_false (fun h => c2 h.2), this]
      · rw [ezt c1, az5, decide_eq_false (fun h => c1 h.1)]
    · rw [hx]
  · have hxj : x.toNat = j := by omega
    rw [hxj]
    exact Jz2 hs (azl hj.1) he hg.1 hg.2
theorem Kz6 {r : az8} {m : aza} (hva : VaP r m) (hm : SmM m) {e : Int} (he : 0 ≤ e) {c : Int} (c0 : 0 ≤ c) (c3 : c ≤ 3) {x : azc} (hx : ResB x) (hk : x.Kind = uzd c) :
    ∃ m' b, (jze m e x).o = some (m', b) ∧ VaP r m' ∧ PtB m' := by
  obtain ⟨hp, hel, hc, hb⟩ := hm
  have em : (⟨m.Points, m.Edges⟩ : aza) = m := rfl
  have hpb : PtB m := ⟨by omega, by omega, hc⟩
  have hcl := Czm m (by omega) hc (by omega) hb
  suffices hs : ∃ y, (jze m e x).o = some y ∧ (VaP r y.1 ∧ PtB y.1) by
    obtain ⟨⟨m', b⟩, y1, y2, y3⟩ := hs
    exact ⟨m', b, y1, y2, y3⟩
  show ∃ y, (mzg m e x).run NN = some y ∧ _
  simp only [mzg, T.run, em, hcl, Option.bind_some]
  rw [az6 (by omega), az5]
  by_cases h1 : e ≥ (m.Edges.length : Int)
  · rw [az7 h1]
    exact ⟨_, rfl, hva, hpb⟩
  · obtain ⟨i, rfl, hi⟩ : ∃ i : Nat, e = (i : Int) ∧ i < m.Edges.length := ⟨e.toNat, by omega, by omega⟩
    rw [az6 h1, az4 (by omega), Int.toNat_natCast]
    by_cases h2 : (m.Edges.getD i default).State = 1
    · rw [fzh h2, az5]
      exact ⟨_, rfl, hva, hpb⟩
    · rw [ezt h2, az5]
      by_cases h3 : (m.Edges.getD i default).State = 2
      · rw [beq_iff_eq.2 h3]
        exact ⟨_, rfl, hva, hpb⟩
      · have : ((m.Edges.getD i default).State == 2) = false := by simpa using h3
        rw [this]
        simp only [cond_false, Hza, Option.bind_some, rz6 x hx]
        have hset : ∀ s : Int, 1 ≤ s → s ≤ 3 → uzd s = x.Kind → VaP r ⟨m.Points, (m.Edges.set i ⟨(m.Edges.getD i default).U, (m.Edges.getD i default).V, (m.Edges.getD i default).Cost, s, (m.Edges.getD i default).Proof⟩).set i ⟨((m.Edges.set i ⟨(m.Edges.getD i default).U, (m.Edges.getD i default).V, (m.Edges.getD i default).Cost, s, (m.Edges.getD i default).Proof⟩).getD i default).U, ((m.Edges.set i ⟨(m.Edges.getD i default).U, (m.Edges.getD i default).V, (m.Edges.getD i default).Cost, s, (m.Edges.getD i default).Proof⟩).getD i default).V, ((m.Edges.set i ⟨(m.Edges.getD i default).U, (m.Edges.getD i default).V, (m.Edges.getD i default).Cost, s, (m.Edges.getD i default).Proof⟩).getD i default).Cost, ((m.Edges.set i ⟨(m.Edges.getD i default).U, (m.Edges.getD i default).V, (m.Edges.getD i default).Cost, s, (m.Edges.getD i default).Proof⟩).getD i default).State, x⟩⟩ := fun s s1 s3 hs => by
          simp only [gzt hi, if_true, List.set_set]
          obtain ⟨v1, v2, v3⟩ := hva
          have hg : ∀ t, t < m.Edges.length → ((m.Edges.set i ⟨(m.Edges.getD i default).U, (m.Edges.getD i default).V, (m.Edges.getD i default).Cost, s, x⟩).getD t default).U = (m.Edges.getD t default).U ∧ ((m.Edges.set i ⟨(m.Edges.getD i default).U, (m.Edges.getD i default).V, (m.Edges.getD i default).Cost, s, x⟩).getD t default).V = (m.Edges.getD t default).V ∧ ((m.Edges.set i ⟨(m.Edges.getD i default).U, (m.Edges.getD i default).V, (m.Edges.getD i default).Cost, s, x⟩).getD t default).Cost = (m.Edges.getD t default).Cost ∧ StV ((m.Edges.set i ⟨(m.Edges.getD i default).U, (m.Edges.getD i default).V, (m.Edges.getD i default).Cost, s, x⟩).getD t default) := fun t ht => by
            rw [gzt hi]
            by_cases hit : i = t
            · subst hit
              rw [if_pos rfl]
              exact ⟨rfl, rfl, rfl, ⟨by simp only; omega, by simp only; omega⟩, by simp only; exact hs.symm, fun h => by simp only at h; omega⟩
            · rw [if_neg hit]
              exact ⟨rfl, rfl, rfl, (v3 t ht).1.2.2⟩
          refine ⟨v1, v2, fun t ht => ?_⟩
          simp only [List.length_set] at ht ⊢
          obtain ⟨g1, g2, g3, g4⟩ := hg t ht
          obtain ⟨⟨⟨w1, w2⟩, w3, -⟩, w5⟩ := v3 t ht
          refine ⟨⟨⟨endsV_iff.2 ?_, by rw [g1, g2]; exact w2⟩, by rw [g3, g1, g2]; exact w3, g4⟩, fun h => ?_⟩
          · rw [g1, g2]; exact endsV_iff.1 w1
          · obtain ⟨k1, k2, -, -⟩ := hg (t - 1) (by omega)
            have := w5 h
            rw [fzm] at this ⊢
            rw [g1, g2, k1, k2]; exact this
        have hc4 : c = 1 ∨ c = 2 ∨ (c = 0 ∨ c = 3) := by omega
        have e3 : ((([1, 2, 3] : List Int).length : Nat) : Int) = 3 := rfl
        have k1v : uzd 1 = 1 := rfl
        have k2v : uzd 2 = 2 := rfl
        have k3v : uzd 3 = 0 := rfl
        have hkx : x.Kind = 1 ∨ x.Kind = 2 ∨ x.Kind = 0 := by
          rcases hc4 with rfl | rfl | rfl | rfl
          · exact .inl hk
          · exact .inr (.inl hk)
          · exact .inr (.inr hk)
          · exact .inr (.inr hk)
        refine ezm (P := fun y : aza × Bool => VaP r y.1 ∧ PtB y.1) (fun mm (y : Int) => ∃ t : Nat, y = (t : Int) ∧ t + mm = 3 ∧ t ≤ 2 ∧ (1 ≤ t → x.Kind ≠ 1) ∧ (2 ≤ t → x.Kind ≠ 2)) (fun _ => False) 3 ⟨0, rfl, by omega, by omega, fun h => by omega, fun h => by omega⟩ (by omega) ?_ (fun _ h => h.elim)
        rintro mm y ⟨t, rfl, t1, t2, t3, t4⟩
        rw [az7 (by omega), az4 (by omega), Int.toNat_natCast, az4 (by simp only [List.length_cons, List.length_nil]; omega), wn (by omega)]
        have ht3 : t = 0 ∨ t = 1 ∨ t = 2 := by omega
        rcases ht3 with rfl | rfl | rfl
        · have g : ([1, 2, 3] : List Int).getD 0 default = 1 := rfl
          rw [g, k1v]
          by_cases c1 : x.Kind = 1
          · rw [fzh c1.symm, az4 (by omega), az4 (by omega), az4 (by rw [List.length_set]; omega), az4 (by rw [List.length_set]; omega)]
            exact .inr (.inr ⟨_, rfl, hset 1 (by decide) (by decide) (by rw [k1v, c1]), ⟨by simp only; omega, by simp only [List.length_set]; omega, hc⟩⟩)
          · rw [ezt (Ne.symm c1)]
            exact .inl ⟨_, mm - 1, rfl, by omega, 1, rfl, by omega, by omega, fun _ => c1, fun h => by omega⟩
        · have g : ([1, 2, 3] : List Int).getD 1 default = 2 := rfl
          rw [g, k2v]
          by_cases c1 : x.Kind = 2
          · rw [fzh c1.symm, az4 (by omega), az4 (by omega), az4 (by rw [List.length_set]; omega), az4 (by rw [List.length_set]; omega)]
            exact .inr (.inr ⟨_, rfl, hset 2 (by decide) (by decide) (by rw [k2v, c1]), ⟨by simp only; omega, by simp only [List.length_set]; omega, hc⟩⟩)
          · rw [ezt (Ne.symm c1)]
            exact .inl ⟨_, mm - 1, rfl, by omega, 2, rfl, by omega, by omega, fun _ => t3 (by omega), fun _ => c1⟩
        · have g : ([1, 2, 3] : List Int).getD 2 default = 3 := rfl
          have c1 : x.Kind = 0 := by
            have := t3 (by omega)
            have := t4 (by omega)
            omega
          rw [g, k3v, fzh c1.symm, az4 (by omega), az4 (by omega), az4 (by rw [List.length_set]; omega), az4 (by rw [List.length_set]; omega)]
          exact .inr (.inr ⟨_, rfl, hset 3 (by decide) (by decide) (by rw [k3v, c1]), ⟨by simp only; omega, by simp only [List.length_set]; omega, hc⟩⟩)
theorem szo {r : az8} {m : aza} (h : VaP r m) (hp : PtB m) : (ezd r m).o = some true := by
  obtain ⟨b, b1, b2⟩ := Ezt r m hp
  rw [b1, b2.2 h]
theorem Bzd {P : List (List Int)} {q : List Int} {x : Int} (h0 : 0 ≤ x) (h : x < (P.length : Int)) : (P ++ [q]).getD x.toNat default = P.getD x.toNat default := by
  simp [List.getD_eq_getElem?_getD, List.getElem?_append_left (show x.toNat < P.length by omega)]
theorem szj (l m o : List Int) (k e kd : Int) (hl : l.length < 4294967296) (hm : m.length < 4294967296) (ho : o.length < 4294967296) : (czw l m o k e kd).o = some true := by
  obtain ⟨r, e1, hr, hv⟩ := yzo l hl
  obtain ⟨a, e2, a1, a2, a3, a4, a5, a6⟩ := vzi r m hm hr hv
  have ha : ∀ c ∈ a.Points, c.length < 4294967296 := fun c hc => by have := a3 c hc; omega
  obtain ⟨q, e4, hq⟩ := rzb r o ho hr hv
  have hB : SmM a := ⟨by omega, by omega, ha, a6⟩
  obtain ⟨b, i, f1, -, ⟨f3, f4, f5, f6⟩, f7⟩ := Kzy r a q (1 + k % 4) hB
  obtain ⟨cl, g1, g2, g3, g4⟩ := Czl (kd % 4) (by omega) (by omega)
  obtain ⟨c, cb, h1, h2, h3⟩ := Kz6 a5 hB (e := e % ((a.Edges.length + 1 : Nat) : Int)) (Int.emod_nonneg _ (by omega)) (c := kd % 4) (by omega) (by omega) g4 g2
  obtain ⟨n, n1, -, n3⟩ := Lz3 r a.Points k (by omega)
  obtain ⟨s1, s2⟩ := Jz9 a5
  have hin := Jz8 a5
  have hnd := Ezs a5
  have hnV : VaP r n ∧ PtB n := by
    obtain ⟨z1, es, z2, z3⟩ := n3 hv
    have hdl := lzr r a.Points a.Points.length
    have hdn := pzr r a.Points a.Points.length
    have hdi := ozn r a.Points a.Points.length
    rw [← z1] at hdl hdn hdi
    obtain ⟨⟨P', E'⟩, y1, -, y3⟩ := Bzb r a.Points k (by omega) ha
    obtain ⟨w1, fs, -, w3, w4⟩ := y3 hv
    simp only at w1 w3 w4
    have hPP : P' = n.Points := by rw [w1, z1]
    rw [hPP] at w3 w4
    have hfe : fs = es := w4.uniq z3
    have hsq : n.Points.length * n.Points.length ≤ 7 * 7 := Nat.mul_le_mul (by omega) (by omega)
    have htk : es.take 8192 = es := List.take_of_length_le (by rw [← hfe]; omega)
    rw [htk] at z2
    refine ⟨Hzj hv hdi hdn (by rw [z2]; exact z3.1) fun e he => ?_, ⟨by omega, by rw [z2, ← hfe]; omega, fun c hc => by have := ez9 (hdi c hc); omega⟩⟩
    rw [z2] at he
    obtain ⟨u, v, u1, u2, -, rfl⟩ := (z3.2 e).1 he
    exact ⟨⟨endsV_iff.2 (by simp only [newE]; omega), by simp only [newE]; omega⟩, rfl, Dzv _ _ _ _⟩
  have hbV : VaP r b ∧ PtB b ∧ (0 ≤ i ∧ i < (b.Points.length : Int)) ∧ a.Points.length ≤ b.Points.length ∧ b.Points.take a.Points.length = a.Points ∧ SoE b.Edges ∧ ∀ e ∈ a.Edges, e ∈ b.Edges := by
    rcases f7 a5 hq with ⟨q1, rfl, rfl⟩ | ⟨q1, rfl, q3, S, q4, q5, q6⟩
    · obtain ⟨p1, p2⟩ := Bz6 (l := b.Points) (c := q) (by omega) ha
      exact ⟨a5, ⟨by omega, by omega, ha⟩, ⟨p1.2 q1, p2⟩, Nat.le_refl _, List.take_length, s1, fun _ h => h⟩
    · have hbl : b.Points.length = a.Points.length + 1 := by rw [q3]; simp
      have hEb : ∀ e ∈ a.Edges, e ∈ b.Edges := fun e h => (q6 e).2 (.inl h)
      refine ⟨Hzj hv (fun c hc => ?_) ?_ q5 fun e he => ?_, ⟨by omega, by omega, f4⟩, by omega, by omega, by rw [q3, List.take_left], q5, hEb⟩
      · rw [q3] at hc
        rcases List.mem_append.1 hc with hc | hc
        · exact hin c hc
        · simp at hc; subst hc; exact hq
      · rw [q3]
        refine List.nodup_append.2 ⟨hnd, by simp, fun x hx y hy => ?_⟩
        simp at hy; subst hy
        intro e; subst e; exact q1 hx
      · rcases (q6 e).1 he with he | ⟨v, hv', rfl⟩
        · obtain ⟨⟨k1, k2⟩, k3, k4⟩ := Kzu a5 he
          have k5 := endsV_iff.1 k1
          refine ⟨⟨endsV_iff.2 (by omega), k2⟩, ?_, k4⟩
          rw [q3, Bzd (by omega) (by omega), Bzd (by omega) (by omega)]; exact k3
        · have := q4 v hv'
          unfold InP at this
          exact ⟨⟨endsV_iff.2 (by simp only [newE]; omega), by simp only [newE]; omega⟩, by rw [q3]; rfl, Dzv _ _ _ _⟩
  obtain ⟨b1, b2, b3, b4, b5, b6, b7⟩ := hbV
  have hw : IntKind.i64.wrap (1 + k % 4) = 1 + k % 4 := w64 (by omega) (by omega)
  have hw2 : IntKind.i64.wrap ((a.Edges.length : Int) + 1) = ((a.Edges.length + 1 : Nat) : Int) := wn (by omega)
  show (hz7 l m o k e kd).run NN = _
  simp only [hz7, T.run, e1, e2, e4, Option.bind_some, lzw (x := k) (k := 4) (by decide) (by decide), lzw (x := kd) (k := 4) (by decide) (by decide), hw, hw2, f1, g1, Hzm]
  rw [lzw (by omega) (by omega)]
  simp only [Option.bind_some, h1, n1, szo b1 b2, szo h2 h3, szo hnV.1 hnV.2, cond_true]
  have z0 : (0 : Int).toNat = 0 := rfl
  rw [az6 (by omega), az6 (by omega), az6 (by omega), az4 (by omega)]
  simp only [z0, Int.toNat_natCast, List.drop_zero, Nat.sub_zero, b5]
  rw [Ezi a.Points (by omega) ha]
  simp only [Option.bind_some, Bool.not_true, az5, cond_false]
  refine (jzp (fun _ => none) a.Edges.length (by omega) (fun j hj => ?_) (by rw [az6 (by omega)])).trans ?_
  · have hje := azl hj
    have hE := s2 _ hje
    obtain ⟨z, z1, z2, z3⟩ := Fza b (by omega) b6 (b7 _ hje) hE.1 hE.2.1
    rw [az7 (by omega), az4 (by omega), az4 (by omega), Int.toNat_natCast, wn (by omega), z1]
    simp only [Option.bind_some]
    rw [az6 (by omega), az4 (by omega), az4 (by omega), Int.toNat_natCast, z3, cz9 rfl, az4 (by omega), az4 (by omega), az5]
    have hcst : ((a.Edges.getD j default).Cost != (a.Edges.getD j default).Cost) = false := by simp
    rw [hcst]; rfl
  · rw [(dzv _ _).2 (fun _ _ _ => rfl)]
end Go.Abs
