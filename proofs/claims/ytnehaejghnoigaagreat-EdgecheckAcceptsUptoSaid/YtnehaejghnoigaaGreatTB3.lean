import Derived.Test.YtnehaejghnoigaaGreatTB2
/-
  Pairs of shapes: what the program and the reference compute is the same.
-/
namespace Go.Abs

/-! ### Trees whose nodes have lesser parents; 0 is the root -/
section
variable (par : Nat → Nat) (mv : Nat → Prop) [DecidablePred mv]
inductive AncN : Nat → Nat → Prop
  | self {m : Nat} : 0 < m → AncN m m
  | up {m x : Nat} : 0 < m → AncN (par m) x → AncN m x
def cF : Nat → Nat → Nat
  | 0, _ => 0
  | d + 1, m => if m = 0 then 0 else if mv m then m else cF d (par m)
end
section
variable {par : Nat → Nat} {mv : Nat → Prop} [DecidablePred mv]
theorem AncN.pos {m x : Nat} (h : AncN par m x) : 0 < m ∧ 0 < x := by
  induction h with
  | self h => exact ⟨h, h⟩
  | up h _ ih => exact ⟨h, ih.2⟩
theorem AncN.le {n m x : Nat} (hp : ∀ m, 0 < m → m ≤ n → par m < m) (h : AncN par m x) : m ≤ n → x ≤ m := by
  induction h with
  | self => intro _; exact Nat.le_refl _
  | up h0 _ ih => rename_i m x _; intro hm; have := hp m h0 hm; have := ih (by omega); omega
theorem cF_fuel {n : Nat} (hp : ∀ m, 0 < m → m ≤ n → par m < m) : ∀ (d d' m : Nat), m ≤ n → m < d → m < d' → cF par mv d m = cF par mv d' m
  | 0, _, _, _, h, _ => by omega
  | _, 0, _, _, _, h => by omega
  | d + 1, d' + 1, m, hm, h1, h2 => by
    simp only [cF]
    by_cases h0 : m = 0
    · simp only [h0, if_true]
    · simp only [h0, if_false]
      have := hp m (by omega) hm
      by_cases hv : mv m
      · simp only [hv, if_true]
      · simp only [hv, if_false]; exact cF_fuel hp d d' (par m) (by omega) (by omega) (by omega)
theorem cF_anc {n : Nat} (hp : ∀ m, 0 < m → m ≤ n → par m < m) : ∀ (d m : Nat), m ≤ n → m < d → (∀ x, mv x → (AncN par m x ↔ AncN par (cF par mv d m) x)) ∧ (cF par mv d m ≠ 0 → mv (cF par mv d m) ∧ AncN par m (cF par mv d m)) ∧ cF par mv d m ≤ m
  | 0, _, _, h => by omega
  | d + 1, m, hm, h => by
    simp only [cF]
    by_cases h0 : m = 0
    · rw [if_pos h0]; subst h0; exact ⟨fun _ _ => Iff.rfl, fun h => absurd rfl h, Nat.le_refl _⟩
    · simp only [h0, if_false]
      have hl := hp m (by omega) hm
      by_cases hv : mv m
      · rw [if_pos hv]; exact ⟨fun _ _ => Iff.rfl, fun _ => ⟨hv, .self (by omega)⟩, Nat.le_refl _⟩
      · simp only [hv, if_false]
        obtain ⟨h1, h2, h3⟩ := cF_anc hp d (par m) (by omega) (by omega)
        refine ⟨fun x hx => ?_, fun hn => ⟨(h2 hn).1, .up (by omega) (h2 hn).2⟩, by omega⟩
        rw [← h1 x hx]
        constructor
        · intro ha
          cases ha with
          | self => exact absurd hx hv
          | up _ ha => exact ha
        · intro ha; exact .up (by omega) ha
/-- Two nodes have the same last movable node exactly if the same movable nodes lie above them. -/
theorem same_car {n : Nat} (hp : ∀ m, 0 < m → m ≤ n → par m < m) {a b d : Nat} (ha : a ≤ n) (hb : b ≤ n) (hd : n < d) : cF par mv d a = cF par mv d b ↔ ∀ x, mv x → (AncN par a x ↔ AncN par b x) := by
  obtain ⟨a1, a2, a3⟩ := cF_anc (mv := mv) hp d a ha (by omega)
  obtain ⟨b1, b2, b3⟩ := cF_anc (mv := mv) hp d b hb (by omega)
  constructor
  · intro h x hx; rw [a1 x hx, b1 x hx, h]
  · intro h
    have key : ∀ {a b : Nat}, a ≤ n → b ≤ n → cF par mv d a ≠ 0 → (∀ x, mv x → (AncN par a x ↔ AncN par b x)) → cF par mv d a ≤ cF par mv d b := by
      intro a b ha hb hn h
      obtain ⟨a1, a2, a3⟩ := cF_anc (mv := mv) hp d a ha (by omega)
      obtain ⟨b1, b2, b3⟩ := cF_anc (mv := mv) hp d b hb (by omega)
      have := (b1 _ (a2 hn).1).1 ((h _ (a2 hn).1).1 (a2 hn).2)
      exact this.le hp (by omega)
    by_cases h0 : cF par mv d a = 0
    · by_cases h1 : cF par mv d b = 0
      · omega
      · have := key hb ha h1 (fun x hx => (h x hx).symm); omega
    · have h2 := key ha hb h0 h
      have h3 := key hb ha (by omega) (fun x hx => (h x hx).symm)
      omega
end

/-! ### The tree of a robot -/
section
variable (r : S_Robot)
def parN (m : Nat) : Nat := ((r.Joints.getD (m - 1) default).Parent + 1).toNat
def mvN (m : Nat) : Prop := (r.Joints.getD (m - 1) default).Lo ≠ (r.Joints.getD (m - 1) default).Hi
instance : DecidablePred (mvN r) := fun m => inferInstanceAs (Decidable (_ ≠ _))
def carN (m : Nat) : Nat := cF (parN r) (mvN r) (r.Joints.length + 1) m
end
variable {r : S_Robot} (hr : robotV r = 0)
include hr
theorem parN_lt : ∀ m, 0 < m → m ≤ r.Joints.length → parN r m < m := fun m h0 hm => by
  have := (robot_joint hr (show m - 1 < r.Joints.length by omega)).parent
  unfold parN; omega
omit hr in
theorem carN_zero : carN r 0 = 0 := by
  unfold carN; simp only [cF, if_true]
theorem carN_succ {i : Nat} (hi : i < r.Joints.length) : carN r (i + 1) = if (r.Joints.getD i default).Lo = (r.Joints.getD i default).Hi then carN r ((r.Joints.getD i default).Parent + 1).toNat else i + 1 := by
  have hl := parN_lt hr (i + 1) (by omega) (by omega)
  unfold carN
  conv => lhs; simp only [cF]
  rw [if_neg (by omega)]
  by_cases h : (r.Joints.getD i default).Lo = (r.Joints.getD i default).Hi
  · rw [if_neg (fun hm => hm h), if_pos h]
    exact cF_fuel (parN_lt hr) _ _ (parN r (i + 1)) (by omega) (by omega) (by omega)
  · rw [if_pos (show mvN r (i + 1) from h), if_neg h]
theorem carN_le {m : Nat} (hm : m ≤ r.Joints.length) : carN r m ≤ m := (cF_anc (parN_lt hr) _ m hm (by omega)).2.2
def caP (r : S_Robot) (m : Nat) : Int := (carN r m : Int) - 1
theorem scene_carriers_e : (scene_carriers_C r).o = some (tab (caP r) (r.Joints.length + 1)) := by
  have hr' := robotV_ok hr
  show (scene_carriers_T r).run NN = _
  simp only [scene_carriers_T, T.run]
  rw [wn (by omega), Int.toNat_natCast, grd_p ⟨by omega, by omega, by omega, by omega⟩]
  simp only [List.length_replicate]
  rw [grd_p ⟨by omega, by omega⟩, grd_p ⟨by simp, by omega⟩]
  refine (loop_to (fun j => (half (caP r) 0 (r.Joints.length + 1) (j + 1), (j : Int))) (tab (caP r) (r.Joints.length + 1)) r.Joints.length ?_ (show r.Joints.length < 4294967296 by omega) (fun j hj => ?_) ?_).trans rfl
  · rw [← half_set (by omega), half_zero]
    have : caP r 0 = -1 := by unfold caP; rw [carN_zero]; rfl
    rw [this]; rfl
  · have jp := (robot_joint hr hj).parent
    rw [bif_dpos (by simpa using hj), grd_p ⟨by simp, by simpa using hj⟩]
    simp only [Int.toNat_natCast, half_len (show j + 1 ≤ r.Joints.length + 1 by omega), List.length_set]
    rw [wn (by omega), Int.toNat_natCast, grd_p ⟨by omega, by omega⟩, grd_p ⟨by omega, by omega⟩, w64 (x := (r.Joints.getD j default).Parent + 1) (by omega) (by omega)]
    have e := carN_succ hr hj
    by_cases h : (r.Joints.getD j default).Lo = (r.Joints.getD j default).Hi
    · have e2 : caP r (j + 1) = caP r ((r.Joints.getD j default).Parent + 1).toNat := by unfold caP; rw [e, if_pos h]
      rw [bif_eq h, grd_p ⟨by omega, by omega⟩, grd_p (by omega), grd_p ⟨by omega, by omega⟩, grd_p ⟨by omega, by omega⟩, set_get_ne (by omega), half_get (by omega), andC_out, List.set_set, ← half_set (j := j + 1) (by omega), e2]
    · have e2 : caP r (j + 1) = (j : Int) := by unfold caP; rw [e, if_neg h]; omega
      rw [bif_ne h, andC_out, ← half_set (j := j + 1) (by omega), e2]
  · rw [bif_dneg (by simp)]; simp only [half_all]
theorem ref6_Chain_e {k : Int} (h0 : -1 ≤ k) (h1 : k < (r.Joints.length : Int)) : ∃ L : List Int, (ref6_Chain_C r k).o = some L ∧ L.length ≤ r.Joints.length ∧ ∀ x : Nat, (x : Int) ∈ L ↔ AncN (parN r) (k + 1).toNat (x + 1) := by
  have hr' := robotV_ok hr
  have e0 : (ref6_Chain_C r k).o = (ref6_Chain_T r k).run NN := rfl
  rw [e0]
  simp only [ref6_Chain_T, T.run, ref6_CheckRobot_e, hr, ref6_isLink_e, Option.bind_some]
  rw [bif_nne rfl, andC_out, show linkV r.Joints.length k = true by simp [linkV]; omega, Bool.not_true, cond_false]
  refine ex_loop (β := List Int) (g := fun L => some L) (P := fun L => L.length ≤ r.Joints.length ∧ ∀ x : Nat, (x : Int) ∈ L ↔ AncN (parN r) (k + 1).toNat (x + 1))
    (fun (y : List Int × Int) => -1 ≤ y.2 ∧ y.2 < (r.Joints.length : Int) ∧ y.1.length + (y.2 + 1).toNat ≤ r.Joints.length ∧ ∀ x : Nat, ((x : Int) ∈ y.1 ∨ AncN (parN r) (y.2 + 1).toNat (x + 1)) ↔ AncN (parN r) (k + 1).toNat (x + 1))
    (fun (y : List Int × Int) => (y.2 + 1).toNat) (fun (L : List Int) => L.length ≤ r.Joints.length ∧ ∀ x : Nat, (x : Int) ∈ L ↔ AncN (parN r) (k + 1).toNat (x + 1)) ⟨h0, h1, ?_, fun x => ?_⟩ ?_ (fun y hy => ?_) (fun L hL => ⟨L, rfl, hL⟩)
  · simp [nl]; omega
  · simp [nl]
  · show (k + 1).toNat < 4294967296; omega
  · obtain ⟨a1, a2, a3, a4⟩ := hy
    by_cases hk : y.2 = -1
    · refine .inr ⟨y.1, by rw [bif_nne hk], by omega, fun x => ?_⟩
      rw [← a4 x]
      constructor
      · exact Or.inl
      · rintro (h | h)
        · exact h
        · have := h.pos.1; rw [hk] at this; exact absurd this (by decide)
    · left
      have jp := (robot_joint hr (show y.2.toNat < r.Joints.length by omega)).parent
      refine ⟨(y.2 :: y.1, (r.Joints.getD y.2.toNat default).Parent), ?_, ⟨jp.1, by omega, by simp only [List.length_cons]; omega, fun x => ?_⟩, by simp only; omega⟩
      · rw [bif_neq hk, grd_p ⟨by simp; omega, by simp [maxLen_eq]; omega⟩, grd_p ⟨by omega, by omega⟩]; rfl
      · rw [← a4 x]
        have hpar : parN r (y.2 + 1).toNat = ((r.Joints.getD y.2.toNat default).Parent + 1).toNat := by
          unfold parN; rw [show (y.2 + 1).toNat - 1 = y.2.toNat by omega]
        simp only [List.mem_cons]
        constructor
        · rintro ((h | h) | h)
          · right; rw [show (y.2 + 1).toNat = x + 1 by omega]; exact .self (by omega)
          · exact Or.inl h
          · right; exact .up (by omega) (hpar ▸ h)
        · rintro (h | h)
          · exact Or.inl (Or.inr h)
          · generalize hm : (y.2 + 1).toNat = m at h
            cases h with
            | self h => left; left; omega
            | up h ha => right; rw [← hm, hpar] at ha; exact ha
omit hr in
theorem ref6_member_e (l : List Int) (x : Int) (h : l.length < 4294967296) : (ref6_member_C l x).o = some (decide (x ∈ l)) := by
  show (ref6_member_T l x).run NN = _
  simp only [ref6_member_T, T.run]
  refine (scanI (fun i => sw (l.getD i default == x) true) l.length h (fun j hj => ?_) ?_).trans ?_
  · rw [bif_dpos (by omega), grd_p (by omega), wn (by omega), Int.toNat_natCast, ← sw_fin]
  · rw [bif_dneg (by omega)]
  · rw [scan_sw]
    have : noneB (fun i => l.getD i default == x) l.length = !decide (x ∈ l) := by
      rw [Bool.eq_iff_iff, noneB_iff, Bool.not_eq_true', decide_eq_false_iff_not]
      constructor
      · intro hn hx
        obtain ⟨i, hi, e⟩ := List.getElem_of_mem hx
        have := hn i hi
        rw [List.getD_eq_getElem?_getD, List.getElem?_eq_getElem hi, Option.getD_some, e] at this
        simp at this
      · intro hn i hi
        rw [List.getD_eq_getElem?_getD, List.getElem?_eq_getElem hi, Option.getD_some]
        simp only [beq_eq_false_iff_ne, ne_eq]
        intro e; apply hn; rw [← e]; exact List.getElem_mem hi
    rw [this]; cases decide (x ∈ l) <;> rfl
def betL (p : Nat → Bool) (n : Nat) : List Int := ((List.range n).filter p).map fun (i : Nat) => (i : Int)
omit hr in
theorem betL_succ (p : Nat → Bool) (n : Nat) : betL p (n + 1) = if p n then betL p n ++ [(n : Int)] else betL p n := by
  unfold betL; rw [List.range_succ, List.filter_append, List.map_append]
  cases h : p n <;> simp [h]
omit hr in
theorem betL_len (p : Nat → Bool) (n : Nat) : (betL p n).length ≤ n := by
  unfold betL; rw [List.length_map]; exact Nat.le_trans (List.length_filter_le _ _) (by simp)
omit hr in
theorem betL_mem {p : Nat → Bool} {n : Nat} {x : Int} : x ∈ betL p n ↔ ∃ i : Nat, x = (i : Int) ∧ i < n ∧ p i = true := by
  unfold betL; simp only [List.mem_map, List.mem_filter, List.mem_range]
  constructor
  · rintro ⟨i, ⟨h1, h2⟩, rfl⟩; exact ⟨i, rfl, h1, h2⟩
  · rintro ⟨i, rfl, h1, h2⟩; exact ⟨i, ⟨h1, h2⟩, rfl⟩
theorem ref6_Between_e {a b : Int} (a0 : -1 ≤ a) (a1 : a < (r.Joints.length : Int)) (b0 : -1 ≤ b) (b1 : b < (r.Joints.length : Int)) :
    ∃ L : List Int, (ref6_Between_C r a b).o = some L ∧ L.length ≤ r.Joints.length ∧ ∀ x : Int, x ∈ L ↔ ∃ i : Nat, x = (i : Int) ∧ i < r.Joints.length ∧ ¬ (AncN (parN r) (a + 1).toNat (i + 1) ↔ AncN (parN r) (b + 1).toNat (i + 1)) := by
  have hr' := robotV_ok hr
  obtain ⟨X, x1, x2, x3⟩ := ref6_Chain_e hr a0 a1
  obtain ⟨Y, y1, y2, y3⟩ := ref6_Chain_e hr b0 b1
  let p : Nat → Bool := fun i => !(decide ((i : Int) ∈ X) == decide ((i : Int) ∈ Y))
  refine ⟨betL p r.Joints.length, ?_, betL_len _ _, fun x => ?_⟩
  · show (ref6_Between_T r a b).run NN = _
    simp only [ref6_Between_T, T.run, ref6_CheckRobot_e, hr, ref6_isLink_e, Option.bind_some]
    rw [bif_nne rfl, show linkV r.Joints.length a = true by simp [linkV]; omega, show linkV r.Joints.length b = true by simp [linkV]; omega]
    simp only [Bool.not_true, cond_false, andC_out, x1, y1, Option.bind_some]
    refine (loop_to (fun j => (betL p j, (j : Int))) (betL p r.Joints.length) r.Joints.length rfl (show r.Joints.length < 4294967296 by omega) (fun j hj => ?_) ?_).trans rfl
    · have := betL_len p j
      rw [bif_dpos (by simpa using hj)]
      simp only [ref6_member_e X _ (show X.length < 4294967296 by omega), ref6_member_e Y _ (show Y.length < 4294967296 by omega), Option.bind_some]
      rw [wn (by omega), betL_succ, grd_p ⟨by simp; omega, by simp [maxLen_eq]; omega⟩]
      show andC (bif p j then _ else _) _ = _
      cases p j <;> rfl
    · rw [bif_dneg (by simp)]
  · rw [betL_mem]
    constructor
    · rintro ⟨i, h1, h2, h3⟩
      refine ⟨i, h1, h2, ?_⟩
      rw [← x3, ← y3]
      intro hh
      simp only [p, Bool.not_eq_true', beq_eq_false_iff_ne, ne_eq, decide_eq_decide] at h3
      exact h3 hh
    · rintro ⟨i, h1, h2, h3⟩
      refine ⟨i, h1, h2, ?_⟩
      rw [← x3, ← y3] at h3
      simp only [p, Bool.not_eq_true', beq_eq_false_iff_ne, ne_eq, decide_eq_decide]
      exact h3
theorem ref6_Rigid_e {a b : Int} (a0 : -1 ≤ a) (a1 : a < (r.Joints.length : Int)) (b0 : -1 ≤ b) (b1 : b < (r.Joints.length : Int)) : (ref6_Rigid_C r a b).o = some (decide (carN r (a + 1).toNat = carN r (b + 1).toNat)) := by
  have hr' := robotV_ok hr
  obtain ⟨L, l1, l2, l3⟩ := ref6_Between_e hr a0 a1 b0 b1
  show (ref6_Rigid_T r a b).run NN = _
  simp only [ref6_Rigid_T, T.run, ref6_CheckRobot_e, hr, ref6_isLink_e, Option.bind_some]
  rw [bif_nne rfl, show linkV r.Joints.length a = true by simp [linkV]; omega, show linkV r.Joints.length b = true by simp [linkV]; omega]
  simp only [Bool.not_true, cond_false, andC_out, l1, Option.bind_some]
  have hin : ∀ j, j < L.length → 0 ≤ L.getD j default ∧ L.getD j default < (r.Joints.length : Int) := fun j hj => by
    have : L.getD j default ∈ L := by rw [List.getD_eq_getElem?_getD, List.getElem?_eq_getElem hj, Option.getD_some]; exact List.getElem_mem hj
    obtain ⟨i, h1, h2, -⟩ := (l3 _).1 this
    rw [h1]; omega
  refine (scanI (fun j => sw (decide ((r.Joints.getD (L.getD j default).toNat default).Lo < (r.Joints.getD (L.getD j default).toNat default).Hi)) false) L.length (by omega) (fun j hj => ?_) ?_).trans ?_
  · rw [bif_dpos (by omega), grd_p (by omega), Int.toNat_natCast, grd_p (hin j hj), grd_p (by omega), grd_p (hin j hj), wn (by omega), ← sw_fin]
  · rw [bif_dneg (by omega)]
  · rw [scan_sw]
    have : noneB (fun j => decide ((r.Joints.getD (L.getD j default).toNat default).Lo < (r.Joints.getD (L.getD j default).toNat default).Hi)) L.length = decide (carN r (a + 1).toNat = carN r (b + 1).toNat) := by
      rw [Bool.eq_iff_iff, noneB_iff, decide_eq_true_eq]
      unfold carN
      rw [same_car (parN_lt hr) (by omega) (by omega) (by omega)]
      constructor
      · intro h x hx
        by_cases hA : AncN (parN r) (a + 1).toNat x ↔ AncN (parN r) (b + 1).toNat x
        · exact hA
        · exfalso
          have hx0 : 0 < x ∧ x ≤ r.Joints.length := by
            by_cases h1 : AncN (parN r) (a + 1).toNat x
            · have := h1.le (parN_lt hr) (by omega); exact ⟨h1.pos.2, by omega⟩
            · by_cases h2 : AncN (parN r) (b + 1).toNat x
              · have := h2.le (parN_lt hr) (by omega); exact ⟨h2.pos.2, by omega⟩
              · exact absurd ⟨fun h => absurd h h1, fun h => absurd h h2⟩ hA
          obtain ⟨i, rfl⟩ : ∃ i, x = i + 1 := ⟨x - 1, by omega⟩
          have hm : (i : Int) ∈ L := (l3 _).2 ⟨i, rfl, by omega, hA⟩
          obtain ⟨j, hj, e⟩ := List.getElem_of_mem hm
          have := h j hj
          have e2 : L.getD j default = (i : Int) := by rw [List.getD_eq_getElem?_getD, List.getElem?_eq_getElem hj, Option.getD_some, e]
          rw [e2, Int.toNat_natCast, decide_eq_false_iff_not] at this
          have jo := (robot_joint hr (show i < r.Joints.length by omega)).lim.1
          apply hx
          simp only [Nat.add_sub_cancel]; omega
      · intro h j hj
        have : L.getD j default ∈ L := by rw [List.getD_eq_getElem?_getD, List.getElem?_eq_getElem hj, Option.getD_some]; exact List.getElem_mem hj
        obtain ⟨i, h1, h2, h3⟩ := (l3 _).1 this
        rw [h1, Int.toNat_natCast, decide_eq_false_iff_not]
        intro hlt
        exact h3 (h (i + 1) (by show (r.Joints.getD (i + 1 - 1) default).Lo ≠ (r.Joints.getD (i + 1 - 1) default).Hi; simp only [Nat.add_sub_cancel]; omega))
    rw [this]; cases decide (carN r (a + 1).toNat = carN r (b + 1).toNat) <;> rfl
omit hr

/-! ### Pairs -/
def skB (l : List S_Skip) (a b : Int) (i : Nat) : Bool := ((l.getD i default).A == a && (l.getD i default).B == b) || ((l.getD i default).A == b && (l.getD i default).B == a)
def skV (s : S_Scene) (a b : Int) : Bool := !noneB (skB s.Skips a b) s.Skips.length
theorem scene_Skipped_e (s : S_Scene) (a b : Int) (h : s.Skips.length < 4294967296) : (scene_Skipped_C s a b).o = some (skV s a b) := by
  show (scene_Skipped_T s a b).run NN = _
  simp only [scene_Skipped_T, T.run, bif_out, andC_out, Bool.and_true, bif_tb]
  refine (scanI (fun i => sw (skB s.Skips a b i) true) s.Skips.length h (fun j hj => ?_) ?_).trans ?_
  · rw [bif_dpos (by omega), grd_p (by omega), wn (by omega), Int.toNat_natCast, ← sw_fin]; rfl
  · rw [bif_dneg (by omega)]
  · rw [scan_sw]; unfold skV; cases noneB (skB s.Skips a b) s.Skips.length <;> rfl
theorem ref6_Skipped_e (s : S_Scene) (a b : Int) (h : s.Skips.length < 4294967296) : (ref6_Skipped_C s a b).o = some (skV s a b) := by
  show (ref6_Skipped_T s a b).run NN = _
  simp only [ref6_Skipped_T, T.run]
  refine (scanI (fun i => sw (skB s.Skips a b i) true) s.Skips.length h (fun j hj => ?_) ?_).trans ?_
  · rw [bif_dpos (by omega), grd_p (by omega), wn (by omega), Int.toNat_natCast, ← sw_fin]
    unfold skB
    cases (s.Skips.getD j default).A == a <;> cases (s.Skips.getD j default).B == b <;> cases (s.Skips.getD j default).A == b <;> cases (s.Skips.getD j default).B == a <;> rfl
  · rw [bif_dneg (by omega)]
  · rw [scan_sw]; unfold skV; cases noneB (skB s.Skips a b) s.Skips.length <;> rfl
section
variable (c : Nat → Nat → Bool)
def pin (L : List S_Pair) (i : Nat) : Nat → List S_Pair
  | 0 => L
  | m + 1 => if c i (i + 1 + m) then pin L i m ++ [⟨(i : Int), ((i + 1 + m : Nat) : Int)⟩] else pin L i m
def pou (n : Nat) : Nat → List S_Pair
  | 0 => nl
  | i + 1 => pin c (pou n i) i (n - (i + 1))
theorem pin_len (L : List S_Pair) (i : Nat) : ∀ m, (pin c L i m).length ≤ L.length + m
  | 0 => by simp [pin]
  | m + 1 => by
    have := pin_len L i m
    simp only [pin]; split
    · simp; omega
    · omega
theorem pou_len {n : Nat} : ∀ i, (pou c n i).length ≤ i * n
  | 0 => by simp [pou, nl]
  | i + 1 => by
    have h1 := pou_len (n := n) i
    have h2 := pin_len c (pou c n i) i (n - (i + 1))
    simp only [pou]; rw [Nat.add_mul]; omega
end
def linkOf (s : S_Scene) (i : Nat) : Int := (s.Shapes.getD i default).Link
def pairB (s : S_Scene) (i k : Nat) : Bool := !decide (carN s.Robot (linkOf s i + 1).toNat = carN s.Robot (linkOf s k + 1).toNat) && !skV s (linkOf s i) (linkOf s k)
def pairsV (s : S_Scene) : List S_Pair := if sceneV s = 0 then pou (pairB s) s.Shapes.length s.Shapes.length else nl
theorem ref6_Pairs_e (s : S_Scene) : (ref6_Pairs_C s).o = some (pairsV s) := by
  show (ref6_Pairs_T s).run NN = _
  simp only [ref6_Pairs_T, T.run, ref6_CheckScene_e, Option.bind_some, pairsV]
  by_cases h : sceneV s = 0
  · have so := sceneV_ok h
    have so2 := so.len
    have so3 := so.skips
    rw [bif_nne h, if_pos h]
    refine (loop_to (fun i => (pou (pairB s) s.Shapes.length i, (i : Int))) (pou (pairB s) s.Shapes.length s.Shapes.length) s.Shapes.length rfl (show s.Shapes.length < 4294967296 by omega) (fun i hi => ?_) ?_).trans rfl
    · rw [bif_dpos (by simpa using hi)]
      simp only [Int.toNat_natCast]
      rw [wn (by omega)]
      refine (loop_to (fun m => (pin (pairB s) (pou (pairB s) s.Shapes.length i) i m, ((i + 1 + m : Nat) : Int))) (pou (pairB s) s.Shapes.length (i + 1)) (s.Shapes.length - (i + 1)) rfl (show s.Shapes.length - (i + 1) < 4294967296 by omega) (fun m hm => ?_) ?_).trans rfl
      · have hk : i + 1 + m < s.Shapes.length := by omega
        have l1 := (shapeV_ok (so.shape i hi)).2
        have l2 := (shapeV_ok (so.shape (i + 1 + m) hk)).2
        have lp := pin_len (pairB s) (pou (pairB s) s.Shapes.length i) i m
        have lo := pou_len (pairB s) (n := s.Shapes.length) i
        have li : i * s.Shapes.length ≤ 24 * 24 := Nat.mul_le_mul (by omega) (by omega)
        simp only [Int.toNat_natCast]
        rw [bif_dpos (by omega), grd_p ⟨by omega, by omega⟩, grd_p ⟨by omega, by omega⟩, wn (by omega)]
        simp only [ref6_Rigid_e so.robot l1.1 l1.2 l2.1 l2.2, ref6_Skipped_e s _ _ (show s.Skips.length < 4294967296 by omega), Option.bind_some, pin]
        have e : (andC (bif (s.Shapes.getD i default).Link != (s.Shapes.getD (i + 1 + m) default).Link then bif !decide (carN s.Robot ((s.Shapes.getD i default).Link + 1).toNat = carN s.Robot ((s.Shapes.getD (i + 1 + m) default).Link + 1).toNat) then
            some (.out (!skV s (s.Shapes.getD i default).Link (s.Shapes.getD (i + 1 + m) default).Link)) else some (.out false) else some (.out false)) : (Bool → Option (Step3 Unit (List S_Pair) (Step3 (List S_Pair × Int) (List S_Pair) (Step3 (List S_Pair × Int) (List S_Pair) (List S_Pair))))) → _) = fun k => k (pairB s i (i + 1 + m)) := by
          funext k
          by_cases hl : (s.Shapes.getD i default).Link = (s.Shapes.getD (i + 1 + m) default).Link
          · rw [bif_nne hl, andC_out]
            have : pairB s i (i + 1 + m) = false := by simp only [pairB, linkOf, hl, decide_true, Bool.not_true, Bool.false_and]
            rw [this]
          · rw [bif_neq hl]; unfold pairB linkOf
            cases decide (carN s.Robot ((s.Shapes.getD i default).Link + 1).toNat = carN s.Robot ((s.Shapes.getD (i + 1 + m) default).Link + 1).toNat) <;> rfl
        rw [e]
        simp only
        rw [grd_p ⟨by simp; omega, by simp [maxLen_eq]; omega⟩]
        cases pairB s i (i + 1 + m) <;> rfl
      · rw [bif_dneg (by omega)]; rfl
    · rw [bif_dneg (by simp)]
  · rw [bif_neq h, if_neg h]
theorem scene_Pairs_e (s : S_Scene) : (scene_Pairs_C s).o = some (pairsV s) := by
  show (scene_Pairs_T s).run NN = _
  simp only [scene_Pairs_T, T.run, scene_Check_e, Option.bind_some, pairsV]
  by_cases h : sceneV s = 0
  · have so := sceneV_ok h
    have so2 := so.len
    have so3 := so.skips
    have so4 := robotV_ok so.robot
    rw [bif_nne h, if_pos h, scene_carriers_e so.robot, Option.bind_some]
    refine (loop_to (fun i => (pou (pairB s) s.Shapes.length i, (i : Int))) (pou (pairB s) s.Shapes.length s.Shapes.length) s.Shapes.length rfl (show s.Shapes.length < 4294967296 by omega) (fun i hi => ?_) ?_).trans rfl
    · rw [bif_dpos (by simpa using hi), grd_p ⟨by simp, by simpa using hi⟩]
      simp only [Int.toNat_natCast]
      rw [wn (by omega)]
      refine (loop_to (fun m => (pin (pairB s) (pou (pairB s) s.Shapes.length i) i m, ((i + 1 + m : Nat) : Int))) (pou (pairB s) s.Shapes.length (i + 1)) (s.Shapes.length - (i + 1)) rfl (show s.Shapes.length - (i + 1) < 4294967296 by omega) (fun m hm => ?_) ?_).trans rfl
      · have hk : i + 1 + m < s.Shapes.length := by omega
        have l1 := (shapeV_ok (so.shape i hi)).2
        have l2 := (shapeV_ok (so.shape (i + 1 + m) hk)).2
        have lp := pin_len (pairB s) (pou (pairB s) s.Shapes.length i) i m
        have lo := pou_len (pairB s) (n := s.Shapes.length) i
        have li : i * s.Shapes.length ≤ 24 * 24 := Nat.mul_le_mul (by omega) (by omega)
        simp only [Int.toNat_natCast, tab_len]
        rw [bif_dpos (by omega), grd_p ⟨by omega, by omega⟩, w64 (x := (s.Shapes.getD i default).Link + 1) (by omega) (by omega), w64 (x := (s.Shapes.getD (i + 1 + m) default).Link + 1) (by omega) (by omega),
          grd_p ⟨by omega, by omega⟩, grd_p ⟨by omega, by omega⟩, wn (by omega), tab_get (by omega), tab_get (by omega)]
        simp only [scene_Skipped_e s _ _ (show s.Skips.length < 4294967296 by omega), Option.bind_some, pin]
        have e : (andC (bif !(caP s.Robot ((s.Shapes.getD i default).Link + 1).toNat == caP s.Robot ((s.Shapes.getD (i + 1 + m) default).Link + 1).toNat) then
            some (.out (!skV s (s.Shapes.getD i default).Link (s.Shapes.getD (i + 1 + m) default).Link)) else some (.out false)) : (Bool → Option (Step3 Unit (List S_Pair) (Step3 (List S_Pair × Int) (List S_Pair) (Step3 (List S_Pair × Int) (List S_Pair) (List S_Pair))))) → _) = fun k => k (pairB s i (i + 1 + m)) := by
          funext k
          have e1 : (caP s.Robot ((s.Shapes.getD i default).Link + 1).toNat == caP s.Robot ((s.Shapes.getD (i + 1 + m) default).Link + 1).toNat) = decide (carN s.Robot ((s.Shapes.getD i default).Link + 1).toNat = carN s.Robot ((s.Shapes.getD (i + 1 + m) default).Link + 1).toNat) := by
            rw [Bool.eq_iff_iff]; unfold caP; simp only [beq_iff_eq, decide_eq_true_eq]; omega
          rw [e1]; unfold pairB linkOf
          cases decide (carN s.Robot ((s.Shapes.getD i default).Link + 1).toNat = carN s.Robot ((s.Shapes.getD (i + 1 + m) default).Link + 1).toNat) <;> rfl
        rw [e]
        simp only
        rw [grd_p ⟨by simp; omega, by simp [maxLen_eq]; omega⟩]
        cases pairB s i (i + 1 + m) <;> rfl
      · rw [bif_dneg (by omega)]; rfl
    · rw [bif_dneg (by simp)]
  · rw [bif_neq h, if_neg h]
end Go.Abs

/-
  Support values, norms, separation: what the program and the reference compute is the same.
-/
namespace Go.Abs

theorem u64w {x : Int} (h0 : 0 ≤ x) (h1 : x < 18446744073709551616) : IntKind.u64.wrap x = x := by
  show (if (false && decide (x % 18446744073709551616 ≥ 9223372036854775808)) = true then x % 18446744073709551616 - 18446744073709551616 else x % 18446744073709551616) = x
  rw [if_neg (by simp)]; omega
theorem u8w {x : Int} (h0 : 0 ≤ x) (h1 : x < 256) : IntKind.u8.wrap x = x := by
  show (if (false && decide (x % 256 ≥ 128)) = true then x % 256 - 256 else x % 256) = x
  rw [if_neg (by simp)]; omega

/-! ### Square roots -/
def IsRoot (n s : Int) : Prop := 0 ≤ s ∧ s * s ≤ n ∧ n < (s + 1) * (s + 1)
theorem IsRoot.uniq {n s t : Int} (h1 : IsRoot n s) (h2 : IsRoot n t) : s = t := by
  obtain ⟨a0, a1, a2⟩ := h1
  obtain ⟨b0, b1, b2⟩ := h2
  by_cases h : s < t
  · have : (s + 1) * (s + 1) ≤ t * t := Int.mul_le_mul (by omega) (by omega) (by omega) (by omega)
    omega
  · by_cases h' : t < s
    · have : (t + 1) * (t + 1) ≤ s * s := Int.mul_le_mul (by omega) (by omega) (by omega) (by omega)
      omega
    · omega
theorem ref1_Root_x {n : Int} (h0 : 1 ≤ n) (h1 : n < 4611686018427387904) : ∃ s, (ref1_Root_C n).o = some s ∧ IsRoot n s := by
  have e0 : (ref1_Root_C n).o = (ref1_Root_T n).run NN := rfl
  rw [e0]
  simp only [ref1_Root_T, T.run]
  rw [bif_dneg (by omega)]
  refine ex_loop (β := Int) (g := fun s => some s) (P := fun s => IsRoot n s) (fun (y : Int × Int) => 1 ≤ y.1 ∧ y.1 < y.2 ∧ y.2 ≤ 4294967296 ∧ y.1 * y.1 ≤ n ∧ n < y.2 * y.2) (fun y => (y.2 - y.1).toNat) (fun s => IsRoot n s)
    ⟨by decide, by decide, by decide, by omega, by simp only; omega⟩ (by decide) (fun y hy => ?_) (fun s hs => ⟨s, rfl, hs⟩)
  obtain ⟨a1, a2, a3, a4, a5⟩ := hy
  rw [w64 (x := y.2 - y.1) (by omega) (by omega)]
  by_cases hd : y.2 - y.1 > 1
  · left
    rw [bif_dpos hd, tdiv_pos (by omega), w64 (x := (y.2 - y.1) / 2) (by omega) (by omega), w64 (x := y.1 + (y.2 - y.1) / 2) (by omega) (by omega), grd_p (by omega)]
    generalize hm : y.1 + (y.2 - y.1) / 2 = m
    have m1 : y.1 < m ∧ m < y.2 := by omega
    have q := div_bd (a := n) (b := m) (by omega)
    have q1 := q.1 (by omega)
    rw [tdiv_pos (by omega), w64 (x := n / m) (by omega) (by omega)]
    have key : m ≤ n / m ↔ m * m ≤ n := Int.le_ediv_iff_mul_le (by omega)
    by_cases hc : m ≤ n / m
    · rw [bif_dpos hc]; exact ⟨_, rfl, ⟨by simp only; omega, by simp only; omega, a3, key.1 hc, a5⟩, by simp only; omega⟩
    · rw [bif_dneg hc]; exact ⟨_, rfl, ⟨a1, by simp only; omega, by simp only; omega, a4, by simp only; have := mt key.2 hc; omega⟩, by simp only; omega⟩
  · right
    rw [bif_dneg hd]
    exact ⟨_, rfl, by omega, a4, by rw [show y.1 + 1 = y.2 by omega]; exact a5⟩
def lenT (b : Nat) : Nat := ((#[0, 1, 2, 2, 3, 3, 3, 3, 4, 4, 4, 4, 4, 4, 4, 4, 5, 5, 5, 5, 5, 5, 5, 5, 5, 5, 5, 5, 5, 5, 5, 5, 6, 6, 6, 6, 6, 6, 6, 6, 6, 6, 6, 6, 6, 6, 6, 6, 6, 6, 6, 6, 6, 6, 6, 6, 6, 6, 6, 6, 6, 6, 6, 6, 7, 7, 7, 7, 7, 7, 7, 7, 7, 7, 7, 7, 7, 7, 7, 7, 7, 7, 7, 7, 7, 7, 7, 7, 7, 7, 7, 7, 7, 7, 7, 7, 7, 7, 7, 7, 7, 7, 7, 7, 7, 7, 7, 7, 7, 7, 7, 7, 7, 7, 7, 7, 7, 7, 7, 7, 7, 7, 7, 7, 7, 7, 7, 7, 8, 8, 8, 8, 8, 8, 8, 8, 8, 8, 8, 8, 8, 8, 8, 8, 8, 8, 8, 8, 8, 8, 8, 8, 8, 8, 8, 8, 8, 8, 8, 8, 8, 8, 8, 8, 8, 8, 8, 8, 8, 8, 8, 8, 8, 8, 8, 8, 8, 8, 8, 8, 8, 8, 8, 8, 8, 8, 8, 8, 8, 8, 8, 8, 8, 8, 8, 8, 8, 8, 8, 8, 8, 8, 8, 8, 8, 8, 8, 8, 8, 8, 8, 8, 8, 8, 8, 8, 8, 8, 8, 8, 8, 8, 8, 8, 8, 8, 8, 8, 8, 8, 8, 8, 8, 8, 8, 8, 8, 8, 8, 8, 8, 8, 8, 8, 8, 8, 8, 8, 8, 8, 8, 8, 8, 8, 8, 8] : Array UInt8).getD b 0).toNat
theorem lenT_ok : ∀ b, b < 256 → b < 2 ^ lenT b ∧ lenT b ≤ 8 := of_decide_eq_true (by kernel_rfl)
def lenE (y : Int × Int) : Option Int := grd (0 ≤ IntKind.u8.wrap y.1 ∧ IntKind.u8.wrap y.1 < ((256 : Nat) : Int)) (some (IntKind.i64.wrap (y.2 + IntKind.i64.wrap ((lenT (IntKind.u8.wrap y.1).toNat : Nat) : Int))))
theorem len_eq (n : Int) : (math_bits_Len64_C n).o =
    andC (bif decide (n ≥ 4294967296) then some (.out (n.fdiv (2 ^ min (32 : Int).toNat 64), 32)) else some (.out (n, 0)) : Option (Step3 Unit (Int × Int) Int)) fun y5 =>
    andC (bif decide (y5.1 ≥ 65536) then some (.out (y5.1.fdiv (2 ^ min (16 : Int).toNat 64), IntKind.i64.wrap (y5.2 + 16))) else some (.out (y5.1, y5.2)) : Option (Step3 Unit (Int × Int) Int)) fun y6 =>
    andC (bif decide (y6.1 ≥ 256) then some (.out (y6.1.fdiv (2 ^ min (8 : Int).toNat 64), IntKind.i64.wrap (y6.2 + 8))) else some (.out (y6.1, y6.2)) : Option (Step3 Unit (Int × Int) Int)) fun y7 => lenE y7 := by kernel_rfl
theorem math_bits_Len64_x {n : Int} (h0 : 0 ≤ n) (h1 : n < 4294967296) : ∃ L : Nat, (math_bits_Len64_C n).o = some (L : Int) ∧ n < 2 ^ L ∧ L ≤ 32 := by
  rw [len_eq, bif_dneg (by omega), andC_out]
  have fin : ∀ (x : Int) (k : Nat), 0 ≤ x → x < 256 → k ≤ 24 → n < (x + 1) * 2 ^ k → ∃ L : Nat, lenE (x, (k : Int)) = some (L : Int) ∧ n < 2 ^ L ∧ L ≤ 32 := by
    intro x k x0 x1 hk hn
    obtain ⟨b, rfl⟩ : ∃ b : Nat, x = (b : Int) := ⟨x.toNat, by omega⟩
    have hb := lenT_ok b (by omega)
    unfold lenE
    simp only
    rw [u8w (by omega) (by omega), grd_p ⟨by omega, by omega⟩, Int.toNat_natCast, w64 (x := ((lenT b : Nat) : Int)) (by omega) (by omega), w64 (by omega) (by omega)]
    refine ⟨k + lenT b, by rw [Int.natCast_add], ?_, by omega⟩
    have h2 : (((b + 1 : Nat) : Int)) * 2 ^ k ≤ 2 ^ lenT b * 2 ^ k := by
      refine Int.mul_le_mul_of_nonneg_right ?_ (Int.le_of_lt (two_pow_pos k))
      exact_mod_cast hb.1
    rw [Nat.add_comm, Int.pow_add]
    have h3 : ((b : Int) + 1) = ((b + 1 : Nat) : Int) := by omega
    rw [h3] at hn
    omega
  have s16 : ∀ x : Int, x.fdiv (2 ^ min (Int.toNat 16) 64) = x / 65536 := fun x => fdiv_pow x 16
  have s8 : ∀ x : Int, x.fdiv (2 ^ min (Int.toNat 8) 64) = x / 256 := fun x => fdiv_pow x 8
  have p24 : (2 : Int) ^ 24 = 16777216 := by decide
  have p16 : (2 : Int) ^ 16 = 65536 := by decide
  have p8 : (2 : Int) ^ 8 = 256 := by decide
  have e16 : IntKind.i64.wrap (0 + 16) = 16 := by decide
  have e8 : IntKind.i64.wrap (0 + 8) = 8 := by decide
  have e24 : IntKind.i64.wrap (16 + 8) = 24 := by decide
  by_cases c1 : n ≥ 65536
  · rw [bif_dpos c1, andC_out, s16, e16]
    by_cases c2 : n / 65536 ≥ 256
    · rw [bif_dpos c2, andC_out, s8, e24]; exact fin _ 24 (by omega) (by omega) (by omega) (by rw [p24]; omega)
    · rw [bif_dneg c2, andC_out]; exact fin _ 16 (by omega) (by omega) (by omega) (by rw [p16]; omega)
  · rw [bif_dneg c1, andC_out]
    by_cases c2 : n ≥ 256
    · rw [bif_dpos c2, andC_out, s8, e8]; exact fin _ 8 (by omega) (by omega) (by omega) (by rw [p8]; omega)
    · rw [bif_dneg c2, andC_out]; exact fin _ 0 (by omega) (by omega) (by omega) (by simp only [Int.pow_zero]; omega)
theorem fixed_Root_x {n : Int} (h0 : 1 ≤ n) (h1 : n < 4294967296) : ∃ s, (fixed_Root_C n).o = some s ∧ IsRoot n s := by
  have e0 : (fixed_Root_C n).o = (fixed_Root_T n).run NN := rfl
  rw [e0]
  obtain ⟨L, l1, l2, l3⟩ := math_bits_Len64_x (n := n) (by omega) h1
  simp only [fixed_Root_T, T.run]
  rw [bif_dneg (by omega), u64w (x := n) (by omega) (by omega), l1, Option.bind_some, w64 (x := (L : Int) + 1) (by omega) (by omega), tdiv_pos (by omega), w64 (x := ((L : Int) + 1) / 2) (by omega) (by omega), grd_p (by omega)]
  obtain ⟨W, hW⟩ : ∃ W : Nat, ((L : Int) + 1) / 2 = (W : Int) := ⟨(L + 1) / 2, by omega⟩
  rw [hW, Int.toNat_natCast, Nat.min_eq_left (by omega), Int.one_mul]
  have hw16 : W ≤ 16 := by omega
  have hpw : (2 : Int) ^ W ≤ 65536 := by
    have : (2 : Int) ^ W ≤ 2 ^ 16 := by exact_mod_cast Nat.pow_le_pow_right (by decide : 0 < 2) hw16
    have e : (2 : Int) ^ 16 = 65536 := by decide
    omega
  have hp0 := two_pow_pos W
  rw [u64w (x := 2 ^ W) (by omega) (by omega)]
  have hn4 : n < 2 ^ W * 2 ^ W := by
    rw [← Int.pow_add]
    have : (2 : Int) ^ L ≤ 2 ^ (W + W) := by exact_mod_cast Nat.pow_le_pow_right (by decide : 0 < 2) (show L ≤ W + W by omega)
    omega
  refine ex_loop (β := Int) (g := fun s => some s) (P := fun s => IsRoot n s) (fun (y : Int × Int × Int) => ∃ k : Nat, y.2.2 = ((W - k : Nat) : Int) ∧ k ≤ W ∧ y.2.1 = 2 ^ k ∧ 0 ≤ y.1 ∧ y.1 ≤ 2 ^ W - 2 ^ k ∧ y.1 * y.1 ≤ n ∧ n < (y.1 + 2 ^ k) * (y.1 + 2 ^ k))
    (fun y => ((W : Int) - y.2.2).toNat) (fun s => IsRoot n s) ⟨W, by simp, Nat.le_refl _, rfl, by simp, by simp, by simp; omega, by simp only [Int.zero_add]; exact hn4⟩ (by show _ < 4294967296; simp only; omega) (fun y hy => ?_) (fun s hs => ⟨IntKind.i64.wrap s, rfl, ?_⟩)
  · obtain ⟨k, b1, b2, b3, b4, b5, b6, b7⟩ := hy
    rw [b1, b3]
    cases k with
    | zero =>
      right
      rw [bif_dneg (by omega)]
      exact ⟨_, rfl, b4, b6, by simpa using b7⟩
    | succ k =>
      left
      have hk2 : (2 : Int) ^ (k + 1) = 2 * 2 ^ k := by rw [Int.pow_succ]; omega
      have hkp := two_pow_pos k
      rw [bif_dpos (by omega), tdiv_pos (by omega), show (2 : Int) ^ (k + 1) / 2 = 2 ^ k by omega, u64w (x := 2 ^ k) (by omega) (by omega), u64w (x := y.1 + 2 ^ k) (by omega) (by omega)]
      have hsq : (y.1 + 2 ^ k) * (y.1 + 2 ^ k) ≤ 65536 * 65536 := Int.mul_le_mul (by omega) (by omega) (by omega) (by omega)
      have hsq0 : 0 ≤ (y.1 + 2 ^ k) * (y.1 + 2 ^ k) := Int.mul_nonneg (by omega) (by omega)
      rw [u64w (x := (y.1 + 2 ^ k) * (y.1 + 2 ^ k)) hsq0 (by omega)]
      have hi : IntKind.i64.wrap (((W - (k + 1) : Nat) : Int) + 1) = ((W - k : Nat) : Int) := by rw [w64 (by omega) (by omega)]; omega
      rw [hi]
      by_cases hc : (y.1 + 2 ^ k) * (y.1 + 2 ^ k) ≤ n
      · rw [bif_dpos hc, andC_out]
        exact ⟨_, rfl, ⟨k, rfl, by omega, rfl, by simp only; omega, by simp only; omega, hc, by simp only; rw [show y.1 + 2 ^ k + 2 ^ k = y.1 + 2 ^ (k + 1) by omega]; exact b7⟩, by simp only; omega⟩
      · rw [bif_dneg hc, andC_out]
        exact ⟨_, rfl, ⟨k, rfl, by omega, rfl, b4, by simp only; omega, b6, by simp only; omega⟩, by simp only; omega⟩
  · obtain ⟨c1, c2, c3⟩ := hs
    have : s ≤ n := by
      by_cases hz : s = 0
      · omega
      · have : s * 1 ≤ s * s := Int.mul_le_mul_of_nonneg_left (by omega) c1
        omega
    rw [w64 (by omega) (by omega)]; exact ⟨c1, c2, c3⟩
noncomputable def rootV (n : Int) : Int := (ref1_Root_C n).o.getD 0
theorem rootV_is {n : Int} (h0 : 1 ≤ n) (h1 : n < 4294967296) : IsRoot n (rootV n) ∧ (ref1_Root_C n).o = some (rootV n) := by
  obtain ⟨s, e, h⟩ := ref1_Root_x h0 (by omega)
  unfold rootV; rw [e]; exact ⟨h, rfl⟩
theorem root_le {n s : Int} (h0 : 1 ≤ n) (h : IsRoot n s) : s ≤ n := by
  obtain ⟨c1, c2, -⟩ := h
  by_cases hz : s = 0
  · omega
  · have : s * 1 ≤ s * s := Int.mul_le_mul_of_nonneg_left (by omega) c1
    omega
noncomputable def rupV (n : Int) : Int := if rootV n * rootV n < n then rootV n + 1 else rootV n
theorem fixed_RootUp_e {n : Int} (h0 : 1 ≤ n) (h1 : n < 4294967296) : (fixed_RootUp_C n).o = some (rupV n) := by
  obtain ⟨s, e, h⟩ := fixed_Root_x h0 h1
  obtain ⟨k1, k2⟩ := rootV_is h0 h1
  have es : s = rootV n := h.uniq k1
  have sl := root_le h0 k1
  obtain ⟨r1, r2, r3⟩ := k1
  show (fixed_RootUp_T n).run NN = _
  simp only [fixed_RootUp_T, T.run, e, Option.bind_some, es, rupV]
  rw [w64 (x := rootV n * rootV n) (by have := Int.mul_nonneg r1 r1; omega) (by omega), w64 (x := rootV n + 1) (by omega) (by omega)]
  by_cases hc : rootV n * rootV n < n
  · rw [bif_dpos hc, if_pos hc, andC_out]
  · rw [bif_dneg hc, if_neg hc, andC_out]
theorem ref1_RootUp_e {n : Int} (h0 : 1 ≤ n) (h1 : n < 4294967296) : (ref1_RootUp_C n).o = some (rupV n) := by
  obtain ⟨k1, k2⟩ := rootV_is h0 h1
  have sl := root_le h0 k1
  obtain ⟨r1, r2, r3⟩ := k1
  show (ref1_RootUp_T n).run NN = _
  simp only [ref1_RootUp_T, T.run, k2, Option.bind_some, rupV]
  rw [bif_dpos (by omega), andC_out, w64 (x := rootV n * rootV n) (by have := Int.mul_nonneg r1 r1; omega) (by omega), w64 (x := rootV n + 1) (by omega) (by omega)]
  by_cases hc : rootV n * rootV n < n
  · rw [bif_dpos hc, if_pos hc, andC_out]
  · rw [bif_dneg hc, if_neg hc, andC_out]
theorem rupV_bd {n : Int} (h0 : 1 ≤ n) (h1 : n < 4294967296) : 0 ≤ rupV n ∧ rupV n ≤ 65536 := by
  obtain ⟨⟨r1, r2, r3⟩, -⟩ := rootV_is h0 h1
  have hb : rootV n ≤ 65535 := by
    by_cases e : rootV n ≤ 65535
    · exact e
    · have : 65536 * 65536 ≤ rootV n * rootV n := Int.mul_le_mul (by omega) (by omega) (by omega) (by omega)
      omega
  unfold rupV; split <;> omega

/-! ### Normals -/
abbrev V3 := Int × Int × Int
def usableV (n : V3) : Bool := !((n.1 == 0) && ((n.2.1 == 0) && ((n.2.2 == 0) && true))) && nearV n 16384
theorem ref10_Usable_e (n : V3) : (ref10_Usable_C n).o = some (usableV n) := by
  show (ref10_Usable_T n).run NN = _
  simp only [ref10_Usable_T, T.run, ref6_Near_e n (show (0 : Int) ≤ 16384 by decide) (by decide), Option.bind_some, usableV]
  cases (n.1 == 0) && ((n.2.1 == 0) && ((n.2.2 == 0) && true)) <;> rfl
def bey2 (x : Int) : Bool := decide (x < -16384) || decide (x > 16384)
theorem support_inRange_e (v : V3) : (support_inRange_C v).o = some (nearV v 16384) := by
  show (support_inRange_T v).run NN = _
  simp only [support_inRange_T, T.run, bif_out, andC_out, bif_tb]
  refine (scanI (fun i => sw (bey2 (([v.1, v.2.1, v.2.2] : List Int).getD i 0)) false) 3 (by decide) (fun j hj => ?_) ?_).trans ?_
  · rw [bif_dpos (by omega), grd_p (by omega), wn (by omega), Int.toNat_natCast, ← sw_fin]; rfl
  · rw [bif_dneg (by omega)]
  · rw [scan_sw]
    have : noneB (fun i => bey2 (([v.1, v.2.1, v.2.2] : List Int).getD i 0)) 3 = nearV v 16384 := by
      rw [Bool.eq_iff_iff, noneB_iff, nearV_iff]
      constructor
      · intro h
        have a := h 0 (by decide); have b := h 1 (by decide); have c := h 2 (by decide)
        simp only [bey2, List.getD_cons_zero, List.getD_cons_succ, Bool.or_eq_false_iff, decide_eq_false_iff_not] at a b c
        omega
      · intro h i hi
        match i, hi with
        | 0, _ => simp only [bey2, List.getD_cons_zero, Bool.or_eq_false_iff, decide_eq_false_iff_not]; omega
        | 1, _ => simp only [bey2, List.getD_cons_zero, List.getD_cons_succ, Bool.or_eq_false_iff, decide_eq_false_iff_not]; omega
        | 2, _ => simp only [bey2, List.getD_cons_zero, List.getD_cons_succ, Bool.or_eq_false_iff, decide_eq_false_iff_not]; omega
    rw [this]; cases nearV v 16384 <;> rfl
theorem support_Usable_e (n : V3) : (support_Usable_C n).o = some (usableV n) := by
  show (support_Usable_T n).run NN = _
  simp only [support_Usable_T, T.run, support_inRange_e, Option.bind_some, usableV]
  cases nearV n 16384 <;> cases (n.1 == 0) && ((n.2.1 == 0) && ((n.2.2 == 0) && true)) <;> rfl
theorem usable_bd {n : V3} (h : usableV n = true) : ((-16384 ≤ n.1 ∧ n.1 ≤ 16384) ∧ (-16384 ≤ n.2.1 ∧ n.2.1 ≤ 16384) ∧ (-16384 ≤ n.2.2 ∧ n.2.2 ≤ 16384)) ∧ (n.1 ≠ 0 ∨ n.2.1 ≠ 0 ∨ n.2.2 ≠ 0) := by
  simp only [usableV, Bool.and_eq_true, nearV_iff, Bool.not_eq_true', Bool.and_eq_false_iff, beq_eq_false_iff_ne, ne_eq, Bool.and_true] at h
  refine ⟨h.2, ?_⟩
  rcases h.1 with h | h | h
  · exact Or.inl h
  · exact Or.inr (Or.inl h)
  · exact Or.inr (Or.inr h)
theorem sq_bd {x : Int} (h : -16384 ≤ x ∧ x ≤ 16384) : 0 ≤ x * x ∧ x * x ≤ 268435456 ∧ (x ≠ 0 → 1 ≤ x * x) := by
  have h1 : (x * x).natAbs ≤ 16384 * 16384 := by rw [Int.natAbs_mul]; exact Nat.mul_le_mul (by omega) (by omega)
  have h0 : 0 ≤ x * x := by
    by_cases hx : 0 ≤ x
    · exact Int.mul_nonneg hx hx
    · exact Int.mul_nonneg_of_nonpos_of_nonpos (by omega) (by omega)
  refine ⟨h0, by omega, fun hx => ?_⟩
  have : x * x ≠ 0 := Int.mul_ne_zero hx hx
  omega
def sqV (n : V3) : Int := n.1 * n.1 + n.2.1 * n.2.1 + n.2.2 * n.2.2
noncomputable def normV (n : V3) : Int := if usableV n then rupV (sqV n) else 0
theorem sqV_bd {n : V3} (h : usableV n = true) : 1 ≤ sqV n ∧ sqV n < 4294967296 ∧ IntKind.i64.wrap (IntKind.i64.wrap (IntKind.i64.wrap (n.1 * n.1) + IntKind.i64.wrap (n.2.1 * n.2.1)) + IntKind.i64.wrap (n.2.2 * n.2.2)) = sqV n := by
  obtain ⟨⟨b1, b2, b3⟩, hz⟩ := usable_bd h
  have s1 := sq_bd b1; have s2 := sq_bd b2; have s3 := sq_bd b3
  unfold sqV
  rw [w64 (x := n.1 * n.1) (by omega) (by omega), w64 (x := n.2.1 * n.2.1) (by omega) (by omega), w64 (x := n.2.2 * n.2.2) (by omega) (by omega), w64 (x := n.1 * n.1 + n.2.1 * n.2.1) (by omega) (by omega), w64 (by omega) (by omega)]
  refine ⟨?_, by omega, rfl⟩
  rcases hz with h | h | h
  · have := s1.2.2 h; omega
  · have := s2.2.2 h; omega
  · have := s3.2.2 h; omega
theorem support_Norm_e (n : V3) : (support_Norm_C n).o = some (normV n) := by
  show (support_Norm_T n).run NN = _
  simp only [support_Norm_T, T.run, T.ix, support_Usable_e, Option.bind_some, normV]
  cases h : usableV n
  · rfl
  · have hs := sqV_bd h
    simp only [Bool.not_true, cond_false, if_true]
    rw [hs.2.2, fixed_RootUp_e hs.1 hs.2.1]; rfl
theorem ref10_Norm_e (n : V3) : (ref10_Norm_C n).o = some (normV n) := by
  show (ref10_Norm_T n).run NN = _
  simp only [ref10_Norm_T, T.run, T.ix, ref10_Usable_e, Option.bind_some, normV]
  cases h : usableV n
  · rfl
  · have hs := sqV_bd h
    simp only [Bool.not_true, cond_false, if_true]
    rw [hs.2.2, ref1_RootUp_e hs.1 hs.2.1]; rfl
theorem normV_bd (n : V3) : 0 ≤ normV n ∧ normV n ≤ 65536 := by
  unfold normV; split
  · rename_i h; have hs := sqV_bd h; exact rupV_bd hs.1 hs.2.1
  · omega
end Go.Abs

/-
  Separation of placed shapes over a box: what the program and the reference compute is the same.
-/
namespace Go.Abs

def rng (x : S_Interval) : Bool := !(decide (x.Lo < -268435456) || (decide (x.Lo > x.Hi) || decide (x.Hi > 268435456)))
theorem rng_iff {x : S_Interval} : rng x = true ↔ -268435456 ≤ x.Lo ∧ x.Lo ≤ x.Hi ∧ x.Hi ≤ 268435456 := by
  simp only [rng, Bool.not_eq_true', Bool.or_eq_false_iff, decide_eq_false_iff_not]; omega
def reachedV (v : IV3) : Bool := rng v.1 && (rng v.2.1 && rng v.2.2)
def farL (l : List IV3) (i : Nat) : Bool := !reachedV (l.getD i default)
def placedV (l : List IV3) : Bool := decide (1 ≤ l.length ∧ l.length ≤ 8) && noneB (farL l) l.length
theorem placed_get {l : List IV3} (h : placedV l = true) {i : Nat} (hi : i < l.length) : reachedV (l.getD i default) = true := by
  simp only [placedV, Bool.and_eq_true] at h
  have := noneB_iff.1 h.2 i hi
  simpa [farL] using this
theorem placed_len {l : List IV3} (h : placedV l = true) : 1 ≤ l.length ∧ l.length ≤ 8 := by
  simp only [placedV, Bool.and_eq_true, decide_eq_true_eq] at h; exact h.1
theorem ref10_reached_e (v : IV3) : (ref10_reached_C v).o = some (reachedV v) := by
  show (ref10_reached_T v).run NN = _
  simp only [ref10_reached_T, T.run, T.ix, bif_out, andC_out, bif_tb, reachedV, rng]
  cases decide (v.1.Lo < -268435456) || (decide (v.1.Lo > v.1.Hi) || decide (v.1.Hi > 268435456)) <;> cases decide (v.2.1.Lo < -268435456) || (decide (v.2.1.Lo > v.2.1.Hi) || decide (v.2.1.Hi > 268435456)) <;>
    cases decide (v.2.2.Lo < -268435456) || (decide (v.2.2.Lo > v.2.2.Hi) || decide (v.2.2.Hi > 268435456)) <;> rfl
theorem shape_Placed_e (l : List IV3) : (shape_Placed_C l).o = some (placedV l) := by
  show (shape_Placed_T l).run NN = _
  simp only [shape_Placed_T, T.run, T.ix, bif_out, andC_out, bif_tb, placedV]
  by_cases h : 1 ≤ l.length ∧ l.length ≤ 8
  · rw [decide_eq_true h, decide_eq_false (p := (l.length : Int) < 1) (by omega), decide_eq_false (p := (l.length : Int) > 8) (by omega)]
    simp only [Bool.or_self, cond_false, Bool.true_and]
    refine (scanI (fun i => sw (farL l i) false) l.length (by omega) (fun j hj => ?_) ?_).trans ?_
    · rw [bif_dpos (by omega), grd_p (by omega), wn (by omega), Int.toNat_natCast, ← sw_fin]
      unfold farL reachedV rng
      generalize l.getD j default = v
      cases decide (v.1.Lo < -268435456) || (decide (v.1.Lo > v.1.Hi) || decide (v.1.Hi > 268435456)) <;> cases decide (v.2.1.Lo < -268435456) || (decide (v.2.1.Lo > v.2.1.Hi) || decide (v.2.1.Hi > 268435456)) <;>
        cases decide (v.2.2.Lo < -268435456) || (decide (v.2.2.Lo > v.2.2.Hi) || decide (v.2.2.Hi > 268435456)) <;> rfl
    · rw [bif_dneg (by omega)]
    · rw [scan_sw]; cases noneB (farL l) l.length <;> rfl
  · rw [decide_eq_false h]
    by_cases h1 : (l.length : Int) < 1
    · rw [decide_eq_true h1]; rfl
    · rw [decide_eq_false h1, decide_eq_true (p := (l.length : Int) > 8) (by omega)]; rfl
theorem ref10_Placed_e (l : List IV3) : (ref10_Placed_C l).o = some (placedV l) := by
  show (ref10_Placed_T l).run NN = _
  simp only [ref10_Placed_T, T.run, bif_out, andC_out, ref10_reached_e, Option.bind_some]
  refine (scanI (fun i => sw (farL l i) false) (min l.length 9) (by omega) (fun j hj => ?_) ?_).trans ?_
  · have e : (bif decide ((j : Int) < (l.length : Int)) then decide ((j : Int) ≤ 8) else false) = true := by rw [bif_dpos (by omega), decide_eq_true (p := (j : Int) ≤ 8) (by omega)]
    rw [e, cond_true, grd_p (by omega), wn (by omega), Int.toNat_natCast, ← sw_fin]; rfl
  · have e : (bif decide (((min l.length 9 : Nat) : Int) < (l.length : Int)) then decide (((min l.length 9 : Nat) : Int) ≤ 8) else false) = false := by
      by_cases hl : l.length ≤ 8
      · rw [bif_dneg (by omega)]
      · by_cases h9 : ((min l.length 9 : Nat) : Int) < (l.length : Int)
        · rw [bif_dpos h9, decide_eq_false (p := ((min l.length 9 : Nat) : Int) ≤ 8) (by omega)]
        · rw [bif_dneg h9]
    rw [e, cond_false]
  · rw [scan_sw]
    unfold placedV
    by_cases h : 1 ≤ l.length ∧ l.length ≤ 8
    · rw [decide_eq_true h, Nat.min_eq_left (by omega), Bool.true_and]
      cases noneB (farL l) l.length
      · rfl
      · show (bif decide ((l.length : Int) ≥ 1) then _ else _) = _
        rw [bif_dpos (by omega), decide_eq_true (p := (l.length : Int) ≤ 8) (by omega)]
    · rw [decide_eq_false h, Bool.false_and]
      cases noneB (farL l) (min l.length 9)
      · rfl
      · show (bif decide ((l.length : Int) ≥ 1) then _ else _) = _
        by_cases h1 : (l.length : Int) ≥ 1
        · rw [bif_dpos h1, decide_eq_false (p := (l.length : Int) ≤ 8) (by omega)]
        · rw [bif_dneg h1]

/-! ### Scalar products -/
def dLo (n : V3) (v : IV3) : Int := min (n.1 * v.1.Lo) (n.1 * v.1.Hi) + min (n.2.1 * v.2.1.Lo) (n.2.1 * v.2.1.Hi) + min (n.2.2 * v.2.2.Lo) (n.2.2 * v.2.2.Hi)
def dHi (n : V3) (v : IV3) : Int := max (n.1 * v.1.Lo) (n.1 * v.1.Hi) + max (n.2.1 * v.2.1.Lo) (n.2.1 * v.2.1.Hi) + max (n.2.2 * v.2.2.Lo) (n.2.2 * v.2.2.Hi)
theorem mul42 {a b : Int} (ha : -16384 ≤ a ∧ a ≤ 16384) (hb : -268435456 ≤ b ∧ b ≤ 268435456) : -4398046511104 ≤ a * b ∧ a * b ≤ 4398046511104 := by
  have h : (a * b).natAbs ≤ 16384 * 268435456 := by rw [Int.natAbs_mul]; exact Nat.mul_le_mul (by omega) (by omega)
  omega
theorem dot_in {n : V3} {v : IV3} (hn : usableV n = true) (hv : reachedV v = true) :
    IntKind.i64.wrap (IntKind.i64.wrap (IntKind.i64.wrap (0 + min (IntKind.i64.wrap (n.1 * v.1.Lo)) (IntKind.i64.wrap (n.1 * v.1.Hi))) + min (IntKind.i64.wrap (n.2.1 * v.2.1.Lo)) (IntKind.i64.wrap (n.2.1 * v.2.1.Hi))) + min (IntKind.i64.wrap (n.2.2 * v.2.2.Lo)) (IntKind.i64.wrap (n.2.2 * v.2.2.Hi))) = dLo n v ∧
    IntKind.i64.wrap (IntKind.i64.wrap (IntKind.i64.wrap (0 + max (IntKind.i64.wrap (n.1 * v.1.Lo)) (IntKind.i64.wrap (n.1 * v.1.Hi))) + max (IntKind.i64.wrap (n.2.1 * v.2.1.Lo)) (IntKind.i64.wrap (n.2.1 * v.2.1.Hi))) + max (IntKind.i64.wrap (n.2.2 * v.2.2.Lo)) (IntKind.i64.wrap (n.2.2 * v.2.2.Hi))) = dHi n v ∧
    (-13194139533312 ≤ dLo n v ∧ dLo n v ≤ 13194139533312) ∧ (-13194139533312 ≤ dHi n v ∧ dHi n v ≤ 13194139533312) := by
  obtain ⟨⟨b1, b2, b3⟩, -⟩ := usable_bd hn
  simp only [reachedV, Bool.and_eq_true, rng_iff] at hv
  obtain ⟨v1, v2, v3⟩ := hv
  have p1 := mul42 b1 (show -268435456 ≤ v.1.Lo ∧ v.1.Lo ≤ 268435456 by omega)
  have p2 := mul42 b1 (show -268435456 ≤ v.1.Hi ∧ v.1.Hi ≤ 268435456 by omega)
  have p3 := mul42 b2 (show -268435456 ≤ v.2.1.Lo ∧ v.2.1.Lo ≤ 268435456 by omega)
  have p4 := mul42 b2 (show -268435456 ≤ v.2.1.Hi ∧ v.2.1.Hi ≤ 268435456 by omega)
  have p5 := mul42 b3 (show -268435456 ≤ v.2.2.Lo ∧ v.2.2.Lo ≤ 268435456 by omega)
  have p6 := mul42 b3 (show -268435456 ≤ v.2.2.Hi ∧ v.2.2.Hi ≤ 268435456 by omega)
  unfold dLo dHi
  generalize n.1 * v.1.Lo = x1 at *
  generalize n.1 * v.1.Hi = x2 at *
  generalize n.2.1 * v.2.1.Lo = x3 at *
  generalize n.2.1 * v.2.1.Hi = x4 at *
  generalize n.2.2 * v.2.2.Lo = x5 at *
  generalize n.2.2 * v.2.2.Hi = x6 at *
  rw [w64 (x := x1) (by omega) (by omega), w64 (x := x2) (by omega) (by omega), w64 (x := x3) (by omega) (by omega), w64 (x := x4) (by omega) (by omega), w64 (x := x5) (by omega) (by omega), w64 (x := x6) (by omega) (by omega)]
  rw [w64 (x := 0 + min x1 x2) (by omega) (by omega), w64 (x := 0 + max x1 x2) (by omega) (by omega), w64 (x := 0 + min x1 x2 + min x3 x4) (by omega) (by omega), w64 (x := 0 + max x1 x2 + max x3 x4) (by omega) (by omega), w64 (by omega) (by omega), w64 (by omega) (by omega)]
  refine ⟨by omega, by omega, ⟨by omega, by omega⟩, ⟨by omega, by omega⟩⟩
theorem support_dot_e {n : V3} {v : IV3} (hn : usableV n = true) (hv : reachedV v = true) : (support_dot_C n v).o = some (dLo n v, dHi n v) := by
  have h := dot_in hn hv
  show (support_dot_T n v).run NN = _
  simp only [support_dot_T, T.run, T.ix, h.1, h.2.1]
theorem ref10_Dot_e {n : V3} {v : IV3} (hn : usableV n = true) (hv : reachedV v = true) : (ref10_Dot_C n v).o = some (dLo n v, dHi n v) := by
  have h := dot_in hn hv
  show (ref10_Dot_T n v).run NN = _
  simp only [ref10_Dot_T, T.run, T.ix, ref10_Usable_e, ref10_reached_e, hn, hv, Option.bind_some, Bool.not_true, cond_false, andC_out, h.1, h.2.1]

/-! ### The best place -/
def bst (c : Int → Int → Bool) (f : Nat → Int) : Nat → Int × Int
  | 0 => (0, 0)
  | j + 1 => if decide (j = 0) || c (f j) (bst c f j).1 then (f j, (j : Int)) else bst c f j
def ltB (a b : Int) : Bool := decide (a < b)
def gtB (a b : Int) : Bool := decide (a > b)
theorem bst_step {c : Int → Int → Bool} {f : Nat → Int} {j : Nat} {R : Type} {k : Int × Int → Option R} : (andC (andC (bif ((j : Int) == 0) then some (.out true) else some (.out (c (f j) (bst c f j).1)) : Option (Step3 Unit Bool (Step3 Unit (Int × Int) R))) fun y => bif y then some (.out (f j, (j : Int))) else some (.out ((bst c f j).1, (bst c f j).2))) k) = k (bst c f (j + 1)) := by
  simp only [bif_out, andC_out, bst]
  have e : ((j : Int) == 0) = decide (j = 0) := by rw [Bool.eq_iff_iff]; simp
  rw [e, bif_tb]
  cases decide (j = 0) || c (f j) (bst c f j).1 <;> rfl
def leastV (n : V3) (l : List IV3) : Int × Int := bst ltB (fun i => dLo n (l.getD i default)) l.length
def greatV (n : V3) (l : List IV3) : Int × Int := bst gtB (fun i => dHi n (l.getD i default)) l.length
section
variable {n : V3} {l : List IV3} (hn : usableV n = true) (hl : placedV l = true)
include hn hl
theorem direction_best_e : (direction_best_C n.1 n.2.1 n.2.2 l).o = some ((leastV n l).1, (leastV n l).2, n.1, n.2.1, n.2.2) := by
  have hlen := placed_len hl
  show (direction_best_T n.1 n.2.1 n.2.2 l).run NN = _
  simp only [direction_best_T, T.run]
  refine (loop_to (fun j => (n.1, n.2.1, n.2.2, (bst ltB (fun i => dLo n (l.getD i default)) j).1, (bst ltB (fun i => dLo n (l.getD i default)) j).2, (j : Int))) (n.1, n.2.1, n.2.2, (leastV n l).1, (leastV n l).2) l.length rfl (show l.length < 4294967296 by omega) (fun j hj => ?_) ?_).trans rfl
  · rw [bif_dpos (by simpa using hj), grd_p ⟨by simp, by simpa using hj⟩]
    have e1 : (support_downward_1_C (l.getD j default) n.1 n.2.1 n.2.2).o = some (dLo n (l.getD j default), n.1, n.2.1, n.2.2) := by
      show (support_downward_1_T (l.getD j default) n.1 n.2.1 n.2.2).run NN = _
      simp only [support_downward_1_T, T.run, support_dot_e (n := (n.1, n.2.1, n.2.2)) hn (placed_get hl hj), Option.bind_some]
    have e2 : ∀ a b, (support_downward_2_C a b).o = some (ltB a b) := fun a b => rfl
    simp only [Int.toNat_natCast, e1, e2, Option.bind_some]
    rw [wn (by omega)]
    simp only [bif_out, andC_out, bst]
    have e : ((j : Int) == 0) = decide (j = 0) := by rw [Bool.eq_iff_iff]; simp
    rw [e, bif_tb]
    cases decide (j = 0) || ltB (dLo n (l.getD j default)) (bst ltB (fun i => dLo n (l.getD i default)) j).1 <;> rfl
  · rw [bif_dneg (by simp)]; rfl
theorem direction_best_1_e : (direction_best_1_C n.1 n.2.1 n.2.2 l).o = some ((greatV n l).1, (greatV n l).2, n.1, n.2.1, n.2.2) := by
  have hlen := placed_len hl
  show (direction_best_1_T n.1 n.2.1 n.2.2 l).run NN = _
  simp only [direction_best_1_T, T.run]
  refine (loop_to (fun j => (n.1, n.2.1, n.2.2, (bst gtB (fun i => dHi n (l.getD i default)) j).1, (bst gtB (fun i => dHi n (l.getD i default)) j).2, (j : Int))) (n.1, n.2.1, n.2.2, (greatV n l).1, (greatV n l).2) l.length rfl (show l.length < 4294967296 by omega) (fun j hj => ?_) ?_).trans rfl
  · rw [bif_dpos (by simpa using hj), grd_p ⟨by simp, by simpa using hj⟩]
    have e1 : (support_upward_1_C (l.getD j default) n.1 n.2.1 n.2.2).o = some (dHi n (l.getD j default), n.1, n.2.1, n.2.2) := by
      show (support_upward_1_T (l.getD j default) n.1 n.2.1 n.2.2).run NN = _
      simp only [support_upward_1_T, T.run, support_dot_e (n := (n.1, n.2.1, n.2.2)) hn (placed_get hl hj), Option.bind_some]
    have e2 : ∀ a b, (support_upward_2_C a b).o = some (gtB a b) := fun a b => rfl
    simp only [Int.toNat_natCast, e1, e2, Option.bind_some]
    rw [wn (by omega)]
    simp only [bif_out, andC_out, bst]
    have e : ((j : Int) == 0) = decide (j = 0) := by rw [Bool.eq_iff_iff]; simp
    rw [e, bif_tb]
    cases decide (j = 0) || gtB (dHi n (l.getD j default)) (bst gtB (fun i => dHi n (l.getD i default)) j).1 <;> rfl
  · rw [bif_dneg (by simp)]; rfl
end
def leastO (n : V3) (l : List IV3) : Int × Int × Bool := bif usableV n && placedV l then ((leastV n l).1, (leastV n l).2, true) else (0, 0, false)
def greatO (n : V3) (l : List IV3) : Int × Int × Bool := bif usableV n && placedV l then ((greatV n l).1, (greatV n l).2, true) else (0, 0, false)
theorem support_Least_e (n : V3) (l : List IV3) : (support_Least_C n l).o = some (leastO n l) := by
  show (support_Least_T n l).run NN = _
  have e1 : (support_downward_C (n.1, n.2.1, n.2.2)).o = some (n.1, n.2.1, n.2.2) := rfl
  simp only [support_Least_T, T.run, support_Usable_e, shape_Placed_e, Option.bind_some, leastO, e1]
  cases hn : usableV n
  · rfl
  · cases hl : placedV l
    · rfl
    · simp only [Bool.not_true, cond_false, andC_out, direction_best_e hn hl, Option.bind_some, Bool.and_self, cond_true]
theorem support_Greatest_e (n : V3) (l : List IV3) : (support_Greatest_C n l).o = some (greatO n l) := by
  show (support_Greatest_T n l).run NN = _
  have e1 : (support_upward_C (n.1, n.2.1, n.2.2)).o = some (n.1, n.2.1, n.2.2) := rfl
  simp only [support_Greatest_T, T.run, support_Usable_e, shape_Placed_e, Option.bind_some, greatO, e1]
  cases hn : usableV n
  · rfl
  · cases hl : placedV l
    · rfl
    · simp only [Bool.not_true, cond_false, andC_out, direction_best_1_e hn hl, Option.bind_some, Bool.and_self, cond_true]
theorem ref10_Least_e (n : V3) (l : List IV3) : (ref10_Least_C n l).o = some (leastO n l) := by
  show (ref10_Least_T n l).run NN = _
  simp only [ref10_Least_T, T.run, ref10_Usable_e, ref10_Placed_e, Option.bind_some, leastO]
  cases hn : usableV n
  · rfl
  · cases hl : placedV l
    · rfl
    · have hlen := placed_len hl
      simp only [Bool.not_true, cond_false, andC_out, Bool.and_self, cond_true]
      refine (loop_to (fun j => ((bst ltB (fun i => dLo n (l.getD i default)) j).1, (bst ltB (fun i => dLo n (l.getD i default)) j).2, (j : Int))) ((leastV n l).1, (leastV n l).2) l.length rfl (show l.length < 4294967296 by omega) (fun j hj => ?_) ?_).trans rfl
      · rw [bif_dpos (by simpa using hj), grd_p ⟨by simp, by simpa using hj⟩]
        simp only [Int.toNat_natCast, ref10_Dot_e hn (placed_get hl hj), Option.bind_some]
        rw [wn (by omega)]
        simp only [bif_out, andC_out, bst]
        have e : ((j : Int) == 0) = decide (j = 0) := by rw [Bool.eq_iff_iff]; simp
        rw [e, bif_tb]
        have hc : ∀ a b : Int, decide (a < b) = ltB a b := fun _ _ => rfl
        rw [hc]
        cases decide (j = 0) || ltB (dLo n (l.getD j default)) (bst ltB (fun i => dLo n (l.getD i default)) j).1 <;> rfl
      · rw [bif_dneg (by simp)]; rfl
theorem ref10_Greatest_e (n : V3) (l : List IV3) : (ref10_Greatest_C n l).o = some (greatO n l) := by
  show (ref10_Greatest_T n l).run NN = _
  simp only [ref10_Greatest_T, T.run, ref10_Usable_e, ref10_Placed_e, Option.bind_some, greatO]
  cases hn : usableV n
  · rfl
  · cases hl : placedV l
    · rfl
    · have hlen := placed_len hl
      simp only [Bool.not_true, cond_false, andC_out, Bool.and_self, cond_true]
      refine (loop_to (fun j => ((bst gtB (fun i => dHi n (l.getD i default)) j).1, (bst gtB (fun i => dHi n (l.getD i default)) j).2, (j : Int))) ((greatV n l).1, (greatV n l).2) l.length rfl (show l.length < 4294967296 by omega) (fun j hj => ?_) ?_).trans rfl
      · rw [bif_dpos (by simpa using hj), grd_p ⟨by simp, by simpa using hj⟩]
        simp only [Int.toNat_natCast, ref10_Dot_e hn (placed_get hl hj), Option.bind_some]
        rw [wn (by omega)]
        simp only [bif_out, andC_out, bst]
        have e : ((j : Int) == 0) = decide (j = 0) := by rw [Bool.eq_iff_iff]; simp
        rw [e, bif_tb]
        have hc : ∀ a b : Int, decide (a > b) = gtB a b := fun _ _ => rfl
        rw [hc]
        cases decide (j = 0) || gtB (dHi n (l.getD j default)) (bst gtB (fun i => dHi n (l.getD i default)) j).1 <;> rfl
      · rw [bif_dneg (by simp)]; rfl

/-! ### Separation -/
def radV (r : Int) : Bool := decide (0 ≤ r) && decide (r ≤ 1048576)
noncomputable def marginV (n : V3) (a : List IV3) (ra : Int) (b : List IV3) (rb : Int) : Int :=
  IntKind.i64.wrap (IntKind.i64.wrap ((leastV n a).1 - (greatV n b).1) - IntKind.i64.wrap (normV n * IntKind.i64.wrap (ra + rb)))
def sepOk (n : V3) (a : List IV3) (ra : Int) (b : List IV3) (rb : Int) : Bool := usableV n && (placedV a && (placedV b && (radV ra && radV rb)))
noncomputable def sepV (n : V3) (a : List IV3) (ra : Int) (b : List IV3) (rb : Int) : Bool := sepOk n a ra b rb && decide (marginV n a ra b rb > 0)
theorem ref14_radius_e (r : Int) : (ref14_radius_C r).o = some (radV r) := by
  show (ref14_radius_T r).run NN = _
  simp only [ref14_radius_T, T.run, bif_some, bif_bf, radV, ge_iff_le]
theorem ref14_Margin_e (n : V3) (a : List IV3) (ra : Int) (b : List IV3) (rb : Int) : (ref14_Margin_C n a ra b rb).o = some (bif sepOk n a ra b rb then (marginV n a ra b rb, true) else (0, false)) := by
  show (ref14_Margin_T n a ra b rb).run NN = _
  simp only [ref14_Margin_T, T.run, ref10_Least_e, ref10_Greatest_e, ref14_radius_e, ref10_Norm_e, Option.bind_some, leastO, greatO, sepOk, marginV]
  cases usableV n <;> cases placedV a <;> cases placedV b <;> cases radV ra <;> cases radV rb <;> rfl
theorem ref14_Separates_e (n : V3) (a : List IV3) (ra : Int) (b : List IV3) (rb : Int) : (ref14_Separates_C n a ra b rb).o = some (sepV n a ra b rb) := by
  show (ref14_Separates_T n a ra b rb).run NN = _
  simp only [ref14_Separates_T, T.run, ref14_Margin_e, Option.bind_some, sepV]
  cases sepOk n a ra b rb <;> rfl
theorem side_valid_e (x : S_plane_side) : (side_valid_C x).o = some (placedV x.points && radV x.radius) := by
  show (side_valid_T x).run NN = _
  simp only [side_valid_T, T.run, shape_Placed_e, Option.bind_some, radV]
  cases placedV x.points <;> cases decide (0 ≤ x.radius) <;> rfl
theorem plane_Separates_e (n : V3) (a : List IV3) (ra : Int) (b : List IV3) (rb : Int) : (plane_Separates_C n a ra b rb).o = some (sepV n a ra b rb) := by
  have e1 : (plane_both_C a ra b rb).o = some ⟨⟨a, ra⟩, ⟨b, rb⟩⟩ := rfl
  have e2 : (sides_margin_C ⟨⟨a, ra⟩, ⟨b, rb⟩⟩ n).o = some (bif sepOk n a ra b rb then (marginV n a ra b rb, true) else (0, false)) := by
    show (sides_margin_T ⟨⟨a, ra⟩, ⟨b, rb⟩⟩ n).run NN = _
    simp only [sides_margin_T, T.run, side_valid_e, support_Least_e, support_Greatest_e, support_Norm_e, Option.bind_some, leastO, greatO, sepOk, marginV]
    cases usableV n <;> cases placedV a <;> cases placedV b <;> cases radV ra <;> cases radV rb <;> rfl
  have e3 : (sides_separates_C ⟨⟨a, ra⟩, ⟨b, rb⟩⟩ n).o = some (sepV n a ra b rb) := by
    show (sides_separates_T ⟨⟨a, ra⟩, ⟨b, rb⟩⟩ n).run NN = _
    simp only [sides_separates_T, T.run, e2, Option.bind_some, sepV]
    cases sepOk n a ra b rb <;> rfl
  show (plane_Separates_T n a ra b rb).run NN = _
  simp only [plane_Separates_T, T.run, e1, e3, Option.bind_some]

/-! ### Free boxes -/
theorem pin_mem {c : Nat → Nat → Bool} {L : List S_Pair} {i : Nat} {x : S_Pair} : ∀ {m : Nat}, x ∈ pin c L i m → x ∈ L ∨ ∃ k, k < m ∧ x = ⟨(i : Int), ((i + 1 + k : Nat) : Int)⟩
  | 0, h => Or.inl h
  | m + 1, h => by
    simp only [pin] at h
    split at h
    · rcases List.mem_append.1 h with h | h
      · rcases pin_mem h with h | ⟨k, h1, h2⟩
        · exact Or.inl h
        · exact Or.inr ⟨k, by omega, h2⟩
      · exact Or.inr ⟨m, by omega, List.mem_singleton.1 h⟩
    · rcases pin_mem h with h | ⟨k, h1, h2⟩
      · exact Or.inl h
      · exact Or.inr ⟨k, by omega, h2⟩
theorem pou_mem {c : Nat → Nat → Bool} {n : Nat} {x : S_Pair} : ∀ {i : Nat}, i ≤ n → x ∈ pou c n i → 0 ≤ x.A ∧ x.A < (n : Int) ∧ 0 ≤ x.B ∧ x.B < (n : Int)
  | 0, _, h => by simp [pou, nl] at h
  | i + 1, hi, h => by
    simp only [pou] at h
    rcases pin_mem h with h | ⟨k, h1, h2⟩
    · exact pou_mem (by omega) h
    · subst h2; simp only; omega
theorem getD_mem {α : Type} [Inhabited α] {l : List α} {i : Nat} (h : i < l.length) : l.getD i default ∈ l := by
  rw [List.getD_eq_getElem?_getD, List.getElem?_eq_getElem h, Option.getD_some]; exact List.getElem_mem h
theorem pairs_in {s : S_Scene} (h : sceneV s = 0) {k : Nat} (hk : k < (pairsV s).length) : (0 ≤ ((pairsV s).getD k default).A ∧ ((pairsV s).getD k default).A < (s.Shapes.length : Int)) ∧ (0 ≤ ((pairsV s).getD k default).B ∧ ((pairsV s).getD k default).B < (s.Shapes.length : Int)) := by
  have hm := getD_mem hk
  generalize (pairsV s).getD k default = x at hm ⊢
  unfold pairsV at hm
  rw [if_pos h] at hm
  have := pou_mem (Nat.le_refl _) hm
  omega
theorem pairs_len (s : S_Scene) : (pairsV s).length ≤ 576 := by
  unfold pairsV
  split
  · rename_i h
    have h1 := (sceneV_ok h).len
    have h2 := pou_len (pairB s) (n := s.Shapes.length) s.Shapes.length
    have h3 : s.Shapes.length * s.Shapes.length ≤ 24 * 24 := Nat.mul_le_mul h1 h1
    omega
  · simp [nl]
def pA (s : S_Scene) (k : Nat) : Nat := ((pairsV s).getD k default).A.toNat
def pB (s : S_Scene) (k : Nat) : Nat := ((pairsV s).getD k default).B.toNat
def radOf (s : S_Scene) (i : Nat) : Int := (s.Shapes.getD i default).Radius
noncomputable def sepK (s : S_Scene) (b : List S_Interval) (ns : List V3) (k : Nat) : Bool := !sepV (ns.getD k default) (pointsF s b (pA s k)) (radOf s (pA s k)) (pointsF s b (pB s k)) (radOf s (pB s k))
noncomputable def freeV (s : S_Scene) (b : List S_Interval) (ns : List V3) : Bool :=
  decide (sceneV s = 0) && (boxV s.Robot b && (decide (ns.length = (pairsV s).length) && noneB (sepK s b ns) (pairsV s).length))
theorem pointsV_get {s : S_Scene} {b : List S_Interval} (h : sceneV s = 0) (hb : boxV s.Robot b = true) : pointsV s b = tab (pointsF s b) s.Shapes.length := by unfold pointsV; rw [if_pos ⟨h, hb⟩]
theorem classify_place_e (s : S_Scene) (b : List S_Interval) (hbl : b.length < 4294967296) : (classify_place_C s b).o = some (if sceneV s = 0 ∧ boxV s.Robot b = true then (⟨s.Shapes, pairsV s, pointsV s b⟩, true) else (⟨nl, nl, nl⟩, false)) := by
  show (classify_place_T s b).run NN = _
  simp only [classify_place_T, T.run, scene_Check_e, Option.bind_some]
  by_cases h : sceneV s = 0
  · rw [bif_nne h, andC_out]
    by_cases hl : b.length = s.Robot.Joints.length
    · rw [bif_nne (by omega)]
      refine (scanI (fun i => sw (notV b i) ((⟨nl, nl, nl⟩ : S_classify_body), false)) b.length hbl (fun j hj => ?_) ?_).trans ?_
      · rw [bif_dpos (by omega), grd_p (by omega), wn (by omega), Int.toNat_natCast, ← sw_fin]
        simp only [interval_Valid_e, Option.bind_some]; rfl
      · rw [bif_dneg (by omega)]
      · rw [scan_sw]
        have : boxV s.Robot b = noneB (notV b) b.length := by unfold boxV; rw [decide_eq_true hl, Bool.true_and]
        rw [this]
        cases noneB (notV b) b.length
        · rw [if_neg (fun h => by cases h.2)]; rfl
        · rw [if_pos ⟨h, rfl⟩]
          simp only [sw, Bool.not_true, cond_false, scene_Pairs_e, kinematics_Points_e s b hbl, Option.bind_some]
    · rw [bif_neq (by omega), if_neg]
      rintro ⟨-, hb⟩
      simp only [boxV, Bool.and_eq_true, decide_eq_true_eq] at hb
      exact hl hb.1
  · rw [bif_neq h, andC_out, if_neg (fun h' => h h'.1)]; rfl
theorem classify_CheckFree_e (s : S_Scene) (b : List S_Interval) (ns : List V3) (hbl : b.length < 4294967296) : (classify_CheckFree_C s b ns).o = some (freeV s b ns) := by
  have hpl := pairs_len s
  have ep := classify_place_e s b hbl
  show (classify_CheckFree_T s b ns).run NN = _
  have e2 : (classify_holds_C s b ⟨ns⟩).o = some (freeV s b ns) := by
    show (classify_holds_T s b ⟨ns⟩).run NN = _
    simp only [classify_holds_T, T.run, ep, Option.bind_some]
    by_cases h : sceneV s = 0 ∧ boxV s.Robot b = true
    · rw [if_pos h]
      simp only [cond_true]
      have e3 : (separation_holds_C ⟨ns⟩ ⟨s.Shapes, pairsV s, pointsV s b⟩).o = some (decide (ns.length = (pairsV s).length) && noneB (sepK s b ns) (pairsV s).length) := by
        show (separation_holds_T ⟨ns⟩ ⟨s.Shapes, pairsV s, pointsV s b⟩).run NN = _
        simp only [separation_holds_T, T.run]
        by_cases hl : ns.length = (pairsV s).length
        · rw [bif_nne (by omega), decide_eq_true hl, Bool.true_and]
          refine (scanI (fun i => sw (sepK s b ns i) false) ns.length (by omega) (fun j hj => ?_) ?_).trans ?_
          · have hp := pairs_in h.1 (show j < (pairsV s).length by omega)
            have ec : (body_couple_C ⟨s.Shapes, pairsV s, pointsV s b⟩ (j : Int)).o = some ⟨pointsF s b (pA s j), pointsF s b (pB s j), radOf s (pA s j), radOf s (pB s j)⟩ := by
              show (body_couple_T ⟨s.Shapes, pairsV s, pointsV s b⟩ (j : Int)).run NN = _
              simp only [body_couple_T, T.run, Int.toNat_natCast, pointsV_get h.1 h.2, tab_len]
              rw [grd_p ⟨by omega, by omega⟩, grd_p hp.1, grd_p hp.1, grd_p hp.2, grd_p hp.2, tab_get (by omega), tab_get (by omega)]; rfl
            rw [bif_dpos (by omega), grd_p (by omega), wn (by omega), Int.toNat_natCast, ← sw_fin]
            simp only [ec, plane_Separates_e, Option.bind_some]; rfl
          · rw [bif_dneg (by omega)]
          · rw [scan_sw, hl]; cases noneB (sepK s b ns) (pairsV s).length <;> rfl
        · rw [bif_neq (by omega), decide_eq_false hl]; rfl
      simp only [e3, Option.bind_some, freeV, h.2, decide_eq_true h.1, Bool.true_and]
    · rw [if_neg h]
      have : freeV s b ns = false := by
        unfold freeV
        by_cases h1 : sceneV s = 0
        · have h2 : boxV s.Robot b = false := by cases hb : boxV s.Robot b with
            | false => rfl
            | true => exact absurd ⟨h1, hb⟩ h
          rw [h2, Bool.false_and, Bool.and_false]
        · rw [decide_eq_false h1, Bool.false_and]
      rw [this]; rfl
  simp only [classify_CheckFree_T, T.run, e2, Option.bind_some]
noncomputable def sideA (s : S_Scene) (b : List S_Interval) (k : Nat) : S_ref14_side := ⟨pointsF s b (pA s k), radOf s (pA s k)⟩
noncomputable def sideB (s : S_Scene) (b : List S_Interval) (k : Nat) : S_ref14_side := ⟨pointsF s b (pB s k), radOf s (pB s k)⟩
theorem ref14_sides_e (s : S_Scene) (b : List S_Interval) (hbl : b.length < 4294967296) : (ref14_sides_C s b).o = some (if sceneV s = 0 ∧ boxV s.Robot b = true then (tab (sideA s b) (pairsV s).length, tab (sideB s b) (pairsV s).length, true) else (nl, nl, false)) := by
  have hpl := pairs_len s
  show (ref14_sides_T s b).run NN = _
  simp only [ref14_sides_T, T.run, ref6_CheckScene_e, ref10_IsBox_e _ b hbl, Option.bind_some]
  by_cases h : sceneV s = 0
  · rw [bif_nne h, andC_out]
    cases hb : boxV s.Robot b
    · rw [if_neg (fun h => by cases h.2)]; rfl
    · rw [if_pos ⟨h, rfl⟩]
      simp only [Bool.not_true, cond_false, ref10_Points_e s b hbl, ref6_Pairs_e, Option.bind_some, pointsV_get h hb]
      refine (loop_to (fun j => (tab (sideA s b) j, tab (sideB s b) j, (j : Int))) (tab (sideA s b) (pairsV s).length, tab (sideB s b) (pairsV s).length) (pairsV s).length rfl (show (pairsV s).length < 4294967296 by omega) (fun j hj => ?_) ?_).trans rfl
      · have hp := pairs_in h hj
        rw [bif_dpos (by simpa using hj), grd_p ⟨by simp, by simpa using hj⟩, grd_p ⟨by simp, by simpa using hj⟩]
        simp only [Int.toNat_natCast, tab_len]
        rw [grd_p hp.1, grd_p hp.1, grd_p ⟨by simp; omega, by simp [maxLen_eq]; omega⟩, grd_p hp.2, grd_p hp.2, grd_p ⟨by simp; omega, by simp [maxLen_eq]; omega⟩, wn (by omega), tab_get (by omega), tab_get (by omega), tab_succ, tab_succ]; rfl
      · rw [bif_dneg (by simp)]
  · rw [bif_neq h, andC_out, if_neg (fun h' => h h'.1)]; rfl
theorem ref14_CheckFree_e (s : S_Scene) (b : List S_Interval) (ns : List V3) (hbl : b.length < 4294967296) : (ref14_CheckFree_C s b ns).o = some (freeV s b ns) := by
  have hpl := pairs_len s
  show (ref14_CheckFree_T s b ns).run NN = _
  simp only [ref14_CheckFree_T, T.run, ref14_sides_e s b hbl, Option.bind_some]
  by_cases h : sceneV s = 0 ∧ boxV s.Robot b = true
  · rw [if_pos h]
    simp only [Bool.not_true, cond_false, andC_out, tab_len, freeV, h.2, decide_eq_true h.1, Bool.true_and]
    by_cases hl : ns.length = (pairsV s).length
    · rw [bif_nne (by omega), decide_eq_true hl, Bool.true_and]
      refine (scanI (fun i => sw (sepK s b ns i) false) (pairsV s).length (by omega) (fun j hj => ?_) ?_).trans ?_
      · rw [bif_dpos (by omega), grd_p (by omega), grd_p (by omega), grd_p (by omega), grd_p (by omega), grd_p (by omega), wn (by omega), Int.toNat_natCast, ← sw_fin, tab_get hj, tab_get hj]
        simp only [ref14_Separates_e, Option.bind_some]; rfl
      · rw [bif_dneg (by omega)]
      · rw [scan_sw]; cases noneB (sepK s b ns) (pairsV s).length <;> rfl
    · rw [bif_neq (by omega), decide_eq_false hl]; rfl
  · rw [if_neg h]
    have : freeV s b ns = false := by
      unfold freeV
      by_cases h1 : sceneV s = 0
      · have h2 : boxV s.Robot b = false := by cases hb : boxV s.Robot b with
          | false => rfl
          | true => exact absurd ⟨h1, hb⟩ h
        rw [h2, Bool.false_and, Bool.and_false]
      · rw [decide_eq_false h1, Bool.false_and]
    rw [this]; rfl
end Go.Abs

/-
  Proofs of motions: their check, and merging: what the program and the reference compute is the same.
-/
namespace Go.Abs

/-! ### Tilings -/
def begV (x : S_Piece) : Option (Int × Int) := if (0 ≤ x.Depth ∧ x.Depth ≤ 20) ∧ 0 ≤ x.Index ∧ x.Index < 2 ^ x.Depth.toNat then some (x.Index * 2 ^ (20 - x.Depth.toNat), 2 ^ (20 - x.Depth.toNat)) else none
theorem begV_bd {x : S_Piece} {f n : Int} (h : begV x = some (f, n)) : 0 ≤ f ∧ f < 1048576 ∧ 0 < n ∧ n ≤ 1048576 := by
  unfold begV at h
  split at h
  · rename_i hc
    simp only [Option.some.injEq, Prod.mk.injEq] at h
    obtain ⟨rfl, rfl⟩ := h
    have p1 := two_pow_pos (20 - x.Depth.toNat)
    have p2 := pow20 (show 20 - x.Depth.toNat ≤ 20 by omega)
    refine ⟨Int.mul_nonneg hc.2.1 (by omega), ?_, p1, p2⟩
    have h1 : (x.Index + 1) * 2 ^ (20 - x.Depth.toNat) ≤ 2 ^ x.Depth.toNat * 2 ^ (20 - x.Depth.toNat) := Int.mul_le_mul_of_nonneg_right (by omega) (by omega)
    rw [← Int.pow_add, show x.Depth.toNat + (20 - x.Depth.toNat) = 20 by omega, Int.add_mul, Int.one_mul] at h1
    have e : (2 : Int) ^ 20 = 1048576 := by decide
    omega
  · cases h
theorem ref19_begin_e (x : S_Piece) : (ref19_begin_C x).o = some (match begV x with | some (f, n) => (f, n, true) | none => (0, 0, false)) := by
  show (ref19_begin_T x).run NN = _
  simp only [ref19_begin_T, T.run]
  by_cases h1 : x.Depth < 0
  · have : begV x = none := by unfold begV; rw [if_neg (by omega)]
    rw [bif_dpos h1, andC_out, this]; rfl
  · rw [bif_dneg h1]
    by_cases h2 : x.Depth > 20
    · have : begV x = none := by unfold begV; rw [if_neg (by omega)]
      rw [bif_dpos h2, andC_out, this]; rfl
    · rw [bif_dneg h2]
      by_cases h3 : x.Index < 0
      · have : begV x = none := by unfold begV; rw [if_neg (by omega)]
        rw [bif_dpos h3, andC_out, this]; rfl
      · rw [bif_dneg h3, u64_id (by omega) (by omega), grd_p (by omega), andC_out, Nat.min_eq_left (by omega), w2k (by omega)]
        by_cases h4 : x.Index ≥ 2 ^ x.Depth.toNat
        · have : begV x = none := by unfold begV; rw [if_neg (by omega)]
          rw [bif_dpos h4, this]
        · have hb : begV x = some (x.Index * 2 ^ (20 - x.Depth.toNat), 2 ^ (20 - x.Depth.toNat)) := by unfold begV; rw [if_pos ⟨⟨by omega, by omega⟩, by omega, by omega⟩]
          have hr := begV_bd hb
          rw [bif_dneg h4, hb, w64 (x := 20 - x.Depth) (by omega) (by omega), u64_id (by omega) (by omega), grd_p (by omega), Nat.min_eq_left (by omega), show (20 - x.Depth).toNat = 20 - x.Depth.toNat by omega, w2k (by omega), w64 (by omega) (by omega)]
def plc (l : List S_Piece) : Nat → Int
  | 0 => 0
  | j + 1 => match begV (l.getD j default) with
    | some (f, n) => f + n
    | none => 0
def badT (l : List S_Piece) (j : Nat) : Bool := match begV (l.getD j default) with
  | some (f, _) => f != plc l j
  | none => true
theorem plc_bd (l : List S_Piece) : ∀ j, 0 ≤ plc l j ∧ plc l j ≤ 2097152
  | 0 => by simp [plc]
  | j + 1 => by
    simp only [plc]
    split
    · rename_i f n h; have := begV_bd h; omega
    · omega
theorem iter_scanF {σ τ R : Type} {f : σ → Option (Step3 σ τ R)} (st : Nat → σ) (g : Nat → Option R) (r : R) :
    ∀ (n i N : Nat), n < N → (∀ j, i ≤ j → j < i + n → f (st j) = match g j with | some r => some (.fin r) | none => some (.next (st (j + 1)))) → f (st (i + n)) = some (.fin r) →
      iter f N (st i) = some (.inr (match scan g n i with | some r' => r' | none => r))
  | 0, i, 0, h, _, _ => by omega
  | 0, i, N + 1, _, _, h => by simp only [Nat.add_zero] at h; simp [iter, h, scan]
  | n + 1, i, 0, h, _, _ => by omega
  | n + 1, i, N + 1, h0, hs, he => by
    have h1 := hs i (by omega) (by omega)
    simp only [scan]
    cases hg : g i with
    | some r => rw [hg] at h1; simp [iter, h1]
    | none =>
      rw [hg] at h1
      simp only [iter, h1]
      exact iter_scanF st g r n (i + 1) N (by omega) (fun j a b => hs j (by omega) (by omega)) (by rw [← he]; congr 2; omega)
theorem loop_scanF {σ τ R : Type} {f : σ → Option (Step3 σ τ R)} {k : τ → Option R} {x : σ} (st : Nat → σ) (g : Nat → Option R) (r : R) (n : Nat) (hx : x = st 0) (hn : n < NN)
    (hs : ∀ j, j < n → f (st j) = match g j with | some r => some (.fin r) | none => some (.next (st (j + 1)))) (he : f (st n) = some (.fin r)) :
    andK (iter f NN x) k = some (match scan g n 0 with | some r' => r' | none => r) := by
  rw [hx, iter_scanF st g r n 0 NN hn (fun j _ h => hs j (by omega)) (by rw [Nat.zero_add]; exact he)]; rfl
def coverV (l : List S_Piece) : Int × Bool :=
  if l.length ≤ 4096 then (match scan (fun j => sw (badT l j) ((j : Int), false)) l.length 0 with | some r => r | none => ((l.length : Int), plc l l.length == 1048576))
  else (match scan (fun j => sw (badT l j) ((j : Int), false)) 4096 0 with | some r => r | none => (4096, false))
theorem cover_step (l : List S_Piece) {j : Nat} (hj : j < 4096) {σ τ : Type} {R : Type} (r : R) (x : Int → σ) :
    (Option.bind (ref19_begin_C (l.getD j default)).o fun y => andC (bif !y.2.2 then some (.out true) else bif y.1 != plc l j then some (.out true) else some (.out (decide ((j : Int) ≥ 4096))) : Option (Step3 Unit Bool (Step3 σ τ R))) fun z => bif z then some (.fin r) else some (.next (x (IntKind.i64.wrap (y.1 + y.2.1))))) =
      match sw (badT l j) r with | some r => some (.fin r) | none => some (.next (x (plc l (j + 1)))) := by
  rw [ref19_begin_e, Option.bind_some]
  unfold badT
  cases hb : begV (l.getD j default) with
  | none => rfl
  | some p =>
    obtain ⟨f, n⟩ := p
    have hr := begV_bd hb
    simp only [Bool.not_true, cond_false]
    by_cases h : f = plc l j
    · rw [bif_nne h, andC_out, decide_eq_false (by omega)]
      have e1 : (f != plc l j) = false := by simpa using h
      have e2 : plc l (j + 1) = f + n := by simp only [plc, hb]
      rw [e1, e2, w64 (by omega) (by omega)]; rfl
    · have e1 : (f != plc l j) = true := by simpa using h
      rw [bif_neq h, andC_out, e1]; rfl
theorem ref19_cover_e (l : List S_Piece) : (ref19_cover_C l).o = some (coverV l) := by
  show (ref19_cover_T l).run NN = _
  simp only [ref19_cover_T, T.run, coverV]
  by_cases h : l.length ≤ 4096
  · rw [if_pos h]
    refine (loop_scan (fun j => (plc l j, (j : Int))) (fun j => sw (badT l j) ((j : Int), false)) (plc l l.length) l.length rfl (show l.length < 4294967296 by omega) (fun j hj => ?_) ?_).trans ?_
    · rw [bif_dpos (by simpa using hj), grd_p ⟨by simp, by simpa using hj⟩]
      simp only [Int.toNat_natCast]
      rw [wn (by omega)]
      exact cover_step l (by omega) ((j : Int), false) (fun z => (z, ((j + 1 : Nat) : Int)))
    · rw [bif_dneg (by simp)]
    · cases scan (fun j => sw (badT l j) ((j : Int), false)) l.length 0 <;> rfl
  · rw [if_neg h]
    refine (loop_scanF (fun j => (plc l j, (j : Int))) (fun j => sw (badT l j) ((j : Int), false)) (4096, false) 4096 rfl (show 4096 < 4294967296 by omega) (fun j hj => ?_) ?_).trans ?_
    · rw [bif_dpos (by simp; omega), grd_p ⟨by simp, by simp; omega⟩]
      simp only [Int.toNat_natCast]
      rw [wn (by omega)]
      exact cover_step l (by omega) ((j : Int), false) (fun z => (z, ((j + 1 : Nat) : Int)))
    · rw [bif_dpos (by simp; omega), grd_p ⟨by simp, by simp; omega⟩, ref19_begin_e, Option.bind_some]
      cases (match begV (l.getD (Int.toNat ((4096 : Nat) : Int)) default) with | some (f, n) => (f, n, true) | none => (0, 0, false)).2.2
      · rfl
      · simp only [Bool.not_true, cond_false]
        cases ((match begV (l.getD (Int.toNat ((4096 : Nat) : Int)) default) with | some (f, n) => (f, n, true) | none => (0, 0, false)).1 != plc l 4096) <;> rfl
    · cases scan (fun j => sw (badT l j) ((j : Int), false)) 4096 0 <;> rfl
theorem tile_step (l : List S_Piece) {j : Nat} (hj : j < 4096) {σ τ R : Type} (r : R) (x : Int → σ) : ∀ y : S_Piece, y = l.getD j default →
    (andC (bif ((j : Int) == 4096) then some (.out true) else bif decide (y.Depth < 0) then some (.out true) else some (.out (decide (y.Depth > 20))) : Option (Step3 Unit Bool (Step3 σ τ R))) fun z1 =>
      bif z1 then some (.fin r) else andC (bif decide (y.Index < 0) then some (.out true) else grd (0 ≤ y.Depth) (some (.out (decide (y.Index ≥ IntKind.i64.wrap (1 * 2 ^ min y.Depth.toNat 64))))) : Option (Step3 Unit Bool (Step3 σ τ R))) fun z2 =>
      bif z2 then some (.fin r) else grd (0 ≤ y.Depth) (bif IntKind.i64.wrap (y.Index * (1048576 : Int).fdiv (2 ^ min y.Depth.toNat 64)) != plc l j then some (.fin r) else some (.next (x (IntKind.i64.wrap (plc l j + (1048576 : Int).fdiv (2 ^ min y.Depth.toNat 64))))))) =
      match sw (badT l j) r with | some r => some (.fin r) | none => some (.next (x (plc l (j + 1)))) := by
  intro y hy
  rw [bif_ne (by omega)]
  unfold badT
  by_cases h1 : y.Depth < 0
  · have : begV (l.getD j default) = none := by rw [← hy]; unfold begV; rw [if_neg (by omega)]
    rw [bif_dpos h1, andC_out, this]; rfl
  · rw [bif_dneg h1, andC_out]
    by_cases h2 : y.Depth > 20
    · have : begV (l.getD j default) = none := by rw [← hy]; unfold begV; rw [if_neg (by omega)]
      rw [bif_dpos h2, this]; rfl
    · rw [bif_dneg h2]
      by_cases h3 : y.Index < 0
      · have : begV (l.getD j default) = none := by rw [← hy]; unfold begV; rw [if_neg (by omega)]
        rw [bif_dpos h3, andC_out, this]; rfl
      · rw [bif_dneg h3, grd_p (by omega), andC_out, Nat.min_eq_left (by omega), w2k (by omega)]
        by_cases h4 : y.Index ≥ 2 ^ y.Depth.toNat
        · have : begV (l.getD j default) = none := by rw [← hy]; unfold begV; rw [if_neg (by omega)]
          rw [bif_dpos h4, this]; rfl
        · have hb : begV (l.getD j default) = some (y.Index * 2 ^ (20 - y.Depth.toNat), 2 ^ (20 - y.Depth.toNat)) := by rw [← hy]; unfold begV; rw [if_pos ⟨⟨by omega, by omega⟩, by omega, by omega⟩]
          have hr := begV_bd hb
          have hq : (1048576 : Int).fdiv (2 ^ y.Depth.toNat) = 2 ^ (20 - y.Depth.toNat) := by
            rw [fdiv_pow]
            have e : (1048576 : Int) = 2 ^ y.Depth.toNat * 2 ^ (20 - y.Depth.toNat) := by
              rw [← Int.pow_add, show y.Depth.toNat + (20 - y.Depth.toNat) = 20 by omega]; decide
            rw [e, Int.mul_ediv_cancel_left _ (by have := two_pow_pos y.Depth.toNat; omega)]
          have hp := plc_bd l j
          rw [bif_dneg h4, grd_p (by omega), hq, w64 (x := y.Index * _) (by omega) (by omega), w64 (x := plc l j + _) (by omega) (by omega)]
          simp only [hb]
          by_cases h : y.Index * 2 ^ (20 - y.Depth.toNat) = plc l j
          · have e1 : (y.Index * 2 ^ (20 - y.Depth.toNat) != plc l j) = false := by simpa using h
            have e2 : plc l (j + 1) = plc l j + 2 ^ (20 - y.Depth.toNat) := by rw [← h]; simp only [plc, hb]
            rw [bif_nne h, e1, e2]; rfl
          · have e1 : (y.Index * 2 ^ (20 - y.Depth.toNat) != plc l j) = true := by simpa using h
            rw [bif_neq h, e1]; rfl
theorem scan_map {R S : Type} {g : Nat → Bool} {r : Nat → R} {f : R → S} : ∀ (n i : Nat), scan (fun j => sw (g j) (f (r j))) n i = (scan (fun j => sw (g j) (r j)) n i).map f
  | 0, _ => rfl
  | n + 1, i => by
    simp only [scan]
    cases g i with
    | true => rfl
    | false => exact scan_map n (i + 1)
def tileV (l : List S_Piece) : Int × Int := bif (coverV l).2 then (0, 0) else ((coverV l).1, 2001)
theorem scan_snd {g : Nat → Bool} {n : Nat} {r : Int × Bool} (h : scan (fun j => sw (g j) ((j : Int), false)) n 0 = some r) : r.2 = false := by
  obtain ⟨j, -, -, h3, -⟩ := scan_some _ _ h
  cases hb : g j with
  | false => rw [hb] at h3; cases h3
  | true => rw [hb] at h3; simp only [sw, cond_true, Option.some.injEq] at h3; rw [← h3]
theorem replay_tiling_e (x : S_edgecheck_replay) : (replay_tiling_C x).o = some (tileV x.pieces) := by
  show (replay_tiling_T x).run NN = _
  generalize hl : x.pieces = l
  simp only [replay_tiling_T, T.run, hl, tileV, coverV]
  have em : ∀ n, scan (fun j => sw (badT l j) ((j : Int), (2001 : Int))) n 0 = (scan (fun j => sw (badT l j) ((j : Int), false)) n 0).map fun r => (r.1, 2001) := fun n => scan_map (r := fun j => ((j : Int), false)) (f := fun r => (r.1, (2001 : Int))) n 0
  by_cases h : l.length ≤ 4096
  · rw [if_pos h]
    refine (loop_scan (fun j => (plc l j, (j : Int))) (fun j => sw (badT l j) ((j : Int), 2001)) (plc l l.length) l.length rfl (show l.length < 4294967296 by omega) (fun j hj => ?_) ?_).trans ?_
    · rw [bif_dpos (by simpa using hj), grd_p ⟨by simp, by simpa using hj⟩]
      simp only [Int.toNat_natCast]
      rw [wn (by omega)]
      exact tile_step l (by omega) ((j : Int), 2001) (fun z => (z, ((j + 1 : Nat) : Int))) _ rfl
    · rw [bif_dneg (by simp)]
    · rw [em]
      cases hs : scan (fun j => sw (badT l j) ((j : Int), false)) l.length 0 with
      | none =>
        simp only [Option.map_none]
        by_cases hp : plc l l.length = 1048576
        · rw [bif_nne hp]; simp only [hp]; rfl
        · have e : (plc l l.length == 1048576) = false := by simpa using hp
          rw [bif_neq hp]; simp only [e]; rfl
      | some r => simp only [Option.map_some, scan_snd hs, cond_false]
  · rw [if_neg h]
    refine (loop_scanF (fun j => (plc l j, (j : Int))) (fun j => sw (badT l j) ((j : Int), 2001)) (4096, 2001) 4096 rfl (show 4096 < 4294967296 by omega) (fun j hj => ?_) ?_).trans ?_
    · rw [bif_dpos (by simp; omega), grd_p ⟨by simp, by simp; omega⟩]
      simp only [Int.toNat_natCast]
      rw [wn (by omega)]
      exact tile_step l (by omega) ((j : Int), 2001) (fun z => (z, ((j + 1 : Nat) : Int))) _ rfl
    · rw [bif_dpos (by simp; omega), grd_p ⟨by simp, by simp; omega⟩]; rfl
    · rw [em]
      cases hs : scan (fun j => sw (badT l j) ((j : Int), false)) 4096 0 with
      | none => rfl
      | some r => simp only [Option.map_some, scan_snd hs, cond_false]
theorem cover_ok {l : List S_Piece} (h : (coverV l).2 = true) : l.length ≤ 4096 ∧ ∀ j, j < l.length → begV (l.getD j default) ≠ none := by
  unfold coverV at h
  split at h
  · rename_i hl
    refine ⟨hl, fun j hj hn => ?_⟩
    split at h
    · rename_i hs; rw [scan_snd hs] at h; cases h
    · rename_i hs
      have := (scan_none _ _).1 hs j (Nat.zero_le _) (by omega)
      have hb : badT l j = true := by unfold badT; rw [hn]
      rw [hb] at this; cases this
  · split at h
    · rename_i hs; rw [scan_snd hs] at h; cases h
    · cases h

/-! ### The check of a motion -/
theorem inside_small {r : S_Robot} {c : List Int} (h : insideV r c = true) : smallV c = true ∧ c.length = r.Joints.length ∧ r.Joints.length ≤ 10 ∧ robotV r = 0 := by
  simp only [insideV, Bool.and_eq_true, decide_eq_true_eq] at h
  obtain ⟨h1, h2, h3⟩ := h
  refine ⟨noneB_iff.2 fun i hi => ?_, h2, (robotV_ok h1).2.1, h1⟩
  have := noneB_iff.1 h3 i hi
  have jo := robot_joint h1 (show i < r.Joints.length by omega)
  have rb := reach_bd (r.Joints.getD i default).Kind
  have jl := jo.lim
  simp only [outJ, Bool.or_eq_false_iff, decide_eq_false_iff_not] at this
  simp only [big1, Bool.or_eq_false_iff, decide_eq_false_iff_not]
  omega
theorem piece_ok {r : S_Robot} {p q : List Int} (hp : insideV r p = true) (hq : insideV r q = true) {x : S_Piece} (hx : begV x ≠ none) : pieceV p q x.Depth x.Index = (tab (pieceI p q x.Depth.toNat x.Index) p.length, true) := by
  have h1 := inside_small hp
  have h2 := inside_small hq
  unfold begV at hx
  split at hx
  · rename_i hc
    unfold pieceV
    rw [if_pos ⟨motionV_iff.2 ⟨h1.1, h2.1, by omega, by omega, by omega⟩, by omega, by omega⟩]
  · exact absurd rfl hx
theorem piece_len (p q : List Int) (d i : Int) (hp : p.length < 4294967296) : (pieceV p q d i).1.length < 4294967296 := by
  unfold pieceV; split
  · simp only [tab_len]; exact hp
  · simp [nl]
noncomputable def notF (s : S_Scene) (p q : List Int) (l : List S_Piece) (j : Nat) : Bool := !freeV s (pieceV p q (l.getD j default).Depth (l.getD j default).Index).1 (l.getD j default).Normals
noncomputable def checkV (s : S_Scene) (p q : List Int) (l : List S_Piece) : Int × Int :=
  if sceneV s ≠ 0 then (0, 904) else if (insideV s.Robot p && insideV s.Robot q) = false then (0, 1201) else if (coverV l).2 = false then ((coverV l).1, 2001) else
  match scan (fun j => sw (notF s p q l j) ((j : Int), (2002 : Int))) l.length 0 with | some r => r | none => (0, 0)
section
variable (s : S_Scene) (p q : List Int) (l : List S_Piece) (hp : p.length < 4294967296) (hq : q.length < 4294967296)
include hp hq
theorem ref19_CheckEdge_e : (ref19_CheckEdge_C s p q l).o = some (checkV s p q l) := by
  show (ref19_CheckEdge_T s p q l).run NN = _
  simp only [ref19_CheckEdge_T, T.run, ref6_CheckScene_e, Option.bind_some, checkV]
  by_cases h : sceneV s = 0
  · have er : (ref19_ready_C s p q).o = some (insideV s.Robot p && insideV s.Robot q) := by
      show (ref19_ready_T s p q).run NN = _
      simp only [ref19_ready_T, T.run, ref6_CheckScene_e, ref10_Inside_e, Option.bind_some]
      rw [bif_eq h]
      cases insideV s.Robot p <;> rfl
    rw [bif_nne h, if_neg (by simpa using h), er, Option.bind_some]
    cases hi : insideV s.Robot p && insideV s.Robot q
    · rfl
    · simp only [Bool.not_true, cond_false, ref19_cover_e, Option.bind_some, Bool.true_eq_false, if_false]
      cases hc : (coverV l).2
      · rfl
      · have hl := cover_ok hc
        simp only [Bool.not_true, cond_false, Bool.true_eq_false, if_false]
        refine (scanI (fun j => sw (notF s p q l j) ((j : Int), (2002 : Int))) l.length (by omega) (fun j hj => ?_) ?_).trans ?_
        · rw [bif_dpos (by omega), grd_p (by omega), grd_p (by omega), wn (by omega), Int.toNat_natCast, ← sw_fin]
          simp only [ref10_Piece_e p q _ _ hp hq, Option.bind_some]
          rw [grd_p (by omega)]
          simp only [ref14_CheckFree_e s _ _ (piece_len p q _ _ hp), Option.bind_some]; rfl
        · rw [bif_dneg (by omega)]
        · cases scan (fun j => sw (notF s p q l j) ((j : Int), (2002 : Int))) l.length 0 <;> rfl
  · rw [bif_neq h, if_pos h]
theorem edgecheck_Check_e : (edgecheck_Check_C s p q l).o = some (checkV s p q l) := by
  show (edgecheck_Check_T s p q l).run NN = _
  have e1 : (replay_valid_C ⟨s, p, q, l⟩).o = some (0, if sceneV s = 0 then 0 else 904) := by
    show (replay_valid_T ⟨s, p, q, l⟩).run NN = _
    simp only [replay_valid_T, T.run, scene_Check_e, Option.bind_some]
    by_cases h : sceneV s = 0
    · rw [bif_nne h, if_pos h]
    · rw [bif_neq h, if_neg h]
  have e2 : (replay_inside_C ⟨s, p, q, l⟩).o = some (0, bif insideV s.Robot p && insideV s.Robot q then 0 else 1201) := by
    show (replay_inside_T ⟨s, p, q, l⟩).run NN = _
    simp only [replay_inside_T, T.run, config_Inside_e, Option.bind_some, bif_out, andC_out]
    cases insideV s.Robot p <;> cases insideV s.Robot q <;> rfl
  simp only [edgecheck_Check_T, T.run, e1, Option.bind_some, checkV]
  rw [grd_p (by decide), grd_p (by decide), grd_p (by decide), grd_p (by decide)]
  by_cases h : sceneV s = 0
  · rw [if_pos h, if_neg (by simpa using h), bif_nne rfl, e2, Option.bind_some]
    cases hi : insideV s.Robot p && insideV s.Robot q
    · rfl
    · simp only [cond_true, Bool.true_eq_false, if_false, replay_tiling_e, Option.bind_some, tileV]
      rw [bif_nne rfl]
      cases hc : (coverV l).2
      · rfl
      · have hl := cover_ok hc
        simp only [Bool.and_eq_true] at hi
        simp only [cond_true, Bool.true_eq_false, if_false]
        rw [bif_nne rfl]
        have e3 : (replay_separated_C ⟨s, p, q, l⟩).o = some (match scan (fun j => sw (notF s p q l j) ((j : Int), (2002 : Int))) l.length 0 with | some r => r | none => (0, 0)) := by
          show (replay_separated_T ⟨s, p, q, l⟩).run NN = _
          simp only [replay_separated_T, T.run]
          refine (scanI (fun j => sw (notF s p q l j) ((j : Int), (2002 : Int))) l.length (by omega) (fun j hj => ?_) ?_).trans ?_
          · have ho := piece_ok hi.1 hi.2 (hl.2 j hj)
            rw [bif_dpos (by omega), grd_p (by omega), wn (by omega), Int.toNat_natCast, ← sw_fin]
            simp only [config_Piece_e p q _ _ hp hq, Option.bind_some]
            have ho2 : (pieceV p q (l.getD j default).Depth (l.getD j default).Index).2 = true := by rw [ho]
            rw [ho2]
            simp only [Bool.not_true, cond_false, classify_CheckFree_e s _ _ (piece_len p q _ _ hp), Option.bind_some, andC_out]; rfl
          · rw [bif_dneg (by omega)]
          · cases scan (fun j => sw (notF s p q l j) ((j : Int), (2002 : Int))) l.length 0 <;> rfl
        simp only [e3, Option.bind_some]
        cases hs : scan (fun j => sw (notF s p q l j) ((j : Int), (2002 : Int))) l.length 0 with
        | none => rfl
        | some r =>
          obtain ⟨j, -, -, h3, -⟩ := scan_some _ _ hs
          cases hb : notF s p q l j with
          | false => rw [hb] at h3; cases h3
          | true => rw [hb] at h3; simp only [sw, cond_true, Option.some.injEq] at h3; rw [← h3]; rfl
  · rw [if_neg h, if_pos h]; rfl
end
theorem checkV_ok {s : S_Scene} {p q : List Int} {l : List S_Piece} (h : (checkV s p q l).2 = 0) : sceneV s = 0 ∧ insideV s.Robot p = true ∧ insideV s.Robot q = true ∧ l.length ≤ 4096 := by
  unfold checkV at h
  split at h
  · cases h
  · rename_i h1
    split at h
    · cases h
    · rename_i h2
      split at h
      · cases h
      · rename_i h3
        simp only [Bool.not_eq_false, Bool.and_eq_true] at h2 h3
        exact ⟨by simpa using h1, h2.1, h2.2, (cover_ok h3).1⟩
end Go.Abs
