/-
  The labels of the reference: best walks.
-/
import Derived.Test.YtjbncekcklkjaaaGr3
namespace Go.Abs

abbrev lab (l : List S_ref23_label) (v : Int) : S_ref23_label := l.getD v.toNat default
def lessL (a b : S_ref23_label) : Prop := b.Cost < 0 ∨ a.Cost < b.Cost ∨ a.Cost = b.Cost ∧ a.Edges < b.Edges
instance (a b : S_ref23_label) : Decidable (lessL a b) := by unfold lessL; infer_instance

theorem less_ok (N : Nat) {a b : S_ref23_label} (h : 0 ≤ a.Cost) : ref23_less_F N a b = some (decide (lessL a b)) := by
  unfold ref23_less_F
  by_cases h1 : b.Cost < 0
  · rw [bif_dpos h1, andC_out, bif_pos (by rfl), bif_dpos (by omega), decide_eq_true h1, decide_eq_true (show lessL a b from .inl h1)]
  · rw [bif_dneg h1, andC_out, bif_dneg (by omega)]
    by_cases h2 : a.Cost < b.Cost
    · rw [bif_dpos h2, decide_eq_true (show lessL a b from .inr (.inl h2))]
    · rw [bif_dneg h2]
      by_cases h3 : a.Cost = b.Cost
      · rw [bif_eq h3]
        by_cases h4 : a.Edges < b.Edges
        · rw [decide_eq_true h4, decide_eq_true (show lessL a b from .inr (.inr ⟨h3, h4⟩))]
        · rw [decide_eq_false h4, decide_eq_false (by unfold lessL; omega)]
      · rw [bif_ne h3, decide_eq_false (by unfold lessL; omega)]

/-- One step: the label of q by way of p. -/
def relaxL (p q c : Int) (s : List S_ref23_label × Bool) : List S_ref23_label × Bool :=
  if (lab s.1 p).Cost < 0 then s else
  if lessL ⟨(lab s.1 p).Cost + c, (lab s.1 p).Edges + 1⟩ (lab s.1 q) then (s.1.set q.toNat ⟨(lab s.1 p).Cost + c, (lab s.1 p).Edges + 1⟩, true) else s

/-- The rounds of the innermost loop. -/
abbrev rlx {R : Type} (N : Nat) (c : Int) (x5037 : ((List S_ref23_label) × Bool × (List (Int × Int)) × Int)) : Option (Step3 ((List S_ref23_label) × Bool × (List (Int × Int)) × Int) ((List S_ref23_label) × Bool) R) :=
         bif (decide (x5037.2.2.2 < ((2 : Nat) : Int))) then
          andC (
           grd (0 ≤ x5037.2.2.2 ∧ x5037.2.2.2 < ((x5037.2.2.1.length : Nat) : Int)) <|
           grd ((x5037.2.2.2).toNat < x5037.2.2.1.length) <|
           grd (0 ≤ 0 ∧ 0 < ((2 : Nat) : Int)) <|
           grd (0 ≤ ((x5037.2.2.1.getD ((x5037.2.2.2).toNat) default).1) ∧ ((x5037.2.2.1.getD ((x5037.2.2.2).toNat) default).1) < ((x5037.1.length : Nat) : Int)) <|
           grd (((x5037.2.2.1.getD ((x5037.2.2.2).toNat) default).1).toNat < x5037.1.length) <|
           bif (decide (((x5037.1.getD (((x5037.2.2.1.getD ((x5037.2.2.2).toNat) default).1).toNat) default).Cost) < 0)) then
            some (.out (x5037.1, x5037.2.1))
           else
            (fun z5062 =>
            grd (0 ≤ 1 ∧ 1 < ((2 : Nat) : Int)) <|
             grd (0 ≤ ((x5037.2.2.1.getD ((x5037.2.2.2).toNat) default).2) ∧ ((x5037.2.2.1.getD ((x5037.2.2.2).toNat) default).2) < ((x5037.1.length : Nat) : Int)) <|
             grd (((x5037.2.2.1.getD ((x5037.2.2.2).toNat) default).2).toNat < x5037.1.length) <|
             (ref23_less_F N (⟨z5062, (IntKind.i64.wrap (((x5037.1.getD (((x5037.2.2.1.getD ((x5037.2.2.2).toNat) default).1).toNat) default).Edges) + 1))⟩ : S_ref23_label) (x5037.1.getD (((x5037.2.2.1.getD ((x5037.2.2.2).toNat) default).2).toNat) default)).bind fun y5064 =>
             bif y5064 then
              grd (0 ≤ 1 ∧ 1 < ((2 : Nat) : Int)) <|
              grd (0 ≤ ((x5037.2.2.1.getD ((x5037.2.2.2).toNat) default).2) ∧ ((x5037.2.2.1.getD ((x5037.2.2.2).toNat) default).2) < ((x5037.1.length : Nat) : Int)) <|
              grd (((x5037.2.2.1.getD ((x5037.2.2.2).toNat) default).2).toNat < x5037.1.length ∧ 0 ≤ ((x5037.2.2.1.getD ((x5037.2.2.2).toNat) default).2).toNat) <|
              some (.out ((x5037.1.set (((x5037.2.2.1.getD ((x5037.2.2.2).toNat) default).2).toNat) (⟨z5062, (IntKind.i64.wrap (((x5037.1.getD (((x5037.2.2.1.getD ((x5037.2.2.2).toNat) default).1).toNat) default).Edges) + 1))⟩ : S_ref23_label)), true))
             else
              some (.out (x5037.1, x5037.2.1))) ((IntKind.i64.wrap (((x5037.1.getD (((x5037.2.2.1.getD ((x5037.2.2.2).toNat) default).1).toNat) default).Cost) + c))) : Option (Step3 Unit ((List S_ref23_label) × Bool) _)) fun y5060 =>
          some (.next (y5060.1, y5060.2, x5037.2.2.1, (IntKind.i64.wrap (x5037.2.2.2 + 1))))
         else
          some (.out (x5037.1, x5037.2.1))

/-- Labels are in range. -/
def LB (l : List S_ref23_label) : Prop := ∀ v : Int, 0 ≤ v → v < (l.length : Int) → (lab l v).Cost < 0 ∨ (0 ≤ (lab l v).Cost ∧ (lab l v).Cost ≤ 4000000000000000000 ∧ 0 ≤ (lab l v).Edges ∧ (lab l v).Edges ≤ 1000000000)

theorem rlx_one {R : Type} (N : Nat) {c p q : Int} {l : List S_ref23_label} {ag : Bool} {ps : List (Int × Int)} {j : Nat} (hj : j < 2) (hp : ps.length = 2) (hpq : ps.getD j default = (p, q)) (hc : 0 ≤ c ∧ c ≤ 1099511627776)
    (h1 : 0 ≤ p ∧ p < (l.length : Int)) (h2 : 0 ≤ q ∧ q < (l.length : Int)) (hl : LB l) :
    rlx (R := R) N c (l, ag, ps, (j : Int)) = some (.next ((relaxL p q c (l, ag)).1, (relaxL p q c (l, ag)).2, ps, ((j + 1 : Nat) : Int))) := by
  unfold rlx relaxL
  simp only
  rw [bif_dpos (by omega), grd_pos (by omega), grd_pos (by omega), grd_pos (by omega), Int.toNat_natCast, hpq]
  simp only
  rw [grd_pos (by omega), grd_pos (by omega)]
  have hlp := hl p h1.1 h1.2
  by_cases hn : (lab l p).Cost < 0
  · rw [bif_dpos hn, andC_out, if_pos hn, w64n (by omega)]
  · rw [bif_dneg hn, if_neg hn, grd_pos (by omega), grd_pos (by omega), grd_pos (by omega), w64 (x := (lab l p).Cost + c) (by omega) (by omega), w64 (x := (lab l p).Edges + 1) (by omega) (by omega), less_ok N (by simp only; omega), Option.bind_some]
    by_cases hls : lessL ⟨(lab l p).Cost + c, (lab l p).Edges + 1⟩ (lab l q)
    · rw [bif_dpos hls, if_pos hls, grd_pos (by omega), grd_pos (by omega), grd_pos (by omega), andC_out, w64n (by omega)]
    · rw [bif_dneg hls, if_neg hls, andC_out, w64n (by omega)]

section
variable {m : S_Roadmap} {mode t : Int}
local instance : Inhabited Int := ⟨0⟩

/-- What holds of labels at every time. -/
def LOk (m : S_Roadmap) (mode t B : Int) (l : List S_ref23_label) : Prop :=
  l.length = m.Points.length ∧ lab l t = ⟨0, 0⟩ ∧ ∀ v : Int, 0 ≤ v → v < (l.length : Int) → (lab l v).Cost < 0 ∨ (Walk (Eg m mode) t v (lab l v).Cost (lab l v).Edges ∧ (lab l v).Edges ≤ B)
/-- Labels of best walks with few edges are known. -/
def Fin' (m : S_Roadmap) (mode t r : Int) (l : List S_ref23_label) : Prop := ∀ v c k, Best (Eg m mode) t v c k → k ≤ r → lab l v = ⟨c, k⟩
/-- No better label of q by way of p. -/
def Sat' (l : List S_ref23_label) (p q c : Int) : Prop := 0 ≤ (lab l p).Cost → 0 ≤ (lab l q).Cost ∧ ((lab l q).Cost < (lab l p).Cost + c ∨ (lab l q).Cost = (lab l p).Cost + c ∧ (lab l q).Edges ≤ (lab l p).Edges + 1)
def LMono (l l' : List S_ref23_label) : Prop := ∀ v : Int, 0 ≤ (lab l v).Cost → 0 ≤ (lab l' v).Cost ∧ ((lab l' v).Cost < (lab l v).Cost ∨ (lab l' v).Cost = (lab l v).Cost ∧ (lab l' v).Edges ≤ (lab l v).Edges)

theorem LOk.LB (hw : WF m) {B : Int} (hB : B ≤ 1000000) {l : List S_ref23_label} (h : LOk m mode t B l) : LB l := by
  intro v h0 h1
  rcases h.2.2 v h0 h1 with h2 | ⟨h2, h3⟩
  · exact .inl h2
  · have h4 := h2.ge (Eg.graph hw mode)
    have h5 := h2.le (Eg.graph hw mode)
    have : (lab l v).Edges * 1099511627776 ≤ 1000000 * 1099511627776 := Int.mul_le_mul_of_nonneg_right (by omega) (by omega)
    exact .inr ⟨h4.1, by omega, h4.2, by omega⟩

theorem lab_set {l : List S_ref23_label} {q v : Int} {x : S_ref23_label} (hq : 0 ≤ q ∧ q < (l.length : Int)) (hv : 0 ≤ v) : lab (l.set q.toNat x) v = if v = q then x else lab l v := by
  unfold lab
  rw [getD_set (by omega)]
  by_cases h : v = q
  · subst h; rw [if_pos rfl, if_pos rfl]
  · rw [if_neg (by omega), if_neg h]

theorem relax_inv (hw : WF m) (ht : 0 ≤ t ∧ t < (m.Points.length : Int)) {B r c p q : Int} {l : List S_ref23_label} {ag : Bool} (h : LOk m mode t B l) (hf : Fin' m mode t r l) (he : Eg m mode q p c) (hpq : p ≠ q) :
    LOk m mode t (B + 1) (relaxL p q c (l, ag)).1 ∧ Fin' m mode t r (relaxL p q c (l, ag)).1 ∧ LMono l (relaxL p q c (l, ag)).1 ∧ Sat' (relaxL p q c (l, ag)).1 p q c ∧
      ((relaxL p q c (l, ag)).2 = ag ∨ ((relaxL p q c (l, ag)).2 = true ∧ r < (m.Points.length : Int))) ∧ ((relaxL p q c (l, ag)).2 = false → (relaxL p q c (l, ag)).1 = l ∧ ag = false) := by
  have g := Eg.graph hw mode
  obtain ⟨q0, q1, p0, p1⟩ := g.lt _ _ _ he
  have hce := g.cost _ _ _ he
  obtain ⟨hl, hlt, hlw⟩ := h
  have same : ∀ s : List S_ref23_label × Bool, s = (l, ag) → (0 ≤ (lab l p).Cost → ¬ lessL ⟨(lab l p).Cost + c, (lab l p).Edges + 1⟩ (lab l q)) →
      LOk m mode t (B + 1) s.1 ∧ Fin' m mode t r s.1 ∧ LMono l s.1 ∧ Sat' s.1 p q c ∧ (s.2 = ag ∨ (s.2 = true ∧ r < (m.Points.length : Int))) ∧ (s.2 = false → s.1 = l ∧ ag = false) := by
    rintro s rfl hns
    refine ⟨⟨hl, hlt, fun v h0 h1 => ?_⟩, hf, fun v hv => ⟨hv, .inr ⟨rfl, Int.le_refl _⟩⟩, fun h0 => ?_, .inl rfl, fun h => ⟨rfl, h⟩⟩
    · rcases hlw v h0 h1 with h2 | ⟨h2, h3⟩
      · exact .inl h2
      · exact .inr ⟨h2, Int.le_trans h3 (by omega)⟩
    · have := hns h0
      unfold lessL at this
      simp only at this ⊢
      omega
  unfold relaxL
  simp only
  by_cases hn : (lab l p).Cost < 0
  · rw [if_pos hn]; exact same _ rfl (fun h => by omega)
  · rw [if_neg hn]
    by_cases hls : lessL ⟨(lab l p).Cost + c, (lab l p).Edges + 1⟩ (lab l q)
    · rw [if_pos hls]
      simp only
      obtain ⟨hwp, hep⟩ := (hlw p p0 (by omega)).resolve_left hn
      have hwq := Walk.cons he hwp
      have hql : 0 ≤ q ∧ q < (l.length : Int) := ⟨q0, by omega⟩
      have hset : ∀ v : Int, 0 ≤ v → lab (l.set q.toNat ⟨(lab l p).Cost + c, (lab l p).Edges + 1⟩) v = if v = q then ⟨(lab l p).Cost + c, (lab l p).Edges + 1⟩ else lab l v := fun v hv => lab_set hql hv
      -- the best label of q is not known yet
      obtain ⟨cb, kb, hb⟩ := Best.exists g hwq
      have hkb : r < kb := by
        refine Classical.byContradiction fun hc => ?_
        have h1 := hf q cb kb hb (by omega)
        have h2 := hb.2 _ _ hwq
        have h3 := hb.1.ge g
        rw [h1] at hls
        unfold lessL at hls
        simp only at hls
        omega
      have hkn := hb.few g ht
      have hqt : q ≠ t := fun e => by
        subst e
        have h1 := hwp.ge g
        rw [hlt] at hls
        unfold lessL at hls
        simp only at hls
        omega
      refine ⟨⟨by simpa using hl, by rw [hset t ht.1, if_neg (fun e => hqt e.symm)]; exact hlt, fun v h0 h1 => ?_⟩, fun v c' k hbv hk => ?_, fun v hv => ?_, fun h0 => ?_, .inr ⟨by trivial, by omega⟩, by simp⟩
      · rw [hset v h0]
        by_cases hvq : v = q
        · rw [if_pos hvq]; subst hvq; exact .inr ⟨hwq, by simp only; omega⟩
        · rw [if_neg hvq]
          rcases hlw v h0 (by simpa using h1) with h2 | ⟨h2, h3⟩
          · exact .inl h2
          · exact .inr ⟨h2, by omega⟩
      · have hv := hbv.1.lt g ht
        rw [hset v hv.1, if_neg (fun e => ?_)]
        · exact hf v c' k hbv hk
        · subst e
          have := hb.unique hbv
          omega
      · by_cases hv0 : 0 ≤ v
        · rw [hset v hv0]
          by_cases hvq : v = q
          · subst hvq
            rw [if_pos rfl]
            unfold lessL at hls
            simp only at hls ⊢
            have := hwp.ge g
            omega
          · rw [if_neg hvq]; exact ⟨hv, .inr ⟨rfl, Int.le_refl _⟩⟩
        · have e1 : v.toNat = 0 := by omega
          by_cases hq0 : q = 0
          · subst hq0
            have : lab (l.set (0 : Int).toNat ⟨(lab l p).Cost + c, (lab l p).Edges + 1⟩) v = lab (l.set (0 : Int).toNat ⟨(lab l p).Cost + c, (lab l p).Edges + 1⟩) 0 := by unfold lab; rw [e1]; rfl
            have e2 : lab l v = lab l 0 := by unfold lab; rw [e1]; rfl
            rw [this, hset 0 (by omega), if_pos rfl, e2]
            rw [e2] at hv
            unfold lessL at hls
            simp only at hls ⊢
            have := hwp.ge g
            omega
          · have : lab (l.set q.toNat ⟨(lab l p).Cost + c, (lab l p).Edges + 1⟩) v = lab l v := by
              unfold lab; rw [getD_set (by omega), if_neg (by omega)]
            rw [this]; exact ⟨hv, .inr ⟨rfl, Int.le_refl _⟩⟩
      · rw [hset q q0, hset p p0, if_pos rfl, if_neg hpq]
        have := hwp.ge g
        exact ⟨by simp only; omega, .inr ⟨rfl, Int.le_refl _⟩⟩
    · rw [if_neg hls]; exact same _ rfl (fun _ => hls)

theorem rlx_two {R : Type} (N : Nat) (hN : 3 ≤ N) (hw : WF m) (ht : 0 ≤ t ∧ t < (m.Points.length : Int)) {B r : Int} (hB : B + 1 ≤ 1000000) {l : List S_ref23_label} {ag : Bool} (h : LOk m mode t B l) (hf : Fin' m mode t r l) {i : Nat} (hi : i < m.Edges.length)
    (hu : usableB (m.Edges.getD i default).State mode = true) :
    iter (rlx (R := R) N (m.Edges.getD i default).Cost) N (l, ag, [((m.Edges.getD i default).U, (m.Edges.getD i default).V), ((m.Edges.getD i default).V, (m.Edges.getD i default).U)], 0) =
      some (.inl (relaxL (m.Edges.getD i default).V (m.Edges.getD i default).U (m.Edges.getD i default).Cost (relaxL (m.Edges.getD i default).U (m.Edges.getD i default).V (m.Edges.getD i default).Cost (l, ag)))) := by
  obtain ⟨o1, o2, o3, o4, o5⟩ := (hw i hi).1
  obtain ⟨M, rfl⟩ : ∃ M, N = M + 3 := ⟨N - 3, by omega⟩
  have he : Eg m mode (m.Edges.getD i default).V (m.Edges.getD i default).U (m.Edges.getD i default).Cost := ⟨i, hi, hu, rfl, .inr ⟨rfl, rfl⟩⟩
  have hl := h.1
  have h1 := rlx_one (R := R) (M + 3) (c := (m.Edges.getD i default).Cost) (l := l) (ag := ag) (j := 0) (ps := [((m.Edges.getD i default).U, (m.Edges.getD i default).V), ((m.Edges.getD i default).V, (m.Edges.getD i default).U)]) (by omega) rfl rfl ⟨o4, o5⟩ ⟨by omega, by omega⟩ ⟨by omega, by omega⟩ (h.LB hw (by omega))
  obtain ⟨k1, k2, _⟩ := relax_inv (ag := ag) hw ht h hf he (by omega)
  generalize relaxL (m.Edges.getD i default).U (m.Edges.getD i default).V (m.Edges.getD i default).Cost (l, ag) = s1 at h1 k1 k2 ⊢
  obtain ⟨l1, a1⟩ := s1
  have hl1 : l1.length = m.Points.length := k1.1
  have h2 := rlx_one (R := R) (M + 3) (c := (m.Edges.getD i default).Cost) (l := l1) (ag := a1) (j := 1) (ps := [((m.Edges.getD i default).U, (m.Edges.getD i default).V), ((m.Edges.getD i default).V, (m.Edges.getD i default).U)]) (by omega) rfl rfl ⟨o4, o5⟩ ⟨by omega, by omega⟩ ⟨by omega, by omega⟩ (k1.LB hw (by omega))
  generalize relaxL (m.Edges.getD i default).V (m.Edges.getD i default).U (m.Edges.getD i default).Cost (l1, a1) = s2 at h2 ⊢
  exact ((iter_next (f := rlx (R := R) (M + 3) (m.Edges.getD i default).Cost) (N := M + 2) h1).trans (iter_next (f := rlx (R := R) (M + 3) (m.Edges.getD i default).Cost) (N := M + 1) h2)).trans rfl

/-- Edge j has been seen: labels by way of known best walks. -/
def Done (m : S_Roadmap) (mode t r : Int) (l : List S_ref23_label) (j : Nat) : Prop :=
  usableB (m.Edges.getD j default).State mode = true → ∀ p q, ((m.Edges.getD j default).U = p ∧ (m.Edges.getD j default).V = q ∨ (m.Edges.getD j default).U = q ∧ (m.Edges.getD j default).V = p) → ∀ c k, Best (Eg m mode) t p c k → k ≤ r →
    0 ≤ (lab l q).Cost ∧ ((lab l q).Cost < c + (m.Edges.getD j default).Cost ∨ (lab l q).Cost = c + (m.Edges.getD j default).Cost ∧ (lab l q).Edges ≤ k + 1)
def SatE (m : S_Roadmap) (mode : Int) (l : List S_ref23_label) (j : Nat) : Prop :=
  usableB (m.Edges.getD j default).State mode = true → Sat' l (m.Edges.getD j default).U (m.Edges.getD j default).V (m.Edges.getD j default).Cost ∧ Sat' l (m.Edges.getD j default).V (m.Edges.getD j default).U (m.Edges.getD j default).Cost

theorem Done.mono {r : Int} {l l' : List S_ref23_label} {j : Nat} (h : Done m mode t r l j) (hm : LMono l l') : Done m mode t r l' j := by
  intro hu p q hpq c k hb hk
  have h1 := h hu p q hpq c k hb hk
  have h2 := hm q h1.1
  omega

theorem labels_ok (N : Nat) (m : S_Roadmap) (mode t : Int) (hs : Small m) (hw : WF m) (ht : 0 ≤ t ∧ t < (m.Points.length : Int)) (hN : 100000 ≤ N) :
    ∃ l, ref23_labels_F N m t mode = some l ∧ l.length = m.Points.length ∧ ∀ v : Int, 0 ≤ v → v < (m.Points.length : Int) →
      ((lab l v).Cost < 0 ∧ ∀ c k, ¬ Walk (Eg m mode) t v c k) ∨ Best (Eg m mode) t v (lab l v).Cost (lab l v).Edges := by
  have g := Eg.graph hw mode
  obtain ⟨hs1, hs2⟩ := hs
  unfold ref23_labels_F
  rw [grd_pos (by omega)]
  refine loopX (g := fun l => l) (fun k (x : List S_ref23_label × Int) => ∃ i : Nat, x.2 = (i : Int) ∧ i + k = m.Points.length ∧ x.1.length = m.Points.length ∧ ∀ v, v < i → (x.1.getD v default).Cost < 0)
    (fun l => l.length = m.Points.length ∧ ∀ v, v < m.Points.length → (l.getD v default).Cost < 0) m.Points.length ⟨0, rfl, by omega, by simp, fun v hv => by omega⟩ (by omega) ?_ ?_
  · rintro k ⟨l, x⟩ ⟨i, hx, hi, hl, hn⟩
    simp only at hx hl hn
    subst hx
    dsimp only
    by_cases hlt : i < l.length
    · left
      rw [bif_dpos (by omega), grd_pos (by omega), Int.toNat_natCast, grd_pos (by omega), w64n (by omega)]
      refine ⟨_, rfl, k - 1, by omega, i + 1, rfl, by omega, by simpa using hl, fun v hv => ?_⟩
      dsimp only
      rw [getD_set hlt]
      by_cases hvi : v = i
      · rw [if_pos hvi]; show (-1 : Int) < 0; decide
      · rw [if_neg hvi]; exact hn v (by omega)
    · right
      rw [bif_dneg (by omega)]
      exact ⟨_, rfl, hl, fun v hv => hn v (by omega)⟩
  · rintro y ⟨hyl, hyn⟩
    rw [grd_pos (by omega), grd_pos (by omega)]
    have hset : ∀ v : Int, 0 ≤ v → lab (y.set t.toNat ⟨0, 0⟩) v = if v = t then ⟨0, 0⟩ else lab y v := fun v hv => lab_set ⟨ht.1, by omega⟩ hv
    refine loopX (g := fun l => l) (fun k (x : List S_ref23_label × Bool) => ∃ r : Nat, r + k = m.Points.length + 2 ∧ r ≤ m.Points.length + 1 ∧ LOk m mode t (2 * m.Edges.length * r) x.1 ∧ Fin' m mode t r x.1 ∧ (x.2 = false → ∀ j, j < m.Edges.length → SatE m mode x.1 j) ∧ (r = m.Points.length + 1 → x.2 = false))
      (fun l => LOk m mode t (2 * m.Edges.length * (m.Points.length + 1)) l ∧ ∀ j, j < m.Edges.length → SatE m mode l j) (m.Points.length + 2) ⟨0, by omega, by omega, ⟨by simpa using hyl, by rw [hset t ht.1, if_pos rfl], fun v h0 h1 => ?_⟩, fun v c k hb hk => ?_, by simp, by simp⟩ (by omega) ?_ ?_
    · rw [hset v h0]
      by_cases hvt : v = t
      · rw [if_pos hvt]; subst hvt; exact .inr ⟨.nil, by simp⟩
      · rw [if_neg hvt]; simp only [List.length_set] at h1; exact .inl (hyn v.toNat (by omega))
    · have h1 := hb.1.ge g
      obtain ⟨rfl, rfl⟩ := hb.1.zero g (by omega)
      have : k = 0 := by omega
      subst this
      rw [hset v ht.1, if_pos rfl]
    · rintro k ⟨l, ag⟩ ⟨r, hr, hrn, hlok, hfin, hsat, hlast⟩
      simp only at hlok hfin hsat hlast
      dsimp only
      cases ag with
      | false =>
        right
        rw [bif_neg (by rfl)]
        refine ⟨_, rfl, ⟨hlok.1, hlok.2.1, fun v h0 h1 => ?_⟩, hsat rfl⟩
        rcases hlok.2.2 v h0 h1 with h2 | ⟨h2, h3⟩
        · exact .inl h2
        · refine .inr ⟨h2, Int.le_trans h3 ?_⟩
          exact Int.mul_le_mul_of_nonneg_left (by omega) (by omega)
      | true =>
        left
        rw [bif_pos (by rfl)]
        have hrn' : r ≤ m.Points.length := by
          by_cases h : r = m.Points.length + 1
          · exact absurd (hlast h) (by simp)
          · omega
        have hB : (2 * m.Edges.length * r : Int) ≤ 40000 := by
          have h1 : (2 * m.Edges.length * r : Int) ≤ 2 * m.Edges.length * 100 := Int.mul_le_mul_of_nonneg_left (by omega) (by omega)
          omega
        refine loopX (g := Step3.next) (fun k' (x : List S_ref23_label × Bool × Int) => ∃ i : Nat, x.2.2 = (i : Int) ∧ i + k' = m.Edges.length ∧ LOk m mode t (2 * m.Edges.length * r + 2 * i) x.1 ∧ Fin' m mode t r x.1 ∧ (∀ j, j < i → Done m mode t r x.1 j) ∧
            (x.2.1 = true → r < m.Points.length) ∧ (x.2.1 = false → ∀ j, j < i → SatE m mode x.1 j))
          (fun x => LOk m mode t (2 * m.Edges.length * r + 2 * m.Edges.length) x.1 ∧ Fin' m mode t r x.1 ∧ (∀ j, j < m.Edges.length → Done m mode t r x.1 j) ∧
            (x.2 = true → r < m.Points.length) ∧ (x.2 = false → ∀ j, j < m.Edges.length → SatE m mode x.1 j)) m.Edges.length ⟨0, rfl, by omega, by simpa using hlok, hfin, fun j hj => by omega, by simp, fun _ j hj => by omega⟩ (by omega) ?_ ?_
        · rintro k' ⟨l', ag', x⟩ ⟨i, hx, hi, q1, q2, q3, q4, q5⟩
          simp only at hx q1 q2 q3 q4 q5
          subst hx
          dsimp only
          by_cases hlt : i < m.Edges.length
          · left
            rw [bif_dpos (by omega), grd_pos (by omega), Int.toNat_natCast, usableIn_ok, Option.bind_some]
            by_cases hu : usableB (m.Edges.getD i default).State mode = true
            · rw [bif_neg (by rw [hu]; rfl)]
              have htwo := rlx_two (R := Step3 Unit (List S_ref23_label × Bool) (Step3 (List S_ref23_label × Bool × Int) (List S_ref23_label × Bool) (Step3 (List S_ref23_label × Bool) (List S_ref23_label) (List S_ref23_label)))) N (by omega) hw ht (by omega) q1 q2 (ag := ag') hlt hu
              obtain ⟨o1, o2, o3, o4, o5⟩ := (hw i hlt).1
              have he1 : Eg m mode (m.Edges.getD i default).V (m.Edges.getD i default).U (m.Edges.getD i default).Cost := ⟨i, hlt, hu, rfl, .inr ⟨rfl, rfl⟩⟩
              obtain ⟨k1, k2, k3, k4, k5, k6⟩ := relax_inv (ag := ag') hw ht q1 q2 he1 (by omega)
              have he2 := g.sym _ _ _ he1
              generalize hs1 : relaxL (m.Edges.getD i default).U (m.Edges.getD i default).V (m.Edges.getD i default).Cost (l', ag') = s1 at htwo k1 k2 k3 k4 k5 k6
              obtain ⟨l1, a1⟩ := s1
              simp only at k1 k2 k3 k4 k5 k6
              obtain ⟨j1, j2, j3, j4, j5, j6⟩ := relax_inv (ag := a1) hw ht k1 k2 he2 (by omega)
              generalize hs2 : relaxL (m.Edges.getD i default).V (m.Edges.getD i default).U (m.Edges.getD i default).Cost (l1, a1) = s2 at htwo j1 j2 j3 j4 j5 j6
              obtain ⟨l2, a2⟩ := s2
              simp only at j1 j2 j3 j4 j5 j6
              rw [andK_inl htwo, andC_out, w64n (by omega)]
              have hmono : LMono l' l2 := fun v hv => by
                have h1 := k3 v hv
                have h2 := j3 v h1.1
                omega
              refine ⟨_, rfl, k' - 1, by omega, i + 1, rfl, by omega, by simpa [show (2 * m.Edges.length * r + 2 * i + 1 + 1 : Int) = 2 * m.Edges.length * r + 2 * ((i + 1 : Nat) : Int) by omega] using j1, j2, fun j hj => ?_, fun ha => ?_, fun ha j hj => ?_⟩
              · by_cases hji : j = i
                · subst hji
                  intro _ p q hpq c k hb hk
                  rcases hpq with ⟨rfl, rfl⟩ | ⟨rfl, rfl⟩
                  · have e1 := k2 _ _ _ hb hk
                    have e0 := hb.1.ge g
                    unfold Sat' at k4
                    rw [e1] at k4
                    have h1 := k4 e0.1
                    have h2 := j3 _ h1.1
                    simp only at h1
                    dsimp only
                    omega
                  · have e1 := j2 _ _ _ hb hk
                    have e0 := hb.1.ge g
                    unfold Sat' at j4
                    rw [e1] at j4
                    have h1 := j4 e0.1
                    simp only at h1
                    exact h1
                · exact (q3 j (by omega)).mono hmono
              · simp only at ha
                rcases j5 with h | h
                · rw [ha] at h
                  rcases k5 with h' | h'
                  · rw [← h] at h'; exact q4 h'.symm
                  · omega
                · omega
              · simp only at ha
                obtain ⟨rfl, rfl⟩ := j6 ha
                obtain ⟨rfl, rfl⟩ := k6 rfl
                by_cases hji : j = i
                · subst hji; intro _; exact ⟨k4, j4⟩
                · exact q5 rfl j (by omega)
            · have huf : usableB (m.Edges.getD i default).State mode = false := by simpa using hu
              rw [huf, bif_pos (by rfl), andC_out, w64n (by omega)]
              refine ⟨_, rfl, k' - 1, by omega, i + 1, rfl, by omega, ⟨q1.1, q1.2.1, fun v h0 h1 => ?_⟩, q2, fun j hj => ?_, q4, fun ha j hj => ?_⟩
              · rcases q1.2.2 v h0 h1 with h2 | ⟨h2, h3⟩
                · exact .inl h2
                · exact .inr ⟨h2, Int.le_trans h3 (by omega)⟩
              · by_cases hji : j = i
                · subst hji; intro h; exact absurd h hu
                · exact q3 j (by omega)
              · by_cases hji : j = i
                · subst hji; intro h; exact absurd h hu
                · exact q5 ha j (by omega)
          · right
            rw [bif_dneg (by omega)]
            have hie : i = m.Edges.length := by omega
            subst hie
            exact ⟨_, rfl, q1, q2, q3, q4, q5⟩
        · rintro ⟨l', ag'⟩ ⟨q1, q2, q3, q4, q5⟩
          simp only at q1 q2 q3 q4 q5
          refine ⟨_, rfl, k - 1, by omega, r + 1, by omega, by omega, ?_, fun v c kk hb hk => ?_, q5, fun h => ?_⟩
          · have : (2 * m.Edges.length * ((r + 1 : Nat) : Int) : Int) = 2 * m.Edges.length * r + 2 * m.Edges.length := by
              rw [show ((r + 1 : Nat) : Int) = (r : Int) + 1 by omega, Int.mul_add]; omega
            rw [this]; exact q1
          · by_cases hkr : kk ≤ r
            · exact q2 v c kk hb hkr
            · obtain ⟨u, e, ⟨j, hj, hu, hc, hpq⟩, hbu⟩ := hb.step (by omega)
              have h1 := q3 j hj hu u v (by omega) _ _ hbu (by omega)
              have hv := hb.1.lt g ht
              have hq1l := q1.1
              rcases q1.2.2 v hv.1 (by omega) with h2 | ⟨h2, _⟩
              · omega
              · have h3 := hb.2 _ _ h2
                have e1 : (lab l' v).Cost = c := by omega
                have e2 : (lab l' v).Edges = kk := by omega
                generalize lab l' v = z at e1 e2
                obtain ⟨z1, z2⟩ := z
                simp only at e1 e2
                rw [e1, e2]
          · cases ag' with
            | false => rfl
            | true => have := q4 rfl; omega
    · rintro l ⟨hlok, hsat⟩
      refine ⟨l, rfl, hlok.1, fun v h0 h1 => ?_⟩
      have hclosed : ∀ v c k, Walk (Eg m mode) t v c k → 0 ≤ (lab l v).Cost ∧ ((lab l v).Cost < c ∨ (lab l v).Cost = c ∧ (lab l v).Edges ≤ k) := by
        intro v c k hwk
        refine closed_le (lc := fun v => (lab l v).Cost) (lk := fun v => (lab l v).Edges) (isSet := fun v => 0 ≤ (lab l v).Cost) ?_ ?_ hwk
        · rw [hlok.2.1]; simp
        · rintro v u e ⟨j, hj, hu, hc, hpq⟩ hset
          obtain ⟨s1, s2⟩ := hsat j hj hu
          rcases hpq with ⟨rfl, rfl⟩ | ⟨rfl, rfl⟩
          · have := s2 hset; rw [hc] at this; exact this
          · have := s1 hset; rw [hc] at this; exact this
      have hll := hlok.1
      rcases hlok.2.2 v h0 (by omega) with h2 | ⟨h2, _⟩
      · refine .inl ⟨h2, fun c k hwk => ?_⟩
        have := (hclosed v c k hwk).1
        omega
      · exact .inr ⟨h2, fun c' k' hwk => (hclosed v c' k' hwk).2⟩
end
end Go.Abs
