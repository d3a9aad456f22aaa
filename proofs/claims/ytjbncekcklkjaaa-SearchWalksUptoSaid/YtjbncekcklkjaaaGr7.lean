/-
  Shortest and Next: the program and the reference agree.
-/
import Derived.Test.YtjbncekcklkjaaaGr4
import Derived.Test.YtjbncekcklkjaaaGr6
namespace Go.Abs

def Asked (m : S_Roadmap) (fr t : Int) : Prop := WF m ∧ (0 ≤ fr ∧ fr < (m.Points.length : Int)) ∧ (0 ≤ t ∧ t < (m.Points.length : Int))
/-- What Shortest returns where it is asked. -/
def Routed (m : S_Roadmap) (fr t mode : Int) (r : S_Route × Bool) : Prop :=
  (r.2 = false ∧ r.1 = ⟨nl, 0⟩ ∧ ∀ c k, ¬ Walk (Eg m mode) t fr c k) ∨ (r.2 = true ∧ ∃ c k l, Best (Eg m mode) t fr c k ∧ Rt (Eg m mode) t fr l ∧ r.1 = ⟨fr :: l, c⟩)
def ShortP (m : S_Roadmap) (fr t mode : Int) (r : S_Route × Bool) : Prop :=
  (¬ (Asked m fr t ∧ 0 ≤ mode ∧ mode ≤ 2) ∧ r = (⟨nl, 0⟩, false)) ∨ ((Asked m fr t ∧ 0 ≤ mode ∧ mode ≤ 2) ∧ Routed m fr t mode r)

theorem Routed.unique {m : S_Roadmap} {fr t mode : Int} {r r' : S_Route × Bool} (h : Routed m fr t mode r) (h' : Routed m fr t mode r') : r = r' := by
  obtain ⟨r1, r2⟩ := r
  obtain ⟨s1, s2⟩ := r'
  rcases h with ⟨h1, h2, h3⟩ | ⟨h1, c, k, l, h2, h3, h4⟩ <;> rcases h' with ⟨h1', h2', h3'⟩ | ⟨h1', c', k', l', h2', h3', h4'⟩
  · simp only at h1 h2 h1' h2'; rw [h1, h2, h1', h2']
  · exact absurd h2'.1 (h3 _ _)
  · exact absurd h2.1 (h3' _ _)
  · simp only at h1 h4 h1' h4'
    rw [h1, h4, h1', h4', (h2.unique h2').1, h3.unique h3']
theorem ShortP.unique {m : S_Roadmap} {fr t mode : Int} {r r' : S_Route × Bool} (h : ShortP m fr t mode r) (h' : ShortP m fr t mode r') : r = r' := by
  rcases h with ⟨h1, h2⟩ | ⟨h1, h2⟩ <;> rcases h' with ⟨h1', h2'⟩ | ⟨h1', h2'⟩
  · rw [h2, h2']
  · exact absurd h1' h1
  · exact absurd h1 h1'
  · exact h2.unique h2'

theorem lks_of {m : S_Roadmap} {mode : Int} (hs : Small m) (hw : WF m) {L : List (List S_search_link)} (hl : L.length = m.Points.length) (hL : ∀ v, v < m.Points.length → L.getD v default = linkL m.Edges mode v) : Lks (Eg m mode) L := by
  refine ⟨by rw [hl]; exact Eg.graph hw mode, fun v w c h0 h1 => ?_, fun i => ?_, by rw [hl]; exact hs.1, fun i hi => ?_⟩
  · rw [hL v.toNat (by omega), Int.toNat_of_nonneg h0]; exact mem_linkL hw
  · by_cases h : i < m.Points.length
    · rw [hL i h]; exact Nat.le_trans (linkL_len _ _ _) hs.2
    · rw [List.getD_eq_getElem?_getD, List.getElem?_eq_none (by omega)]; exact Nat.zero_le _
  · rw [hL i (by omega)]; exact linkL_sorted hw mode i

/-- The route of the program, where it is asked. -/
theorem prog_routed (N : Nat) (m : S_Roadmap) (fr t mode : Int) (hs : Small m) (h : Asked m fr t) (hN : 100000 ≤ N) : ∃ L r, search_links_F N m mode = some L ∧ search_shortest_F N L fr t = some r ∧ Routed m fr t mode r := by
  obtain ⟨hw, hf, ht⟩ := h
  obtain ⟨L, h1, h2, h3⟩ := links_ok N m mode hs hw (by omega)
  obtain ⟨r, h4, h5⟩ := shortest_ok (E := Eg m mode) (t := t) (fr := fr) N (lks_of hs hw h2 h3) (by omega) (by omega) hN
  exact ⟨L, r, h1, h4, h5⟩

theorem Shortest_ok (N : Nat) (m : S_Roadmap) (fr t mode : Int) (hs : Small m) (hN : 100000 ≤ N) : ∃ r, search_Shortest_F N m fr t mode = some r ∧ ShortP m fr t mode r := by
  unfold search_Shortest_F
  obtain ⟨b, hb, hbw⟩ := wellFormed_ok N m hs (by omega)
  rw [show (⟨m.Points, m.Edges⟩ : S_Roadmap) = m from rfl, hb, Option.bind_some]
  have none : ¬ (Asked m fr t ∧ 0 ≤ mode ∧ mode ≤ 2) → ∃ r, (some ((⟨nl, 0⟩ : S_Route), false) : Option (S_Route × Bool)) = some r ∧ ShortP m fr t mode r := fun h => ⟨_, rfl, .inl ⟨h, rfl⟩⟩
  cases b with
  | false =>
    rw [bif_pos (by rfl), andC_out, bif_pos (by rfl)]
    exact none (fun h => by have := hbw.2 h.1.1; cases this)
  | true =>
    have hw := hbw.1 rfl
    rw [bif_neg (by rfl), isPoint_ok, Option.bind_some]
    by_cases h1 : 0 ≤ fr ∧ fr < (m.Points.length : Int)
    · rw [bif_nneg h1, isPoint_ok, Option.bind_some]
      by_cases h2 : 0 ≤ t ∧ t < (m.Points.length : Int)
      · rw [bif_nneg h2]
        by_cases h3 : mode < 0
        · rw [bif_dpos h3, andC_out, bif_pos (by rfl)]
          exact none (fun h => by omega)
        · rw [bif_dneg h3, andC_out]
          by_cases h4 : mode > 2
          · rw [bif_dpos h4]; exact none (fun h => by omega)
          · rw [bif_dneg h4]
            obtain ⟨L, r, e1, e2, e3⟩ := prog_routed N m fr t mode hs ⟨hw, h1, h2⟩ hN
            rw [e1, Option.bind_some, e2, Option.bind_some]
            exact ⟨r, rfl, .inr ⟨⟨⟨hw, h1, h2⟩, by omega, by omega⟩, e3⟩⟩
      · rw [bif_npos h2, andC_out, bif_pos (by rfl)]; exact none (fun h => h2 h.1.2.2)
    · rw [bif_npos h1, andC_out, bif_pos (by rfl)]; exact none (fun h => h1 h.1.2.1)

theorem asked_ok (N : Nat) (m : S_Roadmap) (fr t : Int) (hs : Small m) (hN : 100000 ≤ N) : ∃ b, ref23_asked_F N m fr t = some b ∧ (b = true ↔ Asked m fr t) := by
  unfold ref23_asked_F Asked
  obtain ⟨b, hb, hbw⟩ := formed_ok N m hs (by omega)
  rw [hb, Option.bind_some]
  cases b with
  | false =>
    rw [bif_neg (by rfl)]
    exact ⟨_, rfl, by simp only [Bool.false_eq_true, false_iff]; intro h; have := hbw.2 h.1; cases this⟩
  | true =>
    have hw := hbw.1 rfl
    rw [bif_pos (by rfl)]
    by_cases h1 : fr ≥ 0
    · rw [bif_dpos h1]
      by_cases h2 : fr < (m.Points.length : Int)
      · rw [bif_dpos h2]
        by_cases h3 : t ≥ 0
        · rw [bif_dpos h3]
          exact ⟨_, rfl, by simp only [decide_eq_true_eq]; exact ⟨fun h => ⟨hw, ⟨h1, h2⟩, h3, h⟩, fun h => h.2.2.2⟩⟩
        · rw [bif_dneg h3]; exact ⟨_, rfl, by simp only [Bool.false_eq_true, false_iff]; omega⟩
      · rw [bif_dneg h2]; exact ⟨_, rfl, by simp only [Bool.false_eq_true, false_iff]; omega⟩
    · rw [bif_dneg h1]; exact ⟨_, rfl, by simp only [Bool.false_eq_true, false_iff]; omega⟩

theorem ref_routed (N : Nat) (m : S_Roadmap) (fr t mode : Int) (hs : Small m) (h : Asked m fr t) (hm : 0 ≤ mode ∧ mode ≤ 2) (hN : 100000 ≤ N) : ∃ r, ref23_Shortest_F N m fr t mode = some r ∧ Routed m fr t mode r := by
  obtain ⟨b, hb, hbw⟩ := asked_ok N m fr t hs hN
  have hbt := hbw.2 h
  subst hbt
  obtain ⟨hw, hf, ht⟩ := h
  have g := Eg.graph hw mode
  obtain ⟨l, hl, hll, hlab⟩ := labels_ok N m mode t hs hw ht hN
  unfold ref23_Shortest_F
  rw [show (⟨m.Points, m.Edges⟩ : S_Roadmap) = m from rfl, hb, Option.bind_some, bif_neg (by rfl), bif_dneg (by omega), andC_out, bif_dneg (by omega), hl, Option.bind_some, grd_pos (by omega)]
  have hs1 := hs.1
  have hs2 := hs.2
  rcases hlab fr hf.1 hf.2 with ⟨h1, h2⟩ | hb
  · rw [bif_dpos h1]; exact ⟨_, rfl, .inl ⟨rfl, rfl, h2⟩⟩
  · have hb0 := hb.1.ge g
    have hbn := hb.few g ht
    rw [bif_dneg (show ¬ (lab l fr).Cost < 0 by omega), grd_pos (by omega)]
    generalize hcf : (lab l fr).Cost = cf at hb hb0
    generalize hkf : (lab l fr).Edges = kf at hb hb0 hbn
    refine loopX (g := fun r => r) (fun k (z : List Int × Int) => ∃ c', Best (Eg m mode) t z.2 c' (k : Int) ∧ lab l z.2 = ⟨c', k⟩ ∧ ∃ pre, z.1 = fr :: pre ∧ (pre.length + k : Int) ≤ kf ∧ ∀ l', Rt (Eg m mode) t z.2 l' → Rt (Eg m mode) t fr (pre ++ l'))
      (fun acc => ∃ l', acc = fr :: l' ∧ Rt (Eg m mode) t fr l') kf.toNat ⟨cf, by dsimp only; rw [Int.toNat_of_nonneg hb0.2]; exact hb, ?_, [], rfl, by simp; omega, fun l' h => h⟩ (by omega) ?_ ?_
    · dsimp only
      rw [Int.toNat_of_nonneg hb0.2]
      generalize lab l fr = z at hcf hkf
      obtain ⟨z1, z2⟩ := z
      simp only at hcf hkf
      rw [hcf, hkf]
    · rintro k ⟨acc, v⟩ ⟨c', hbv, hlv, pre, hacc, hpl, hrt⟩
      simp only at hbv hlv hacc hpl hrt
      subst hacc
      dsimp only
      by_cases hvt : v = t
      · right
        rw [bif_nne hvt]
        refine ⟨_, rfl, pre, rfl, ?_⟩
        have := hrt [] (by rw [hvt]; exact .nil)
        simpa using this
      · left
        rw [bif_neq hvt]
        have hvl := hbv.1.lt g ht
        have hbv0 := hbv.1.ge g
        have hk1 := hbv.ne g hvt
        have hvc : (lab l v).Cost = c' := by rw [hlv]
        have hve : (lab l v).Edges = k := by rw [hlv]
        -- the least candidate among the first edges
        have hcand : ∀ i, i < m.Edges.length → usableB (m.Edges.getD i default).State mode = true → ∀ w, ((m.Edges.getD i default).U = v ∧ (m.Edges.getD i default).V = w ∨ (m.Edges.getD i default).V = v ∧ (m.Edges.getD i default).U = w) →
            (0 ≤ (lab l w).Cost ∧ (lab l w).Cost + (m.Edges.getD i default).Cost = c' ∧ (lab l w).Edges + 1 = k ↔ Best (Eg m mode) t w (c' - (m.Edges.getD i default).Cost) (k - 1)) := by
          intro i hi hu w hvw
          have he : Eg m mode v w (m.Edges.getD i default).Cost := ⟨i, hi, hu, rfl, by omega⟩
          have hwl := g.lt _ _ _ he
          rcases hlab w hwl.2.2.1 hwl.2.2.2 with ⟨h1, h2⟩ | hbw
          · constructor
            · intro h; omega
            · intro h; exact absurd h.1 (h2 _ _)
          · constructor
            · rintro ⟨_, h3, h4⟩
              rw [show c' - (m.Edges.getD i default).Cost = (lab l w).Cost by omega, show (k : Int) - 1 = (lab l w).Edges by omega]; exact hbw
            · intro h
              have := hbw.unique h
              have := hbw.1.ge g
              omega
        refine loopX (g := Step3.next) (fun k' (z : Int × Int) => ∃ i : Nat, z.2 = (i : Int) ∧ i + k' = m.Edges.length ∧
            ((z.1 = -1 ∧ ∀ j, j < i → usableB (m.Edges.getD j default).State mode = true → ∀ w, ((m.Edges.getD j default).U = v ∧ (m.Edges.getD j default).V = w ∨ (m.Edges.getD j default).V = v ∧ (m.Edges.getD j default).U = w) → ¬ Best (Eg m mode) t w (c' - (m.Edges.getD j default).Cost) (k - 1)) ∨
             (0 ≤ z.1 ∧ (∃ e, Eg m mode v z.1 e ∧ Best (Eg m mode) t z.1 (c' - e) (k - 1)) ∧ ∀ j, j < i → usableB (m.Edges.getD j default).State mode = true → ∀ w, ((m.Edges.getD j default).U = v ∧ (m.Edges.getD j default).V = w ∨ (m.Edges.getD j default).V = v ∧ (m.Edges.getD j default).U = w) → Best (Eg m mode) t w (c' - (m.Edges.getD j default).Cost) (k - 1) → z.1 ≤ w)))
          (fun w => NextV (Eg m mode) t v w ∧ ∃ e, Eg m mode v w e ∧ Best (Eg m mode) t w (c' - e) (k - 1)) m.Edges.length ⟨0, rfl, by omega, .inl ⟨rfl, fun j hj => by omega⟩⟩ (by omega) ?_ ?_
        · rintro k' ⟨nx, x⟩ ⟨i, hx, hi, hinv⟩
          simp only at hx hinv
          subst hx
          dsimp only
          by_cases hlt : i < m.Edges.length
          · left
            obtain ⟨o1, o2, o3, o4, o5⟩ := (hw i hlt).1
            rw [bif_dpos (by omega), grd_pos (by omega), Int.toNat_natCast, usableIn_ok, Option.bind_some]
            have skip : (∀ w, usableB (m.Edges.getD i default).State mode = true → ((m.Edges.getD i default).U = v ∧ (m.Edges.getD i default).V = w ∨ (m.Edges.getD i default).V = v ∧ (m.Edges.getD i default).U = w) → ¬ Best (Eg m mode) t w (c' - (m.Edges.getD i default).Cost) (k - 1)) →
                ∃ x', (some (Step3.next (nx, ((i + 1 : Nat) : Int))) : Option (Step3 (Int × Int) Int (Step3 (List Int × Int) (List Int) (S_Route × Bool)))) = some (.next x') ∧ ∃ m', m' < k' ∧ ∃ i : Nat, x'.2 = (i : Int) ∧ i + m' = m.Edges.length ∧
            ((x'.1 = -1 ∧ ∀ j, j < i → usableB (m.Edges.getD j default).State mode = true → ∀ w, ((m.Edges.getD j default).U = v ∧ (m.Edges.getD j default).V = w ∨ (m.Edges.getD j default).V = v ∧ (m.Edges.getD j default).U = w) → ¬ Best (Eg m mode) t w (c' - (m.Edges.getD j default).Cost) (k - 1)) ∨
             (0 ≤ x'.1 ∧ (∃ e, Eg m mode v x'.1 e ∧ Best (Eg m mode) t x'.1 (c' - e) (k - 1)) ∧ ∀ j, j < i → usableB (m.Edges.getD j default).State mode = true → ∀ w, ((m.Edges.getD j default).U = v ∧ (m.Edges.getD j default).V = w ∨ (m.Edges.getD j default).V = v ∧ (m.Edges.getD j default).U = w) → Best (Eg m mode) t w (c' - (m.Edges.getD j default).Cost) (k - 1) → x'.1 ≤ w)) := by
              intro hno
              refine ⟨_, rfl, k' - 1, by omega, i + 1, rfl, by omega, ?_⟩
              rcases hinv with ⟨h1, h2⟩ | ⟨h1, h2, h3⟩
              · refine .inl ⟨h1, fun j hj hu w hvw => ?_⟩
                by_cases hji : j = i
                · subst hji; exact hno w hu hvw
                · exact h2 j (by omega) hu w hvw
              · refine .inr ⟨h1, h2, fun j hj hu w hvw hbw => ?_⟩
                by_cases hji : j = i
                · subst hji; exact absurd hbw (hno w hu hvw)
                · exact h3 j (by omega) hu w hvw hbw
            by_cases hu : usableB (m.Edges.getD i default).State mode = true
            · rw [bif_neg (by rw [hu]; rfl)]
              by_cases hend : (m.Edges.getD i default).U = v ∨ (m.Edges.getD i default).V = v
              · have hy : (bif ((m.Edges.getD i default).U != v) then (some (.out ((m.Edges.getD i default).V != v)) : Option (Step3 Unit Bool (Step3 Unit Int (Step3 (Int × Int) Int (Step3 (List Int × Int) (List Int) (S_Route × Bool)))))) else some (.out false)) = some (.out false) := by
                  by_cases h1 : (m.Edges.getD i default).U = v
                  · rw [bif_nne h1]
                  · rw [bif_neq h1]
                    have : ((m.Edges.getD i default).V != v) = false := by simpa using hend.resolve_left h1
                    rw [this]
                rw [hy, andC_out, bif_neg (by rfl)]
                obtain ⟨w, hvw, hz⟩ : ∃ w, ((m.Edges.getD i default).U = v ∧ (m.Edges.getD i default).V = w ∨ (m.Edges.getD i default).V = v ∧ (m.Edges.getD i default).U = w) ∧ IntKind.i64.wrap (IntKind.i64.wrap ((m.Edges.getD i default).U + (m.Edges.getD i default).V) - v) = w := by
                  rw [w64 (x := (m.Edges.getD i default).U + (m.Edges.getD i default).V) (by omega) (by omega), w64 (by omega) (by omega)]
                  refine ⟨_, ?_, rfl⟩
                  omega
                rw [hz]
                have he : Eg m mode v w (m.Edges.getD i default).Cost := ⟨i, hlt, hu, rfl, by omega⟩
                have hwl := g.lt _ _ _ he
                have hc := hcand i hlt hu w hvw
                have hone : ∀ w', ((m.Edges.getD i default).U = v ∧ (m.Edges.getD i default).V = w' ∨ (m.Edges.getD i default).V = v ∧ (m.Edges.getD i default).U = w') → w' = w := fun w' h => by omega
                have hlw : (lab l w).Cost < 0 ∨ (0 ≤ (lab l w).Cost ∧ (lab l w).Cost ≤ 100 * 1099511627776 ∧ 0 ≤ (lab l w).Edges ∧ (lab l w).Edges ≤ 100) := by
                  rcases hlab w hwl.2.2.1 hwl.2.2.2 with ⟨h1, _⟩ | hbw
                  · exact .inl h1
                  · have a1 := hbw.1.ge g
                    have a2 := hbw.1.le g
                    have a3 := hbw.few g ht
                    have a4 : (lab l w).Edges * 1099511627776 ≤ 100 * 1099511627776 := Int.mul_le_mul_of_nonneg_right (by omega) (by omega)
                    exact .inr ⟨a1.1, by omega, a1.2, by omega⟩
                rw [grd_pos (by omega)]
                by_cases hok : 0 ≤ (lab l w).Cost ∧ (lab l w).Cost + (m.Edges.getD i default).Cost = c' ∧ (lab l w).Edges + 1 = k
                · have hbw := hc.1 hok
                  rw [bif_dpos (show (lab l w).Cost ≥ 0 by omega), grd_pos (by omega), grd_pos (by omega), w64 (x := (lab l w).Cost + (m.Edges.getD i default).Cost) (by omega) (by omega), bif_eq (show (lab l w).Cost + (m.Edges.getD i default).Cost = (lab l v).Cost by omega), grd_pos (by omega), grd_pos (by omega), w64 (x := (lab l w).Edges + 1) (by omega) (by omega), bif_eq (show (lab l w).Edges + 1 = (lab l v).Edges by omega)]
                  by_cases hnx : nx < 0
                  · rw [bif_dpos hnx, andC_out, bif_pos (by rfl), andC_out, w64n (by omega)]
                    refine ⟨_, rfl, k' - 1, by omega, i + 1, rfl, by omega, .inr ⟨hwl.2.2.1, ⟨_, he, hbw⟩, fun j hj hu' w' hvw' hbw' => ?_⟩⟩
                    by_cases hji : j = i
                    · subst hji; rw [hone w' hvw']; exact Int.le_refl _
                    · rcases hinv with ⟨_, h2⟩ | ⟨h1, _⟩
                      · exact absurd hbw' (h2 j (by omega) hu' w' hvw')
                      · omega
                  · rw [bif_dneg hnx, andC_out]
                    rcases hinv with ⟨h1, h2⟩ | ⟨h1, h2, h3⟩
                    · omega
                    · by_cases hlt2 : w < nx
                      · rw [bif_dpos hlt2, andC_out, w64n (by omega)]
                        refine ⟨_, rfl, k' - 1, by omega, i + 1, rfl, by omega, .inr ⟨hwl.2.2.1, ⟨_, he, hbw⟩, fun j hj hu' w' hvw' hbw' => ?_⟩⟩
                        by_cases hji : j = i
                        · subst hji; rw [hone w' hvw']; exact Int.le_refl _
                        · have := h3 j (by omega) hu' w' hvw' hbw'
                          dsimp only; omega
                      · rw [bif_dneg hlt2, andC_out, w64n (by omega)]
                        refine ⟨_, rfl, k' - 1, by omega, i + 1, rfl, by omega, .inr ⟨h1, h2, fun j hj hu' w' hvw' hbw' => ?_⟩⟩
                        by_cases hji : j = i
                        · subst hji; rw [hone w' hvw']; dsimp only; omega
                        · exact h3 j (by omega) hu' w' hvw' hbw'
                · have hfin : (bif (decide ((lab l w).Cost ≥ 0)) then
                      grd (0 ≤ w ∧ w < ((l.length : Nat) : Int)) <|
                      grd (0 ≤ v ∧ v < ((l.length : Nat) : Int)) <|
                      bif ((IntKind.i64.wrap ((lab l w).Cost + (m.Edges.getD i default).Cost)) == (lab l v).Cost) then
                       grd (0 ≤ w ∧ w < ((l.length : Nat) : Int)) <|
                       grd (0 ≤ v ∧ v < ((l.length : Nat) : Int)) <|
                       bif ((IntKind.i64.wrap ((lab l w).Edges + 1)) == (lab l v).Edges) then
                        bif (decide (nx < 0)) then
                         some (.out true)
                        else
                         some (.out (decide (w < nx)))
                       else
                        some (.out false)
                      else
                       some (.out false)
                     else
                      (some (.out false) : Option (Step3 Unit Bool (Step3 Unit Int (Step3 (Int × Int) Int (Step3 (List Int × Int) (List Int) (S_Route × Bool))))))) = some (.out false) := by
                    by_cases h1 : (lab l w).Cost ≥ 0
                    · rw [bif_dpos h1, grd_pos (by omega), grd_pos (by omega), w64 (x := (lab l w).Cost + (m.Edges.getD i default).Cost) (by omega) (by omega)]
                      by_cases h2 : (lab l w).Cost + (m.Edges.getD i default).Cost = (lab l v).Cost
                      · rw [bif_eq h2, grd_pos (by omega), grd_pos (by omega), w64 (x := (lab l w).Edges + 1) (by omega) (by omega), bif_ne (by omega)]
                      · rw [bif_ne h2]
                    · rw [bif_dneg h1]
                  rw [hfin, andC_out, bif_neg (by rfl), andC_out, w64n (by omega)]
                  exact skip (fun w' _ hvw' hbw' => hok (hc.2 (by rw [← hone w' hvw']; exact hbw')))
              · rw [bif_neq (fun h => hend (.inl h))]
                have : ((m.Edges.getD i default).V != v) = true := by
                  rw [bne_iff_ne]; exact fun h => hend (.inr h)
                rw [this, andC_out, bif_pos (by rfl), andC_out, w64n (by omega)]
                exact skip (fun w' _ hvw' _ => hend (by omega))
            · have huf : usableB (m.Edges.getD i default).State mode = false := by simpa using hu
              rw [huf, bif_pos (by rfl), andC_out, bif_pos (by rfl), andC_out, w64n (by omega)]
              exact skip (fun w' h _ _ => hu h)
          · right
            rw [bif_dneg (by omega)]
            have hie : i = m.Edges.length := by omega
            subst hie
            obtain ⟨u0, e0, ⟨j0, hj0, hu0, hc0, hpq0⟩, hbu0⟩ := hbv.step (by omega)
            rcases hinv with ⟨_, h2⟩ | ⟨h1, h2, h3⟩
            · exact absurd (by rw [hc0]; exact hbu0) (h2 j0 hj0 hu0 u0 (by omega))
            · obtain ⟨e1, he1, hb1⟩ := h2
              refine ⟨_, rfl, ⟨⟨c', k, e1, hbv, he1, hb1⟩, ?_⟩, e1, he1, hb1⟩
              rintro w' ⟨c2, k2, e2, hbv2, ⟨j, hj, hu, hc, hpq⟩, hbw2⟩
              obtain ⟨rfl, rfl⟩ := hbv.unique hbv2
              exact h3 j hj hu w' (by omega) (by rw [hc]; exact hbw2)
        · rintro w ⟨hnext, e1, he1, hb1⟩
          have hwl := g.lt _ _ _ he1
          have hb10 := hb1.1.ge g
          have hkk : ((k - 1 : Nat) : Int) = (k : Int) - 1 := by omega
          rw [grd_pos (by rw [maxLen_eq]; simp only [List.length_cons]; omega)]
          refine ⟨_, rfl, k - 1, by omega, c' - e1, by dsimp only; rw [hkk]; exact hb1, ?_, pre ++ [w], by simp, by simp; omega, fun l' hl' => ?_⟩
          · dsimp only
            rcases hlab w hwl.2.2.1 hwl.2.2.2 with ⟨_, h2⟩ | hbw
            · exact absurd hb1.1 (h2 _ _)
            · have := hbw.unique hb1
              generalize lab l w = z at this
              obtain ⟨z1, z2⟩ := z
              simp only at this
              rw [this.1, this.2, hkk]
          · have := hrt (w :: l') (.cons hvt hnext hl')
            simpa using this
    · rintro acc ⟨l', rfl, hl'⟩
      exact ⟨_, rfl, .inr ⟨rfl, cf, kf, l', hb, hl', rfl⟩⟩

theorem refShortest_ok (N : Nat) (m : S_Roadmap) (fr t mode : Int) (hs : Small m) (hN : 100000 ≤ N) : ∃ r, ref23_Shortest_F N m fr t mode = some r ∧ ShortP m fr t mode r := by
  by_cases h : Asked m fr t ∧ 0 ≤ mode ∧ mode ≤ 2
  · obtain ⟨r, h1, h2⟩ := ref_routed N m fr t mode hs h.1 h.2 hN
    exact ⟨r, h1, .inr ⟨h, h2⟩⟩
  · refine ⟨_, ?_, .inl ⟨h, rfl⟩⟩
    obtain ⟨b, hb, hbw⟩ := asked_ok N m fr t hs hN
    unfold ref23_Shortest_F
    rw [show (⟨m.Points, m.Edges⟩ : S_Roadmap) = m from rfl, hb, Option.bind_some]
    cases b with
    | false => rw [bif_pos (by rfl), andC_out, bif_pos (by rfl)]
    | true =>
      have ha := hbw.1 rfl
      rw [bif_neg (by rfl)]
      by_cases h3 : mode < 0
      · rw [bif_dpos h3, andC_out, bif_pos (by rfl)]
      · rw [bif_dneg h3, andC_out, bif_dpos (by
          refine Classical.byContradiction fun hc => h ⟨ha, by omega, by omega⟩)]
end Go.Abs
