/-
  The law SearchWalks.
-/
import Derived.Test.YtjbncekcklkjaaaGr9
namespace Go.Abs

theorem joins_ok (N : Nat) {m : S_Roadmap} {e : S_RoadmapEdge} (h : EdgeOk m.Points.length e) : ref23_joins_F N m e = some true := by
  obtain ⟨o1, o2, o3, _⟩ := h
  unfold ref23_joins_F
  rw [bif_dpos (by omega), bif_dpos (by omega), bif_dpos (by omega), decide_eq_true o3]

theorem incident_ok (N : Nat) {m : S_Roadmap} (hs : Small m) (hw : WF m) (v : Int) (hN : 100000 ≤ N) :
    ∃ L, ref23_Incident_F N m v = some L ∧ L.length ≤ m.Edges.length ∧ ∀ x ∈ L, 0 ≤ x ∧ x < (m.Edges.length : Int) ∧ ((m.Edges.getD x.toNat default).U = v ∨ (m.Edges.getD x.toNat default).V = v) := by
  have hs2 := hs.2
  unfold ref23_Incident_F
  refine loopX (g := fun r => r) (fun k (x : List Int × Int) => ∃ i : Nat, x.2 = (i : Int) ∧ i + k = m.Edges.length ∧ x.1.length ≤ i ∧ ∀ y ∈ x.1, 0 ≤ y ∧ y < (m.Edges.length : Int) ∧ ((m.Edges.getD y.toNat default).U = v ∨ (m.Edges.getD y.toNat default).V = v))
    (fun L => L.length ≤ m.Edges.length ∧ ∀ y ∈ L, 0 ≤ y ∧ y < (m.Edges.length : Int) ∧ ((m.Edges.getD y.toNat default).U = v ∨ (m.Edges.getD y.toNat default).V = v)) m.Edges.length ⟨0, rfl, by omega, by simp [nl], by simp [nl]⟩ (by omega) ?_ (fun L h => ⟨L, rfl, h⟩)
  rintro k ⟨L, x⟩ ⟨i, hx, hi, hl, hL⟩
  simp only at hx hl hL
  subst hx
  dsimp only
  by_cases hlt : i < m.Edges.length
  · left
    rw [bif_dpos (by omega), grd_pos (by omega), Int.toNat_natCast, joins_ok N (hw i hlt).1, Option.bind_some, bif_pos (by rfl)]
    by_cases hv : (m.Edges.getD i default).U = v ∨ (m.Edges.getD i default).V = v
    · have hy : (bif ((m.Edges.getD i default).U == v) then some (.out true) else (some (.out ((m.Edges.getD i default).V == v)) : Option (Step3 Unit Bool (Step3 Unit (List Int) (Step3 (List Int × Int) (List Int) (List Int)))))) = some (.out true) := by
        by_cases h1 : (m.Edges.getD i default).U = v
        · rw [bif_eq h1]
        · rw [bif_ne h1, beq_iff_eq.2 (hv.resolve_left h1)]
      rw [hy, andC_out, bif_pos (by rfl), grd_pos (by rw [maxLen_eq]; omega), andC_out, w64n (by omega)]
      refine ⟨_, rfl, k - 1, by omega, i + 1, rfl, by omega, by simp; omega, fun y hy => ?_⟩
      rw [List.mem_append, List.mem_singleton] at hy
      rcases hy with hy | rfl
      · exact hL y hy
      · exact ⟨by omega, by omega, by rw [Int.toNat_natCast]; exact hv⟩
    · rw [bif_ne (fun h => hv (.inl h)), beq_eq_false_iff_ne.2 (fun h => hv (.inr h)), andC_out, bif_neg (by rfl), andC_out, w64n (by omega)]
      exact ⟨_, rfl, k - 1, by omega, i + 1, rfl, by omega, by dsimp only; omega, hL⟩
  · right
    rw [bif_dneg (by omega)]
    exact ⟨_, rfl, by omega, hL⟩

theorem Rt.nth {E : Int → Int → Int → Prop} {t v : Int} {l : List Int} (h : Rt E t v l) : ∀ {c k : Int}, Best E t v c k → ∀ i : Nat, i ≤ l.length →
    ∃ ci, Best E t ((v :: l).getD i default) ci (k - i) ∧ (i < l.length → ∃ e, E ((v :: l).getD i default) ((v :: l).getD (i + 1) default) e ∧ Best E t ((v :: l).getD (i + 1) default) (ci - e) (k - i - 1)) := by
  induction h with
  | nil =>
    intro c k hb i hi
    have : i = 0 := by simpa using hi
    subst this
    exact ⟨c, by simpa using hb, by simp⟩
  | cons hv hn hr ih =>
    intro c k hb i hi
    obtain ⟨c', k', e, h1, h2, h3⟩ := hn.1
    obtain ⟨rfl, rfl⟩ := hb.unique h1
    cases i with
    | zero => exact ⟨c, by simpa using hb, fun _ => ⟨e, by simpa using h2, by simpa using h3⟩⟩
    | succ i =>
      obtain ⟨ci, q1, q2⟩ := ih h3 i (by simpa using hi)
      refine ⟨ci, ?_, fun hi2 => ?_⟩
      · rw [show k - ((i + 1 : Nat) : Int) = k - 1 - i by omega]; simpa using q1
      · obtain ⟨e2, q3, q4⟩ := q2 (by simpa using hi2)
        refine ⟨e2, by simpa using q3, ?_⟩
        rw [show k - ((i + 1 : Nat) : Int) - 1 = k - 1 - i - 1 by omega]; simpa using q4

theorem searchWalks_true (l walk : List Int) (fr t mode : Int) (hl : l.length < 4000000000000) : law26_SearchWalks_F 4294967296 l walk fr t mode = some true := by
  suffices h : ∃ r, law26_SearchWalks_F 4294967296 l walk fr t mode = some r ∧ r = true by obtain ⟨r, h, rfl⟩ := h; exact h
  unfold law26_SearchWalks_F
  obtain ⟨m, hm, hs, hw, hm2, hm9⟩ := graph_ok 4294967296 l hl (by omega)
  obtain ⟨a, ha, ha0, ha1⟩ := round_ok 4294967296 fr ((m.Points.length : Nat) : Int) (by omega) (by omega)
  obtain ⟨b, hb, hb0, hb1⟩ := round_ok 4294967296 t ((m.Points.length : Nat) : Int) (by omega) (by omega)
  obtain ⟨k, hk, hk0, hk1⟩ := round_ok 4294967296 mode 3 (by omega) (by omega)
  obtain ⟨r, h1, h2⟩ := Shortest_ok 4294967296 m a b k hs (by omega)
  have ht : 0 ≤ b ∧ b < (m.Points.length : Int) := ⟨hb0, hb1⟩
  have hask : Asked m a b ∧ 0 ≤ k ∧ k ≤ 2 := ⟨⟨hw, ⟨ha0, ha1⟩, ht⟩, by omega, by omega⟩
  have hR : Routed m a b k r := (h2.resolve_left (fun h => h.1 hask)).2
  have g := Eg.graph hw k
  have hs2 := hs.2
  rw [hm, Option.bind_some, ha, Option.bind_some, hb, Option.bind_some, hk, Option.bind_some, h1, Option.bind_some]
  refine loopX (g := fun r => r) (fun j (x : Int × Int × Int) => ∃ i : Nat, x.2.2 = (i : Int) ∧ i + j = 40 ∧ ∃ kk, Walk (Eg m k) x.1 a x.2.1 kk ∧ kk ≤ i ∧ 0 ≤ x.1 ∧ x.1 < (m.Points.length : Int)) (fun _ => True) 40 ⟨0, rfl, by omega, 0, .nil, by simp, ha0, ha1⟩ (by omega) ?_ (fun _ _ => ?_)
  · rintro j ⟨at_, cost, x⟩ ⟨i, hx, hi, kk, hwk, hkk, h0, h1⟩
    simp only at hx hwk hkk h0 h1
    subst hx
    dsimp only
    by_cases hgo : (i : Int) < (walk.length : Int) ∧ (i : Int) < 40
    · rw [bif_dpos hgo.1, decide_eq_true hgo.2, andC_out, bif_pos (by rfl)]
      obtain ⟨L, hL, hLl, hLm⟩ := incident_ok 4294967296 hs hw at_ (by omega)
      rw [hL, Option.bind_some]
      by_cases hz : ((L.length : Nat) : Int) = 0
      · right; rw [bif_eq hz]; exact ⟨_, rfl, trivial⟩
      · left
        rw [bif_ne hz, grd_pos (by omega), Int.toNat_natCast]
        obtain ⟨y, hy, hy0, hy1⟩ := round_ok 4294967296 (walk.getD i default) ((L.length : Nat) : Int) (by omega) (by omega)
        rw [hy, Option.bind_some, grd_pos (by omega)]
        obtain ⟨z0, z1, z2⟩ := hLm (L.getD y.toNat default) (mem_getD.2 ⟨y.toNat, by omega, rfl⟩)
        rw [grd_pos (by omega), usableIn_ok, Option.bind_some]
        generalize L.getD y.toNat default = e at z0 z1 z2
        obtain ⟨o1, o2, o3, o4, o5⟩ := (hw e.toNat (by omega)).1
        have hc0 := hwk.ge g
        have hc1 := hwk.le g
        have hc2 : kk * 1099511627776 ≤ 40 * 1099511627776 := Int.mul_le_mul_of_nonneg_right (by omega) (by omega)
        rw [w64 (x := (m.Edges.getD e.toNat default).U + (m.Edges.getD e.toNat default).V) (by omega) (by omega), w64 (x := (m.Edges.getD e.toNat default).U + (m.Edges.getD e.toNat default).V - at_) (by omega) (by omega), w64 (x := cost + (m.Edges.getD e.toNat default).Cost) (by omega) (by omega)]
        -- the next place of the walk
        obtain ⟨at', cost', kk', hst, hwk', hkk', h0', h1'⟩ : ∃ at' cost' kk', (bif usableB (m.Edges.getD e.toNat default).State k then (some (.out ((m.Edges.getD e.toNat default).U + (m.Edges.getD e.toNat default).V - at_, cost + (m.Edges.getD e.toNat default).Cost)) : Option (Step3 Unit (Int × Int) (Step3 (Int × Int × Int) U0 Bool))) else some (.out (at_, cost))) = some (.out (at', cost')) ∧
            Walk (Eg m k) at' a cost' kk' ∧ kk' ≤ i + 1 ∧ 0 ≤ at' ∧ at' < (m.Points.length : Int) := by
          by_cases hu : usableB (m.Edges.getD e.toNat default).State k = true
          · refine ⟨_, _, kk + 1, bif_pos hu, hwk.snoc ⟨e.toNat, by omega, hu, rfl, by omega⟩, by omega, by omega, by omega⟩
          · exact ⟨_, _, kk, bif_neg (by simpa using hu), hwk, by omega, h0, h1⟩
        rw [hst, andC_out]
        have hno : (bif (at' == b) then bif (!r.2) then some (.out true) else some (.out (decide (cost' < r.1.Cost))) else (some (.out false) : Option (Step3 Unit Bool (Step3 (Int × Int × Int) U0 Bool)))) = some (.out false) := by
          by_cases hab : at' = b
          · rw [bif_eq hab]
            subst hab
            rcases hR with ⟨_, _, h3⟩ | ⟨h3, c, k2, l2, h4, _, h6⟩
            · exact absurd hwk' (h3 _ _)
            · rw [h3, bif_neg (by rfl), h6]
              have := h4.2 _ _ hwk'
              rw [decide_eq_false (by simp only; omega)]
          · rw [bif_ne hab]
        dsimp only
        rw [hno, andC_out, bif_neg (by rfl), w64n (by omega)]
        exact ⟨_, rfl, j - 1, by omega, i + 1, rfl, by omega, kk', hwk', by omega, h0', h1'⟩
    · right
      have hy : (bif decide ((i : Int) < ((walk.length : Nat) : Int)) then some (.out (decide ((i : Int) < 40))) else (some (.out false) : Option (Step3 Unit Bool (Step3 (Int × Int × Int) U0 Bool)))) = some (.out false) := by
        by_cases h1 : (i : Int) < (walk.length : Int)
        · rw [bif_dpos h1, decide_eq_false (fun h => hgo ⟨h1, h⟩)]
        · rw [bif_dneg h1]
      rw [hy, andC_out, bif_neg (by rfl)]
      exact ⟨_, rfl, trivial⟩
  · rcases hR with ⟨q1, q2, _⟩ | ⟨q1, c, K, l2, q2, q3, q4⟩
    · rw [q1, bif_pos (by rfl), awake_ok, Option.bind_some, bif_pos (by rfl), q2]
      exact ⟨_, rfl, by simp [nl]⟩
    · rw [q1, bif_neg (by rfl), q4]
      dsimp only
      have hlen := q3.length g q2
      have hKn := q2.few g ht
      have hK0 := q2.1.ge g
      have e0 : (0 : Int).toNat = 0 := rfl
      have hlast : IntKind.i64.wrap ((((a :: l2).length : Nat) : Int) - 1) = (l2.length : Int) := by rw [w64 (by simp only [List.length_cons]; omega) (by simp only [List.length_cons]; omega)]; simp
      obtain ⟨cl, hcl, _⟩ := q3.nth q2 l2.length (Nat.le_refl _)
      have hclz := hcl.1.zero g (by omega)
      rw [bif_ne (by simp only [List.length_cons]; omega), e0, grd_pos (by simp only [List.length_cons]; omega), bif_nne (by simp), hlast, grd_pos (by simp only [List.length_cons]; omega), Int.toNat_natCast, hclz.1, andC_out, bif_nne rfl]
      refine loopX (g := fun r => r) (fun j (x : Int × Int) => ∃ i : Nat, x.2 = ((i + 1 : Nat) : Int) ∧ i + j = l2.length ∧ ∃ ci, Best (Eg m k) b ((a :: l2).getD i default) ci (K - i) ∧ x.1 = c - ci) (fun s => s = c) l2.length ⟨0, rfl, by omega, c, by simpa using q2, by dsimp only; omega⟩ (by omega) ?_ ?_
      · rintro j ⟨sum, x⟩ ⟨i, hx, hi, ci, hbi, hsum⟩
        simp only at hx hsum
        subst hx
        dsimp only
        by_cases hlt : i < l2.length
        · left
          have hwr : IntKind.i64.wrap (((i + 1 : Nat) : Int) - 1) = (i : Int) := by rw [w64 (by omega) (by omega)]; omega
          rw [bif_dpos (by simp only [List.length_cons]; omega), hwr, grd_pos (by simp only [List.length_cons]; omega), grd_pos (by simp only [List.length_cons]; omega), Int.toNat_natCast, Int.toNat_natCast]
          obtain ⟨ci', hb2, hstep⟩ := q3.nth q2 i (by omega)
          obtain ⟨rfl, _⟩ := hbi.unique hb2
          obtain ⟨e, ⟨ie, hie, hue, hce, hpq⟩, hbe⟩ := hstep hlt
          obtain ⟨o1, o2, o3, o4, o5⟩ := (hw ie hie).1
          rw [edgeOf_ok 4294967296 hs hw hie (by omega) (by omega) (by omega), Option.bind_some, bif_dneg (by omega), grd_pos (by omega), Int.toNat_natCast, usableIn_ok, Option.bind_some, hue, andC_out, bif_neg (by rfl), grd_pos (by omega)]
          have hb0' := hbi.1.ge g
          have hbc := q2.1.le g
          have hbe0 := hbe.1.ge g
          have hKc : K * 1099511627776 ≤ 100 * 1099511627776 := Int.mul_le_mul_of_nonneg_right (by omega) (by omega)
          have hci : ci ≤ c ∨ c < ci := by omega
          rw [w64 (x := sum + (m.Edges.getD ie default).Cost) (by
            have := hbi.1.le g
            have h9 : (K - i) * 1099511627776 ≤ 100 * 1099511627776 := Int.mul_le_mul_of_nonneg_right (by omega) (by omega)
            omega) (by omega), w64n (by omega)]
          refine loopX (g := Step3.next) (fun j' (x : Int) => ∃ p : Nat, x = (p : Int) ∧ p + j' = i + 1) (fun _ => True) (i + 1) ⟨0, rfl, by omega⟩ (by omega) ?_ ?_
          · rintro j' x ⟨p, rfl, hp⟩
            by_cases hpl : p < i + 1
            · left
              rw [bif_dpos (by omega), grd_pos (by simp only [List.length_cons]; omega), grd_pos (by simp only [List.length_cons]; omega), Int.toNat_natCast]
              obtain ⟨cp, hbp, _⟩ := q3.nth q2 p (by omega)
              rw [bif_ne (fun he => by
                rw [he] at hbp
                have := hbp.unique hbe
                omega), w64n (by omega)]
              exact ⟨_, rfl, j' - 1, by omega, p + 1, rfl, by omega⟩
            · right
              rw [bif_dneg (by omega)]
              exact ⟨_, rfl, trivial⟩
          · intro _ _
            refine ⟨_, rfl, j - 1, by omega, i + 1, rfl, by omega, ci - e, ?_, by dsimp only; omega⟩
            rw [show K - ((i + 1 : Nat) : Int) = K - i - 1 by omega]; exact hbe
        · right
          rw [bif_dneg (by simp only [List.length_cons]; omega)]
          have hil : i = l2.length := by omega
          subst hil
          have := hbi.unique hcl
          exact ⟨_, rfl, by omega⟩
      · rintro s rfl
        rw [awake_ok, Option.bind_some, bif_pos (by rfl)]
        exact ⟨_, rfl, by simp⟩
end Go.Abs
