/-
  Made roadmaps; the law SearchShortest.
-/
import Derived.Test.YtjbncekcklkjaaaGr7
import Derived.Test.YtjbncekcklkjaaaS4
namespace Go.Abs

theorem round_ok (N : Nat) (a k : Int) (hk : 0 < k) (hk2 : k < 4000000000000) : ∃ x, make_Round_F N a k = some x ∧ 0 ≤ x ∧ x < k := by
  unfold make_Round_F
  rw [grd_pos (by omega)]
  have h1 := Int.tmod_lt_of_pos a hk
  have h2 : -k < a.tmod k := by
    by_cases h : 0 ≤ a
    · have := Int.tmod_nonneg k h; omega
    · have h3 := Int.tmod_lt_of_pos (-a) hk
      rw [Int.neg_tmod] at h3; omega
  by_cases h : a.tmod k < 0
  · rw [bif_dpos h, andC_out, w64 (by omega) (by omega)]; exact ⟨_, rfl, by omega, by omega⟩
  · rw [bif_dneg h, andC_out]; exact ⟨_, rfl, by omega, by omega⟩

theorem next_ok (N : Nat) (l : List Int) (a k : Int) (ha : 0 ≤ a ∧ a ≤ (l.length : Int)) (hl : l.length < 4000000000000) (hk : 0 < k) (hk2 : k < 4000000000000) :
    ∃ x a', Source_Next_F N l a k = some (x, l, a') ∧ 0 ≤ x ∧ x < k ∧ 0 ≤ a' ∧ a' ≤ (l.length : Int) := by
  unfold Source_Next_F
  by_cases h : a ≥ (l.length : Int)
  · rw [bif_dpos h]; exact ⟨_, _, rfl, by omega, by omega, by omega, by omega⟩
  · have h1 : IntKind.i64.wrap (a + 1) = a + 1 := w64 (by omega) (by omega)
    have h2 : IntKind.i64.wrap (a + 1 - 1) = a := by rw [w64 (by omega) (by omega)]; omega
    rw [bif_dneg h, h1, h2, grd_pos (by omega)]
    obtain ⟨x, hx, h3, h4⟩ := round_ok N (l.getD a.toNat default) k hk hk2
    rw [hx, Option.bind_some]
    exact ⟨_, _, rfl, h3, h4, by omega, by omega⟩

theorem claim_ok (N : Nat) (s : Int) : ∃ x, make_Claim_F N s = some x := by
  unfold make_Claim_F
  cases s == 1 <;> cases s == 2 <;> cases s == 3 <;> exact ⟨_, rfl⟩

/-- Edges so far: in order, before (u, v). -/
def EL (n : Nat) (es : List S_RoadmapEdge) (u v : Int) : Prop :=
  ∀ i, i < es.length → EdgeOk n (es.getD i default) ∧ (0 < i → eLt (es.getD (i - 1) default) (es.getD i default)) ∧ ((es.getD i default).U < u ∨ (es.getD i default).U = u ∧ (es.getD i default).V < v)

theorem EL.snoc {n : Nat} {es : List S_RoadmapEdge} {u v : Int} (h : EL n es u v) {e : S_RoadmapEdge} (he : EdgeOk n e) (hu : e.U = u) (hv : e.V = v) : EL n (es ++ [e]) u (v + 1) := by
  intro i hi
  simp only [List.length_append, List.length_cons, List.length_nil] at hi
  by_cases hlt : i < es.length
  · rw [getD_left hlt, getD_left (l := es) (i := i - 1) (by omega)]
    obtain ⟨h1, h2, h3⟩ := h i hlt
    exact ⟨h1, h2, by omega⟩
  · have hie : i = es.length := by omega
    subst hie
    have e1 : (es ++ [e]).getD es.length default = e := by rw [getD_right (Nat.le_refl _)]; simp
    rw [e1]
    refine ⟨he, fun h0 => ?_, by omega⟩
    rw [getD_left (by omega)]
    have := (h (es.length - 1) (by omega)).2.2
    unfold eLt; omega
theorem EL.mono {n : Nat} {es : List S_RoadmapEdge} {u v u' v' : Int} (h : EL n es u v) (hl : ∀ a b : Int, (a < u ∨ a = u ∧ b < v) → b < n → (a < u' ∨ a = u' ∧ b < v')) : EL n es u' v' := by
  intro i hi
  obtain ⟨h1, h2, h3⟩ := h i hi
  exact ⟨h1, h2, hl _ _ h3 h1.2.2.1⟩

theorem graph_ok (N : Nat) (l : List Int) (hl : l.length < 4000000000000) (hN : 100000 ≤ N) : ∃ m, make_Graph_F N l = some m ∧ Small m ∧ WF m ∧ 2 ≤ m.Points.length ∧ m.Points.length ≤ 9 := by
  unfold make_Graph_F make_From_F
  rw [Option.bind_some]
  dsimp only
  obtain ⟨x0, a0, hx0, h1, h2, h3, h4⟩ := next_ok N l 0 8 (by omega) hl (by omega) (by omega)
  rw [hx0, Option.bind_some]
  dsimp only
  obtain ⟨n, hn⟩ : ∃ n : Nat, IntKind.i64.wrap (2 + x0) = (n : Int) := ⟨(2 + x0).toNat, by rw [w64 (by omega) (by omega)]; omega⟩
  have hn2 : 2 ≤ n ∧ n ≤ 9 := by rw [w64 (by omega) (by omega)] at hn; omega
  rw [hn]
  refine loopX (g := fun r => r) (fun k (x : List (List Int) × Int) => ∃ i : Nat, x.2 = (i : Int) ∧ i + k = n ∧ x.1.length = i) (fun p => p.length = n) n ⟨0, rfl, by omega, rfl⟩ (by omega) ?_ ?_
  · rintro k ⟨p, x⟩ ⟨i, hx, hi, hp⟩
    simp only at hx hp
    subst hx
    dsimp only
    by_cases hlt : i < n
    · left
      rw [bif_dpos (by omega), grd_pos (by rw [maxLen_eq]; omega), w64n (by omega)]
      exact ⟨_, rfl, k - 1, by omega, i + 1, rfl, by omega, by simp [hp]⟩
    · right
      rw [bif_dneg (by omega)]
      exact ⟨_, rfl, by omega⟩
  · intro p hp
    refine loopX (g := fun r => r) (fun k (x : List Int × Int × List S_RoadmapEdge × Int) => ∃ u : Nat, x.2.2.2 = (u : Int) ∧ u + k = n ∧ x.1 = l ∧ 0 ≤ x.2.1 ∧ x.2.1 ≤ (l.length : Int) ∧ EL n x.2.2.1 u 0 ∧ x.2.2.1.length ≤ 9 * u)
      (fun es => EL n es n 0 ∧ es.length ≤ 9 * n) n ⟨0, rfl, by omega, rfl, h3, h4, fun i hi => by simp [nl] at hi, by simp [nl]⟩ (by omega) ?_ ?_
    · rintro k ⟨l', nx, es, x⟩ ⟨u, hx, hu, hl', hn0, hn1, hel, hlen⟩
      simp only at hx hl' hn0 hn1 hel hlen
      subst hx
      subst hl'
      dsimp only
      by_cases hlt : u < n
      · left
        rw [bif_dpos (by omega), w64n (by omega)]
        refine loopX (g := Step3.next) (fun k' (x : List Int × Int × List S_RoadmapEdge × Int) => ∃ v : Nat, x.2.2.2 = (v : Int) ∧ v + k' = n ∧ u < v ∧ x.1 = l' ∧ 0 ≤ x.2.1 ∧ x.2.1 ≤ (l'.length : Int) ∧ EL n x.2.2.1 u v ∧ x.2.2.1.length + u + 1 ≤ 9 * u + v)
          (fun x => x.1 = l' ∧ 0 ≤ x.2.1 ∧ x.2.1 ≤ (l'.length : Int) ∧ EL n x.2.2 u n ∧ x.2.2.length + u + 1 ≤ 9 * u + n) (n - (u + 1)) ⟨u + 1, rfl, by omega, by omega, rfl, hn0, hn1, hel.mono (fun a b h _ => by omega), by dsimp only; omega⟩ (by omega) ?_ ?_
        · rintro k' ⟨l2, nx2, es2, x2⟩ ⟨v, hx2, hv, huv, hl2, hm0, hm1, hel2, hlen2⟩
          simp only at hx2 hl2 hm0 hm1 hel2 hlen2
          subst hx2
          subst hl2
          dsimp only
          by_cases hlt2 : v < n
          · left
            rw [bif_dpos (by omega)]
            obtain ⟨y, b, hy, y1, y2, y3, y4⟩ := next_ok N l2 nx2 5 ⟨hm0, hm1⟩ hl (by omega) (by omega)
            rw [hy, Option.bind_some]
            dsimp only
            by_cases hy5 : y < 2
            · rw [bif_dpos hy5]
              obtain ⟨c, b2, hc, c1, c2, c3, c4⟩ := next_ok N l2 b 7 ⟨y3, y4⟩ hl (by omega) (by omega)
              rw [hc, Option.bind_some]
              dsimp only
              obtain ⟨s, b3, hs, s1, s2, s3, s4⟩ := next_ok N l2 b2 8 ⟨c3, c4⟩ hl (by omega) (by omega)
              rw [hs, Option.bind_some]
              dsimp only
              rw [grd_pos (by omega)]
              obtain ⟨cl, hcl⟩ := claim_ok N (([0, 0, 1, 1, 1, 2, 3, 1] : List Int).getD s.toNat 0)
              rw [hcl, Option.bind_some, grd_pos (by rw [maxLen_eq]; omega), andC_out, w64n (by omega)]
              refine ⟨_, rfl, k' - 1, by omega, v + 1, rfl, by omega, by omega, rfl, s3, s4, ?_, by simp; omega⟩
              exact hel2.snoc ⟨by dsimp only; omega, by dsimp only; omega, by dsimp only; omega, by dsimp only; omega, by dsimp only; omega⟩ rfl rfl
            · rw [bif_dneg hy5, andC_out, w64n (by omega)]
              exact ⟨_, rfl, k' - 1, by omega, v + 1, rfl, by omega, by omega, rfl, y3, y4, hel2.mono (fun a b h _ => by omega), by dsimp only; omega⟩
          · right
            rw [bif_dneg (by omega)]
            have : v = n := by omega
            subst this
            exact ⟨_, rfl, rfl, hm0, hm1, hel2, hlen2⟩
        · rintro ⟨l2, nx2, es2⟩ ⟨hl2, hm0, hm1, hel2, hlen2⟩
          simp only at hl2 hm0 hm1 hel2 hlen2
          exact ⟨_, rfl, k - 1, by omega, u + 1, rfl, by omega, hl2, hm0, hm1, hel2.mono (fun a b h hb => by omega), by dsimp only; omega⟩
      · right
        rw [bif_dneg (by omega)]
        have : u = n := by omega
        subst this
        exact ⟨_, rfl, hel, hlen⟩
    · rintro es ⟨hel, hlen⟩
      refine ⟨_, rfl, ⟨by dsimp only; omega, by dsimp only; omega⟩, ?_, by dsimp only; omega, by dsimp only; omega⟩
      intro j hj
      obtain ⟨q1, q2, _⟩ := hel j hj
      refine ⟨?_, q2⟩
      dsimp only
      rw [hp]; exact q1

theorem same_ints (N : Nat) (a : List Int) (h : a.length < N) (h2 : a.length < 1000000000000) : make_Same_int_F N a a = some true := by
  unfold make_Same_int_F
  rw [bif_nne rfl]
  refine andK_inl (y := .u) (iter_out (fun i => (i : Int)) rfl a.length h (fun i hi => ?_) ?_)
  · try dsimp only
    rw [bif_dpos (by omega), grd_pos (by omega), grd_pos (by omega), bif_nne rfl, w64n (by omega)]
  · try dsimp only
    rw [bif_dneg (by omega)]
theorem same_route (N : Nat) (a : S_Route) (h : a.Vertices.length < N) (h2 : a.Vertices.length < 1000000000000) : make_SameRoute_F N a a = some true := by
  unfold make_SameRoute_F
  rw [bif_eq rfl, same_ints N _ h h2]; rfl

theorem Routed.len {m : S_Roadmap} {fr t mode : Int} {r : S_Route × Bool} (hs : Small m) (ha : Asked m fr t) (h : Routed m fr t mode r) : r.1.Vertices.length ≤ 101 := by
  rcases h with ⟨_, h2, _⟩ | ⟨_, c, k, l, h2, h3, h4⟩
  · rw [h2]; simp [nl]
  · have g := Eg.graph ha.1 mode
    have e1 := h3.length g h2
    have e2 := h2.few g ha.2.2
    have := hs.1
    rw [h4]; simp; omega
theorem ShortP.len {m : S_Roadmap} {fr t mode : Int} {r : S_Route × Bool} (hs : Small m) (h : ShortP m fr t mode r) : r.1.Vertices.length ≤ 101 := by
  rcases h with ⟨_, h2⟩ | ⟨h1, h2⟩
  · rw [h2]; simp [nl]
  · exact h2.len hs h1.1

theorem law_shortest (N : Nat) (m : S_Roadmap) (fr t mode : Int) (hs : Small m) (hN : 100000 ≤ N) : law26_shortest_F N m fr t mode = some true := by
  unfold law26_shortest_F
  obtain ⟨r, h1, h2⟩ := Shortest_ok N m fr t mode hs hN
  obtain ⟨r', h1', h2'⟩ := refShortest_ok N m fr t mode hs hN
  have := h2.unique h2'
  subst this
  have hl := h2.len hs
  rw [h1, Option.bind_some, h1', Option.bind_some, bif_pos (by simp), same_route N _ (by omega) (by omega)]; rfl

theorem awake_ok : law26_awake_F 4294967296 = some true := by kernel_rfl

theorem small_ok (N : Nat) (m : S_Roadmap) : ∃ b, make_SmallMap_F N m = some b ∧ (b = true → Small m) := by
  unfold make_SmallMap_F Small
  by_cases h : ((m.Points.length : Nat) : Int) ≤ 30
  · rw [bif_dpos h]
    exact ⟨_, rfl, fun h2 => by rw [decide_eq_true_eq] at h2; omega⟩
  · rw [bif_dneg h]; exact ⟨_, rfl, fun h => by cases h⟩

theorem searchShortest_true (m : S_Roadmap) (fr t mode : Int) (l : List Int) (hl : l.length < 4000000000000) : law26_SearchShortest_F 4294967296 m fr t mode l = some true := by
  unfold law26_SearchShortest_F
  obtain ⟨b, hb, hbs⟩ := small_ok 4294967296 m
  rw [show (⟨m.Points, m.Edges⟩ : S_Roadmap) = m from rfl, hb, Option.bind_some]
  cases b with
  | false => rw [bif_pos (by rfl), awake_ok]; rfl
  | true =>
    have hs := hbs rfl
    obtain ⟨a, ha, has, haw, ha2, ha9⟩ := graph_ok 4294967296 l hl (by omega)
    rw [bif_neg (by rfl), ha, Option.bind_some]
    obtain ⟨x1, e1, _⟩ := round_ok 4294967296 fr (IntKind.i64.wrap (((a.Points.length : Nat) : Int) + 2)) (by rw [w64 (by omega) (by omega)]; omega) (by rw [w64 (by omega) (by omega)]; omega)
    obtain ⟨x2, e2, _⟩ := round_ok 4294967296 t ((a.Points.length : Nat) : Int) (by omega) (by omega)
    obtain ⟨x3, e3, _⟩ := round_ok 4294967296 mode 5 (by omega) (by omega)
    obtain ⟨x4, e4, _⟩ := round_ok 4294967296 fr 5 (by omega) (by omega)
    obtain ⟨x5, e5, _⟩ := round_ok 4294967296 t 5 (by omega) (by omega)
    rw [e1, Option.bind_some, e2, Option.bind_some, e3, Option.bind_some, awake_ok, Option.bind_some, bif_pos (by rfl), law_shortest _ m fr t mode hs (by omega), Option.bind_some, bif_pos (by rfl), e4, Option.bind_some, e5, Option.bind_some,
      law_shortest _ m _ _ _ hs (by omega), Option.bind_some, bif_pos (by rfl), law_shortest _ a _ _ _ has (by omega), Option.bind_some]
end Go.Abs
