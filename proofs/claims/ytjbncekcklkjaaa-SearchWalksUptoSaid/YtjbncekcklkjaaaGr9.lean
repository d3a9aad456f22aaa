/-
  Next: the program and the reference agree; the law SearchNext.
-/
import Derived.Test.YtjbncekcklkjaaaGr8
namespace Go.Abs

theorem half2 {x : Int} (h : 0 ≤ x) (h2 : x < 4000000000000) : IntKind.i64.wrap ((IntKind.u64.wrap (IntKind.i64.wrap x)).fdiv (2 ^ (min (1 : Int).toNat 64))) = x / 2 := by
  have e1 : IntKind.u64.wrap x = x := by
    simp only [IntKind.wrap, IntKind.bits, IntKind.signed, Bool.false_and, Bool.false_eq_true, if_false]
    omega
  have e2 : (2 : Int) ^ (min (1 : Int).toNat 64) = 2 := by decide
  rw [w64 (x := x) (by omega) (by omega), e1, e2, Int.fdiv_eq_ediv_of_nonneg _ (by omega), w64 (by omega) (by omega)]

theorem bsearch_ok (N : Nat) {m : S_Roadmap} (hs : Small m) (hw : WF m) {u v : Int} {e : Nat} (he : e < m.Edges.length) (hu : (m.Edges.getD e default).U = u) (hv : (m.Edges.getD e default).V = v) (hN : 100000 ≤ N) :
    slices_BinarySearchFunc_api_RoadmapEdge_api_RoadmapEdge_2_int_F N m.Edges (u, v) = some ((e : Int), true) := by
  have hs2 := hs.2
  have key : ∃ r, slices_BinarySearchFunc_api_RoadmapEdge_api_RoadmapEdge_2_int_F N m.Edges (u, v) = some r ∧ r = ((e : Int), true) := by
    unfold slices_BinarySearchFunc_api_RoadmapEdge_api_RoadmapEdge_2_int_F
    refine loopX (g := fun r => r) (fun k (x : Int × Int) => ∃ a b : Nat, x = ((a : Int), (b : Int)) ∧ a + k = b ∧ b ≤ m.Edges.length ∧ a ≤ e ∧ e ≤ b) (fun y => y = (e : Int)) m.Edges.length ⟨0, m.Edges.length, rfl, by omega, by omega, by omega, by omega⟩ (by omega) ?_ ?_
    · rintro k x ⟨a, b, rfl, hab, hb, h1, h2⟩
      dsimp only
      by_cases hlt : a < b
      · left
        rw [bif_dpos (by omega), grd_pos (by omega), half2 (by omega) (by omega)]
        obtain ⟨h, hh⟩ : ∃ h : Nat, ((a : Int) + (b : Int)) / 2 = (h : Int) := ⟨(a + b) / 2, by omega⟩
        have hah : a ≤ h ∧ h < b := by omega
        rw [hh, grd_pos (by omega), Int.toNat_natCast]
        obtain ⟨c, hc, hc1, hc2⟩ := comparePair_ok N (by omega) (m.Edges.getD h default) u v
        rw [hc, Option.bind_some]
        by_cases hcl : c < 0
        · rw [bif_dpos hcl, w64n (by omega)]
          refine ⟨_, rfl, b - (h + 1), by omega, h + 1, b, rfl, by omega, hb, ?_, h2⟩
          have := hc1.1 hcl
          rcases Nat.lt_or_ge h e with hhe | hhe
          · omega
          · exfalso
            by_cases hee : h = e
            · subst hee; omega
            · have := hw.lt (i := e) (j := h) (by omega) (by omega); unfold eLt at this; omega
        · rw [bif_dneg hcl]
          refine ⟨_, rfl, h - a, by omega, a, h, rfl, by omega, by omega, h1, ?_⟩
          rcases Nat.lt_or_ge h e with hhe | hhe
          · exfalso
            have := hw.lt (i := h) (j := e) hhe he
            unfold eLt at this
            exact hcl (hc1.2 (by omega))
          · exact hhe
      · right
        rw [bif_dneg (by omega)]
        exact ⟨_, rfl, by omega⟩
    · rintro y rfl
      rw [bif_dpos (by omega), grd_pos (by omega), Int.toNat_natCast]
      obtain ⟨c, hc, hc1, hc2⟩ := comparePair_ok N (by omega) (m.Edges.getD e default) u v
      rw [hc, Option.bind_some]
      have := hc2.2 ⟨hu, hv⟩
      exact ⟨_, rfl, by rw [this]; rfl⟩
  obtain ⟨r, h1, rfl⟩ := key
  exact h1

/-- Edge e joins the points at places i and i + 1. -/
def EI (m : S_Roadmap) (vs : List Int) (i e : Nat) : Prop := e < m.Edges.length ∧ (m.Edges.getD e default).U = min (vs.getD i default) (vs.getD (i + 1) default) ∧ (m.Edges.getD e default).V = max (vs.getD i default) (vs.getD (i + 1) default)

theorem between_ok (N : Nat) {m : S_Roadmap} (hs : Small m) (hw : WF m) {x y : Int} {e : Nat} (he : e < m.Edges.length) (hu : (m.Edges.getD e default).U = min x y) (hv : (m.Edges.getD e default).V = max x y) (hN : 100000 ≤ N) : search_between_F N m x y = some ((e : Int), true) := by
  unfold search_between_F
  rw [bsearch_ok N hs hw he hu hv hN]; rfl

theorem edgeOf_ok (N : Nat) {m : S_Roadmap} (hs : Small m) (hw : WF m) {x y : Int} {e : Nat} (he : e < m.Edges.length) (hu : (m.Edges.getD e default).U = min x y) (hv : (m.Edges.getD e default).V = max x y) (hN : 100000 ≤ N) : ref23_EdgeOf_F N m x y = some (e : Int) := by
  have hs2 := hs.2
  have key : ∃ r, ref23_EdgeOf_F N m x y = some r ∧ r = (e : Int) := by
    unfold ref23_EdgeOf_F
    refine loop_meas2 (fun k (x : Int) => ∃ i : Nat, x = (i : Int) ∧ i + k = m.Edges.length ∧ i ≤ e) (fun _ => False) m.Edges.length ⟨0, rfl, by omega, by omega⟩ (by omega) ?_ (fun _ h => h.elim)
    rintro k z ⟨i, rfl, hi, hie⟩
    have hlt : i < m.Edges.length := by omega
    rw [bif_dpos (by omega), grd_pos (by omega), Int.toNat_natCast]
    by_cases hi2 : i = e
    · subst hi2
      rw [bif_eq hu, grd_pos (by omega), andC_out, bif_eq hv]
      exact .inr (.inr ⟨_, rfl, rfl⟩)
    · refine .inl ⟨((i + 1 : Nat) : Int), k - 1, ?_, by omega, i + 1, rfl, by omega, by omega⟩
      by_cases h1 : (m.Edges.getD i default).U = min x y
      · rw [bif_eq h1, grd_pos (by omega), andC_out, bif_ne (fun h2 => hi2 (hw.one hlt he (by rw [h1, hu]) (by rw [h2, hv]))), w64n (by omega)]
      · rw [bif_ne h1, andC_out, bif_neg (by rfl), w64n (by omega)]
  obtain ⟨r, h1, rfl⟩ := key
  exact h1

theorem Rt.adj {E : Int → Int → Int → Prop} {t : Int} {v : Int} {l : List Int} (h : Rt E t v l) : ∀ i, i < l.length → ∃ c, E ((v :: l).getD i default) ((v :: l).getD (i + 1) default) c := by
  induction h with
  | nil => intro i hi; simp at hi
  | cons hv hn _ ih =>
    intro i hi
    cases i with
    | zero =>
      obtain ⟨_, _, e, _, he, _⟩ := hn.1
      exact ⟨e, by simpa using he⟩
    | succ i =>
      obtain ⟨c, hc⟩ := ih i (by simpa using hi)
      exact ⟨c, by simpa using hc⟩

theorem EI.exists {m : S_Roadmap} (hw : WF m) {mode fr t : Int} {l : List Int} (h : Rt (Eg m mode) t fr l) {i : Nat} (hi : i < l.length) : ∃ e, EI m (fr :: l) i e := by
  obtain ⟨c, e, he, hu, hc, hpq⟩ := h.adj i hi
  obtain ⟨o1, o2, o3, o4, o5⟩ := (hw e he).1
  exact ⟨e, he, by omega, by omega⟩
theorem EI.unique {m : S_Roadmap} (hw : WF m) {vs : List Int} {i e e' : Nat} (h : EI m vs i e) (h' : EI m vs i e') : e = e' := hw.one h.1 h'.1 (by rw [h.2.1, h'.2.1]) (by rw [h.2.2, h'.2.2])

def NextQ (m : S_Roadmap) (rt : S_Route) (r : Int × S_Route × Int) : Prop :=
  (r = (-1, rt, 1) ∧ ∀ i, i + 1 < rt.Vertices.length → ∀ e, EI m rt.Vertices i e → (m.Edges.getD e default).State ≠ 0) ∨
  ∃ i e : Nat, i + 1 < rt.Vertices.length ∧ EI m rt.Vertices i e ∧ (m.Edges.getD e default).State = 0 ∧ r = ((e : Int), rt, 3) ∧ ∀ j, j < i → ∀ e', EI m rt.Vertices j e' → (m.Edges.getD e' default).State ≠ 0
theorem NextQ.unique {m : S_Roadmap} (hw : WF m) {rt : S_Route} {r r' : Int × S_Route × Int} (h : NextQ m rt r) (h' : NextQ m rt r') : r = r' := by
  rcases h with ⟨h1, h2⟩ | ⟨i, e, h1, h2, h3, h4, h5⟩ <;> rcases h' with ⟨h1', h2'⟩ | ⟨i', e', h1', h2', h3', h4', h5'⟩
  · rw [h1, h1']
  · exact absurd h3' (h2 i' h1' e' h2')
  · exact absurd h3 (h2' i h1 e h2)
  · have hi : i = i' := by
      rcases Nat.lt_trichotomy i i' with hlt | he | hlt
      · exact absurd h3 (h5' i hlt e h2)
      · exact he
      · exact absurd h3' (h5 i' hlt e' h2')
    subst hi
    rw [h4, h4', h2.unique hw h2']
theorem NextQ.route {m : S_Roadmap} {rt : S_Route} {r : Int × S_Route × Int} (h : NextQ m rt r) : r.2.1 = rt := by
  rcases h with ⟨h1, _⟩ | ⟨i, e, _, _, _, h4, _⟩
  · rw [h1]
  · rw [h4]

def NextP (m : S_Roadmap) (fr t : Int) (r : Int × S_Route × Int) : Prop :=
  (¬ Asked m fr t ∧ r = (-1, ⟨nl, 0⟩, 0)) ∨ (Asked m fr t ∧ ∃ rt, Routed m fr t 1 rt ∧ ((rt.2 = false ∧ r = (-1, ⟨nl, 0⟩, 2)) ∨ (rt.2 = true ∧ NextQ m rt.1 r)))
theorem NextP.unique {m : S_Roadmap} {fr t : Int} {r r' : Int × S_Route × Int} (h : NextP m fr t r) (h' : NextP m fr t r') : r = r' := by
  rcases h with ⟨h1, h2⟩ | ⟨h1, rt, h2, h3⟩ <;> rcases h' with ⟨h1', h2'⟩ | ⟨h1', rt', h2', h3'⟩
  · rw [h2, h2']
  · exact absurd h1' h1
  · exact absurd h1 h1'
  · have := h2.unique h2'
    subst this
    rcases h3 with ⟨a, b⟩ | ⟨a, b⟩ <;> rcases h3' with ⟨a', b'⟩ | ⟨a', b'⟩
    · rw [b, b']
    · rw [a] at a'; cases a'
    · rw [a] at a'; cases a'
    · exact b.unique h1.1 b'
theorem NextP.len {m : S_Roadmap} {fr t : Int} {r : Int × S_Route × Int} (hs : Small m) (h : NextP m fr t r) : r.2.1.Vertices.length ≤ 101 := by
  rcases h with ⟨_, h2⟩ | ⟨h1, rt, h2, ⟨_, h3⟩ | ⟨_, h3⟩⟩
  · rw [h2]; simp [nl]
  · rw [h3]; simp [nl]
  · rw [h3.route]; exact h2.len hs h1

theorem Next_ok (N : Nat) (m : S_Roadmap) (fr t : Int) (hs : Small m) (hN : 100000 ≤ N) : ∃ r, search_Next_F N m fr t = some r ∧ NextP m fr t r := by
  unfold search_Next_F
  obtain ⟨b, hb, hbw⟩ := wellFormed_ok N m hs (by omega)
  rw [hb, Option.bind_some]
  have none : ¬ Asked m fr t → ∃ r, (some ((-1 : Int), (⟨nl, 0⟩ : S_Route), (0 : Int)) : Option (Int × S_Route × Int)) = some r ∧ NextP m fr t r := fun h => ⟨_, rfl, .inl ⟨h, rfl⟩⟩
  cases b with
  | false =>
    rw [bif_pos (by rfl), andC_out, bif_pos (by rfl)]
    exact none (fun h => by have := hbw.2 h.1; cases this)
  | true =>
    have hw := hbw.1 rfl
    rw [bif_neg (by rfl), isPoint_ok, Option.bind_some]
    by_cases h1 : 0 ≤ fr ∧ fr < (m.Points.length : Int)
    · rw [bif_nneg h1, isPoint_ok, Option.bind_some, andC_out]
      by_cases h2 : 0 ≤ t ∧ t < (m.Points.length : Int)
      · rw [bif_nneg h2]
        have ha : Asked m fr t := ⟨hw, h1, h2⟩
        obtain ⟨L, rt, e1, e2, e3⟩ := prog_routed N m fr t 1 hs ha hN
        have hrl := e3.len hs ha
        rw [e1, Option.bind_some, e2, Option.bind_some]
        rcases e3 with ⟨q1, q2, q3⟩ | ⟨q1, c, k, l, q2, q3, q4⟩
        · rw [q1, bif_pos (by rfl)]
          exact ⟨_, rfl, .inr ⟨ha, rt, .inl ⟨q1, q2, q3⟩, .inl ⟨q1, rfl⟩⟩⟩
        · have hP : ∀ r, NextQ m rt.1 r → NextP m fr t r := fun r h => .inr ⟨ha, rt, .inr ⟨q1, c, k, l, q2, q3, q4⟩, .inr ⟨q1, h⟩⟩
          rw [q1, bif_neg (by rfl)]
          rw [q4] at hP hrl ⊢
          simp only [List.length_cons] at hrl
          dsimp only
          have e0 : (1 : Int).toNat = 1 := rfl
          have e9 : (((((fr :: l).length : Nat) : Int)).toNat - 1) = l.length := by simp
          rw [grd_pos (by simp only [List.length_cons]; omega), e0, e9]
          have hX : (List.take l.length (List.drop 1 (fr :: l))) = l := by simp
          rw [hX]
          refine (loop_meas2 (P := NextQ m ⟨fr :: l, c⟩) (fun k (x : List Int × Int) => ∃ i : Nat, x = (l, (i : Int)) ∧ i + k = l.length ∧ ∀ j, j < i → ∀ e, EI m (fr :: l) j e → (m.Edges.getD e default).State ≠ 0)
            (fun _ => ∀ j, j < l.length → ∀ e, EI m (fr :: l) j e → (m.Edges.getD e default).State ≠ 0) l.length ⟨0, rfl, by omega, fun j hj => by omega⟩ (by omega) ?_ ?_).imp (fun r h => ⟨h.1, hP r h.2⟩)
          · rintro k' x ⟨i, rfl, hi, hpre⟩
            dsimp only
            by_cases hlt : i < l.length
            · rw [bif_dpos (by omega), grd_pos (by omega), grd_pos (by simp only [List.length_cons]; omega), Int.toNat_natCast]
              obtain ⟨e, he⟩ := EI.exists hw q3 hlt
              have hbt := between_ok N hs hw (x := (fr :: l).getD i default) (y := l.getD i default) he.1 (by have := he.2.1; simpa using this) (by have := he.2.2; simpa using this) hN
              rw [show (⟨m.Points, m.Edges⟩ : S_Roadmap) = m from rfl, hbt, Option.bind_some]
              dsimp only
              have hel := he.1
              rw [grd_pos (by omega), Int.toNat_natCast]
              by_cases hst : (m.Edges.getD e default).State = 0
              · rw [bif_eq hst]
                exact .inr (.inr ⟨_, rfl, .inr ⟨i, e, by simp only [List.length_cons]; omega, he, hst, rfl, hpre⟩⟩)
              · rw [bif_ne hst, w64n (by omega)]
                refine .inl ⟨_, k' - 1, rfl, by omega, i + 1, rfl, by omega, fun j hj e' he' => ?_⟩
                by_cases hji : j = i
                · subst hji; rw [he'.unique hw he]; exact hst
                · exact hpre j (by omega) e' he'
            · rw [bif_dneg (by omega)]
              exact .inr (.inl ⟨_, rfl, fun j hj => hpre j (by omega)⟩)
          · intro _ h
            exact ⟨_, rfl, .inl ⟨rfl, fun i hi => h i (by simp only [List.length_cons] at hi; omega)⟩⟩
      · rw [bif_npos h2]; exact none (fun h => h2 h.2.2)
    · rw [bif_npos h1, andC_out, bif_pos (by rfl)]; exact none (fun h => h1 h.2.1)

theorem refNext_ok (N : Nat) (m : S_Roadmap) (fr t : Int) (hs : Small m) (hN : 100000 ≤ N) : ∃ r, ref23_Next_F N m fr t = some r ∧ NextP m fr t r := by
  unfold ref23_Next_F
  obtain ⟨b, hb, hbw⟩ := asked_ok N m fr t hs hN
  rw [hb, Option.bind_some]
  cases b with
  | false =>
    rw [bif_pos (by rfl)]
    exact ⟨_, rfl, .inl ⟨fun h => (by have := hbw.2 h; cases this), rfl⟩⟩
  | true =>
    have ha := hbw.1 rfl
    have hw := ha.1
    rw [bif_neg (by rfl)]
    obtain ⟨rt, e1, e3⟩ := ref_routed N m fr t 1 hs ha (by omega) hN
    have hrl := e3.len hs ha
    rw [e1, Option.bind_some]
    rcases e3 with ⟨q1, q2, q3⟩ | ⟨q1, c, k, l, q2, q3, q4⟩
    · rw [q1, bif_pos (by rfl)]
      exact ⟨_, rfl, .inr ⟨ha, rt, .inl ⟨q1, q2, q3⟩, .inl ⟨q1, rfl⟩⟩⟩
    · have hP : ∀ r, NextQ m rt.1 r → NextP m fr t r := fun r h => .inr ⟨ha, rt, .inr ⟨q1, c, k, l, q2, q3, q4⟩, .inr ⟨q1, h⟩⟩
      rw [q1, bif_neg (by rfl)]
      rw [q4] at hP hrl ⊢
      simp only [List.length_cons] at hrl
      dsimp only
      refine (loop_meas2 (P := NextQ m ⟨fr :: l, c⟩) (fun k (x : Int) => ∃ i : Nat, x = ((i + 1 : Nat) : Int) ∧ i + k = l.length ∧ ∀ j, j < i → ∀ e, EI m (fr :: l) j e → (m.Edges.getD e default).State ≠ 0)
        (fun _ => ∀ j, j < l.length → ∀ e, EI m (fr :: l) j e → (m.Edges.getD e default).State ≠ 0) l.length ⟨0, rfl, by omega, fun j hj => by omega⟩ (by omega) ?_ ?_).imp (fun r h => ⟨h.1, hP r h.2⟩)
      · rintro k' x ⟨i, rfl, hi, hpre⟩
        by_cases hlt : i < l.length
        · have hwr : IntKind.i64.wrap (((i + 1 : Nat) : Int) - 1) = (i : Int) := by rw [w64 (by omega) (by omega)]; omega
          rw [bif_dpos (by simp only [List.length_cons]; omega), hwr, grd_pos (by simp only [List.length_cons]; omega), grd_pos (by simp only [List.length_cons]; omega), Int.toNat_natCast, Int.toNat_natCast]
          obtain ⟨e, he⟩ := EI.exists hw q3 hlt
          rw [edgeOf_ok N hs hw he.1 he.2.1 he.2.2 hN, Option.bind_some]
          have hel := he.1
          rw [grd_pos (by omega), Int.toNat_natCast]
          by_cases hst : (m.Edges.getD e default).State = 0
          · rw [bif_eq hst]
            exact .inr (.inr ⟨_, rfl, .inr ⟨i, e, by simp only [List.length_cons]; omega, he, hst, rfl, hpre⟩⟩)
          · rw [bif_ne hst, w64n (by omega)]
            refine .inl ⟨_, k' - 1, rfl, by omega, i + 1, rfl, by omega, fun j hj e' he' => ?_⟩
            by_cases hji : j = i
            · subst hji; rw [he'.unique hw he]; exact hst
            · exact hpre j (by omega) e' he'
        · rw [bif_dneg (by simp only [List.length_cons]; omega)]
          exact .inr (.inl ⟨_, rfl, fun j hj => hpre j (by omega)⟩)
      · intro _ h
        exact ⟨_, rfl, .inl ⟨rfl, fun i hi => h i (by simp only [List.length_cons] at hi; omega)⟩⟩

theorem law_next (N : Nat) (m : S_Roadmap) (fr t : Int) (hs : Small m) (hN : 100000 ≤ N) : law26_next_F N m fr t = some true := by
  unfold law26_next_F
  obtain ⟨r, h1, h2⟩ := Next_ok N m fr t hs hN
  obtain ⟨r', h1', h2'⟩ := refNext_ok N m fr t hs hN
  have := h2.unique h2'
  subst this
  have hl := h2.len hs
  rw [h1, Option.bind_some, h1', Option.bind_some, bif_eq rfl, bif_eq rfl, same_route N _ (by omega) (by omega)]; rfl

theorem searchNext_true (m : S_Roadmap) (fr t : Int) (l : List Int) (hl : l.length < 4000000000000) : law26_SearchNext_F 4294967296 m fr t l = some true := by
  unfold law26_SearchNext_F
  obtain ⟨b, hb, hbs⟩ := small_ok 4294967296 m
  rw [hb, Option.bind_some]
  cases b with
  | false => rw [bif_pos (by rfl), awake_ok]; rfl
  | true =>
    have hs := hbs rfl
    obtain ⟨a, ha, has, haw, ha2, ha9⟩ := graph_ok 4294967296 l hl (by omega)
    rw [bif_neg (by rfl), ha, Option.bind_some]
    obtain ⟨x1, e1, _⟩ := round_ok 4294967296 fr ((a.Points.length : Nat) : Int) (by omega) (by omega)
    obtain ⟨x2, e2, _⟩ := round_ok 4294967296 t ((a.Points.length : Nat) : Int) (by omega) (by omega)
    obtain ⟨x4, e4, _⟩ := round_ok 4294967296 fr 5 (by omega) (by omega)
    obtain ⟨x5, e5, _⟩ := round_ok 4294967296 t 5 (by omega) (by omega)
    rw [awake_ok, Option.bind_some, bif_pos (by rfl), law_next _ m fr t hs (by omega), Option.bind_some, bif_pos (by rfl), e4, Option.bind_some, e5, Option.bind_some,
      law_next _ m _ _ hs (by omega), Option.bind_some, bif_pos (by rfl), e1, Option.bind_some, e2, Option.bind_some, law_next _ a _ _ has (by omega), Option.bind_some]
end Go.Abs
