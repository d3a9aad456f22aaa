/-
  Well-formed roadmaps, their links and edges.
-/
import Derived.Test.YtjbncekcklkjaaaGr2
import Derived.Test.YtjbncekcklkjaaaS3
namespace Go.Abs

def EdgeOk (n : Nat) (e : S_RoadmapEdge) : Prop := 0 ≤ e.U ∧ e.U < e.V ∧ e.V < (n : Int) ∧ 0 ≤ e.Cost ∧ e.Cost ≤ 1099511627776
def eLt (a b : S_RoadmapEdge) : Prop := a.U < b.U ∨ a.U = b.U ∧ a.V < b.V
def Pre (m : S_Roadmap) (k : Nat) : Prop := ∀ j, j < k → EdgeOk m.Points.length (m.Edges.getD j default) ∧ (0 < j → eLt (m.Edges.getD (j - 1) default) (m.Edges.getD j default))
def WF (m : S_Roadmap) : Prop := Pre m m.Edges.length
def Small (m : S_Roadmap) : Prop := m.Points.length ≤ 100 ∧ m.Edges.length ≤ 200

theorem compare_ok (N : Nat) (a b : Int) : cmp_Compare_int_F N a b = some (if a < b then -1 else if a > b then 1 else 0) := by
  unfold cmp_Compare_int_F cmp_isNaN_int_F
  simp only [Option.bind_some, bne_self_eq_false, cond_false]
  by_cases h : a < b
  · rw [bif_dpos h, if_pos h]
  · rw [bif_dneg h, if_neg h]
    by_cases h2 : a > b
    · rw [bif_dpos h2, if_pos h2]
    · rw [bif_dneg h2, if_neg h2]

theorem or_ok (N : Nat) (hN : 3 ≤ N) (a b : Int) : cmp_Or_int_F N [a, b] = some (if a ≠ 0 then a else b) := by
  obtain ⟨M, rfl⟩ : ∃ M, N = M + 3 := ⟨N - 3, by omega⟩
  have w1 : IntKind.i64.wrap (1 : Int) = 1 := by decide
  have w2 : IntKind.i64.wrap (2 : Int) = 2 := by decide
  unfold cmp_Or_int_F
  by_cases ha : a = 0
  · subst ha
    by_cases hb : b = 0
    · subst hb; simp [iter, andK, grd, w1, w2]
    · have : (b != 0) = true := by simpa using hb
      simp [iter, andK, grd, w1, this]
  · have : (a != 0) = true := by simpa using ha
    simp [iter, andK, grd, this, ha]

theorem comparePair_ok (N : Nat) (hN : 3 ≤ N) (e : S_RoadmapEdge) (u v : Int) : ∃ c, search_comparePair_F N e (u, v) = some c ∧ (c < 0 ↔ e.U < u ∨ e.U = u ∧ e.V < v) ∧ (c = 0 ↔ e.U = u ∧ e.V = v) := by
  unfold search_comparePair_F
  rw [grd_pos (by omega), compare_ok, Option.bind_some, grd_pos (by omega), compare_ok, Option.bind_some, or_ok N hN, Option.bind_some]
  refine ⟨_, rfl, ?_⟩
  by_cases h1 : e.U < u
  · rw [if_pos h1]; simp; omega
  · rw [if_neg h1]
    by_cases h2 : e.U > u
    · rw [if_pos h2]; simp; omega
    · rw [if_neg h2, if_neg (by omega)]
      by_cases h3 : e.V < v
      · rw [if_pos h3]; omega
      · rw [if_neg h3]
        by_cases h4 : e.V > v
        · rw [if_pos h4]; omega
        · rw [if_neg h4]; omega

theorem isPoint_ok (N : Nat) (m : S_Roadmap) (v : Int) : search_isPoint_F N m v = some (decide (0 ≤ v ∧ v < (m.Points.length : Int))) := by
  unfold search_isPoint_F
  by_cases h : v ≥ 0
  · rw [bif_dpos h]; simp [show 0 ≤ v from h]
  · rw [bif_dneg h]; simp; omega

theorem wellFormed_ok (N : Nat) (m : S_Roadmap) (hs : Small m) (hN : 1000 ≤ N) : ∃ b, search_wellFormed_F N m = some b ∧ (b = true ↔ WF m) := by
  obtain ⟨hs1, hs2⟩ := hs
  unfold search_wellFormed_F
  rw [bif_dneg (by omega), andC_out, bif_dneg (by omega)]
  refine loop_meas2 (fun k (x : Int) => ∃ i : Nat, x = (i : Int) ∧ i + k = m.Edges.length ∧ Pre m i) (fun _ => WF m) m.Edges.length ⟨0, rfl, by omega, fun j hj => by omega⟩ (by omega) ?_ (fun _ h => ⟨true, rfl, by simp [h]⟩)
  rintro k x ⟨i, rfl, hi, hpre⟩
  by_cases hlt : i < m.Edges.length
  · rw [bif_dpos (by omega), grd_pos (by omega), Int.toNat_natCast]
    have hno : ¬ EdgeOk m.Points.length (m.Edges.getD i default) → ¬ WF m := fun h hw => h (hw i hlt).1
    by_cases hok : EdgeOk m.Points.length (m.Edges.getD i default)
    · obtain ⟨o1, o2, o3, o4, o5⟩ := hok
      rw [isPoint_ok, Option.bind_some, bif_nneg (by simp only; omega), isPoint_ok, Option.bind_some, bif_nneg (by simp only; omega), bif_dneg (by omega), bif_dneg (by omega), andC_out, bif_dneg (by omega)]
      by_cases h0 : i = 0
      · subst h0
        rw [bif_dneg (by simp), andC_out, bif_neg (by rfl), w64n (by omega)]
        refine .inl ⟨_, k - 1, rfl, by omega, 1, rfl, by omega, fun j hj => ?_⟩
        have hj0 : j = 0 := by omega
        subst hj0
        exact ⟨⟨o1, o2, o3, o4, o5⟩, fun h => absurd h (by omega)⟩
      · have hw : IntKind.i64.wrap ((i : Int) - 1) = ((i - 1 : Nat) : Int) := by rw [w64 (by omega) (by omega)]; omega
        rw [bif_dpos (by omega), hw, grd_pos (by omega), Int.toNat_natCast]
        obtain ⟨c, hc, hc1, hc2⟩ := comparePair_ok N (by omega) (m.Edges.getD (i - 1) default) (m.Edges.getD i default).U (m.Edges.getD i default).V
        rw [hc, Option.bind_some, andC_out]
        by_cases hcl : c < 0
        · rw [bif_dneg (by omega), w64n (by omega)]
          refine .inl ⟨_, k - 1, rfl, by omega, i + 1, rfl, by omega, fun j hj => ?_⟩
          by_cases hji : j = i
          · subst hji; exact ⟨⟨o1, o2, o3, o4, o5⟩, fun _ => hc1.1 hcl⟩
          · exact hpre j (by omega)
        · rw [bif_dpos (by omega)]
          refine .inr (.inr ⟨_, rfl, ?_⟩)
          simp only [Bool.false_eq_true, false_iff]
          intro hw
          exact hcl (hc1.2 ((hw i hlt).2 (by omega)))
    · have hnw := hno hok
      refine .inr (.inr ⟨false, ?_, by simp [hnw]⟩)
      unfold EdgeOk at hok
      rw [isPoint_ok, Option.bind_some]
      by_cases h1 : 0 ≤ (m.Edges.getD i default).U ∧ (m.Edges.getD i default).U < (m.Points.length : Int)
      · rw [bif_nneg h1, isPoint_ok, Option.bind_some]
        by_cases h2 : 0 ≤ (m.Edges.getD i default).V ∧ (m.Edges.getD i default).V < (m.Points.length : Int)
        · rw [bif_nneg h2]
          by_cases h3 : (m.Edges.getD i default).U ≥ (m.Edges.getD i default).V
          · rw [bif_dpos h3, andC_out, bif_pos (by rfl)]
          · rw [bif_dneg h3]
            by_cases h4 : (m.Edges.getD i default).Cost < 0
            · rw [bif_dpos h4, andC_out, bif_pos (by rfl)]
            · rw [bif_dneg h4, andC_out, bif_dpos (by omega)]
        · rw [bif_npos h2, andC_out, bif_pos (by rfl)]
      · rw [bif_npos h1, andC_out, bif_pos (by rfl)]
  · rw [bif_dneg (by omega)]
    refine .inr (.inl ⟨_, rfl, ?_⟩)
    have : i = m.Edges.length := by omega
    subst this; exact hpre

theorem ordered_ok (N : Nat) (m : S_Roadmap) (hs : Small m) (hN : 1000 ≤ N) (hcost : ∀ j, j < m.Edges.length → 0 ≤ (m.Edges.getD j default).Cost ∧ (m.Edges.getD j default).Cost ≤ 1099511627776) : ∃ b, ref23_ordered_F N m = some b ∧ (b = true ↔ WF m) := by
  obtain ⟨hs1, hs2⟩ := hs
  unfold ref23_ordered_F
  refine loop_meas2 (fun k (x : Int) => ∃ i : Nat, x = (i : Int) ∧ i + k = m.Edges.length ∧ Pre m i) (fun _ => WF m) m.Edges.length ⟨0, rfl, by omega, fun j hj => by omega⟩ (by omega) ?_ (fun _ h => ⟨true, by rw [bif_dpos (by omega)]; simp; omega, by simp [h]⟩)
  rintro k x ⟨i, rfl, hi, hpre⟩
  by_cases hlt : i < m.Edges.length
  · rw [bif_dpos (by omega), grd_pos (by omega), Int.toNat_natCast]
    have hno : ¬ EdgeOk m.Points.length (m.Edges.getD i default) → ¬ WF m := fun h hw => h (hw i hlt).1
    have hci := hcost i hlt
    by_cases hok : EdgeOk m.Points.length (m.Edges.getD i default)
    · obtain ⟨o1, o2, o3, o4, o5⟩ := hok
      rw [bif_dneg (by omega), bif_dneg (by omega), andC_out, bif_dneg (by omega)]
      by_cases h0 : i = 0
      · subst h0
        rw [bif_dneg (by simp), andC_out, bif_neg (by rfl), w64n (by omega)]
        refine .inl ⟨_, k - 1, rfl, by omega, 1, rfl, by omega, fun j hj => ?_⟩
        have hj0 : j = 0 := by omega
        subst hj0
        exact ⟨⟨o1, o2, o3, o4, o5⟩, fun h => absurd h (by omega)⟩
      · have hw : IntKind.i64.wrap ((i : Int) - 1) = ((i - 1 : Nat) : Int) := by rw [w64 (by omega) (by omega)]; omega
        rw [bif_dpos (by omega), hw, grd_pos (by omega), Int.toNat_natCast]
        by_cases hcl : eLt (m.Edges.getD (i - 1) default) (m.Edges.getD i default)
        · refine .inl ⟨((i + 1 : Nat) : Int), k - 1, ?_, by omega, i + 1, rfl, by omega, fun j hj => ?_⟩
          · unfold eLt at hcl
            rw [bif_dneg (by omega), grd_pos (by omega)]
            by_cases he : (m.Edges.getD (i - 1) default).U = (m.Edges.getD i default).U
            · rw [bif_eq he, grd_pos (by omega), andC_out, bif_dneg (by omega), w64n (by omega)]
            · rw [bif_ne he, andC_out, bif_neg (by rfl), w64n (by omega)]
          · by_cases hji : j = i
            · subst hji; exact ⟨⟨o1, o2, o3, o4, o5⟩, fun _ => hcl⟩
            · exact hpre j (by omega)
        · refine .inr (.inr ⟨false, ?_, ?_⟩)
          · unfold eLt at hcl
            by_cases hg : (m.Edges.getD (i - 1) default).U > (m.Edges.getD i default).U
            · rw [bif_dpos hg, andC_out, bif_pos (by rfl)]
            · rw [bif_dneg hg, grd_pos (by omega), bif_eq (by omega), grd_pos (by omega), andC_out, bif_dpos (by omega)]
          · simp only [Bool.false_eq_true, false_iff]
            intro hw
            exact hcl ((hw i hlt).2 (by omega))
    · have hnw := hno hok
      refine .inr (.inr ⟨false, ?_, by simp [hnw]⟩)
      unfold EdgeOk at hok
      by_cases h1 : (m.Edges.getD i default).U < 0
      · rw [bif_dpos h1, andC_out, bif_pos (by rfl)]
      · rw [bif_dneg h1]
        by_cases h3 : (m.Edges.getD i default).U ≥ (m.Edges.getD i default).V
        · rw [bif_dpos h3, andC_out, bif_pos (by rfl)]
        · rw [bif_dneg h3, andC_out, bif_dpos (by omega)]
  · rw [bif_dneg (by omega)]
    refine .inr (.inl ⟨_, rfl, ?_⟩)
    have : i = m.Edges.length := by omega
    subst this; exact hpre

theorem formed_ok (N : Nat) (m : S_Roadmap) (hs : Small m) (hN : 1000 ≤ N) : ∃ b, ref23_Formed_F N m = some b ∧ (b = true ↔ WF m) := by
  have hss := hs
  obtain ⟨hs1, hs2⟩ := hs
  unfold ref23_Formed_F
  refine loop_meas2 (fun k (x : Int) => ∃ i : Nat, x = (i : Int) ∧ i + k = m.Edges.length ∧ ∀ j, j < i → 0 ≤ (m.Edges.getD j default).Cost ∧ (m.Edges.getD j default).Cost ≤ 1099511627776) (fun _ => ∀ j, j < m.Edges.length → 0 ≤ (m.Edges.getD j default).Cost ∧ (m.Edges.getD j default).Cost ≤ 1099511627776) m.Edges.length ⟨0, rfl, by omega, fun j hj => by omega⟩ (by omega) ?_ (fun _ h => ?_)
  · rintro k x ⟨i, rfl, hi, hpre⟩
    by_cases hlt : i < m.Edges.length
    · rw [bif_dpos (by omega), grd_pos (by omega), Int.toNat_natCast]
      by_cases hok : 0 ≤ (m.Edges.getD i default).Cost ∧ (m.Edges.getD i default).Cost ≤ 1099511627776
      · rw [bif_dneg (by omega), grd_pos (by omega), andC_out, bif_dneg (by omega), w64n (by omega)]
        refine .inl ⟨_, k - 1, rfl, by omega, i + 1, rfl, by omega, fun j hj => ?_⟩
        by_cases hji : j = i
        · subst hji; exact hok
        · exact hpre j (by omega)
      · refine .inr (.inr ⟨false, ?_, ?_⟩)
        · by_cases h1 : (m.Edges.getD i default).Cost < 0
          · rw [bif_dpos h1, andC_out, bif_pos (by rfl)]
          · rw [bif_dneg h1, grd_pos (by omega), andC_out, bif_dpos (by omega)]
        · simp only [Bool.false_eq_true, false_iff]
          intro hw
          obtain ⟨_, _, _, h4, h5⟩ := (hw i hlt).1
          exact hok ⟨h4, h5⟩
    · rw [bif_dneg (by omega)]
      refine .inr (.inl ⟨_, rfl, ?_⟩)
      have : i = m.Edges.length := by omega
      subst this; exact hpre
  · obtain ⟨b, hb, hw⟩ := ordered_ok N m hss hN h
    exact ⟨b, by rw [hb]; rfl, hw⟩

/-! ### Edges that may be used -/
def usableB (s mode : Int) : Bool := if mode = 0 then s == 1 else if mode = 1 then (s == 1 || s == 0) else if mode = 2 then s != 2 else false
theorem usable_ok (N : Nat) (s mode : Int) : search_usable_F N s mode = some (usableB s mode) := by
  unfold search_usable_F usableB
  by_cases h0 : mode = 0
  · rw [bif_pos (by simpa using h0), if_pos h0]
  · rw [bif_neg (by simpa using h0), if_neg h0]
    by_cases h1 : mode = 1
    · rw [bif_pos (by simpa using h1), if_pos h1]
      cases s == 1 <;> rfl
    · rw [bif_neg (by simpa using h1), if_neg h1]
      by_cases h2 : mode = 2
      · rw [bif_pos (by simpa using h2), if_pos h2]
      · rw [bif_neg (by simpa using h2), if_neg h2]
theorem usableIn_ok (N : Nat) (e : S_RoadmapEdge) (mode : Int) : ref23_UsableIn_F N e mode = some (usableB e.State mode) := usable_ok N e.State mode

/-- An edge that may be used joins two points. -/
def Eg (m : S_Roadmap) (mode u v c : Int) : Prop := ∃ i, i < m.Edges.length ∧ usableB (m.Edges.getD i default).State mode = true ∧ (m.Edges.getD i default).Cost = c ∧ ((m.Edges.getD i default).U = u ∧ (m.Edges.getD i default).V = v ∨ (m.Edges.getD i default).U = v ∧ (m.Edges.getD i default).V = u)

theorem Eg.graph {m : S_Roadmap} (h : WF m) (mode : Int) : Graph (Eg m mode) m.Points.length 1099511627776 := by
  refine ⟨fun u v c ⟨i, h1, h2, h3, h4⟩ => ⟨i, h1, h2, h3, h4.symm⟩, fun u v c ⟨i, h1, h2, h3, h4⟩ => ?_, fun u v c ⟨i, h1, h2, h3, h4⟩ => ?_⟩
  · obtain ⟨_, _, _, h5, h6⟩ := (h i h1).1; omega
  · obtain ⟨_, _, _, h5, h6⟩ := (h i h1).1; omega

theorem WF.lt {m : S_Roadmap} (h : WF m) {i j : Nat} (hij : i < j) (hj : j < m.Edges.length) : eLt (m.Edges.getD i default) (m.Edges.getD j default) := by
  induction j with
  | zero => omega
  | succ j ih =>
    have h1 := (h (j + 1) hj).2 (by omega)
    rw [show j + 1 - 1 = j by omega] at h1
    by_cases he : i = j
    · subst he; exact h1
    · have := ih (by omega) (by omega)
      unfold eLt at *; omega

/-- The edge between two points is one only. -/
theorem WF.one {m : S_Roadmap} (h : WF m) {i j : Nat} (hi : i < m.Edges.length) (hj : j < m.Edges.length) (hu : (m.Edges.getD i default).U = (m.Edges.getD j default).U) (hv : (m.Edges.getD i default).V = (m.Edges.getD j default).V) : i = j := by
  rcases Nat.lt_trichotomy i j with hlt | he | hlt
  · have := h.lt hlt hj; unfold eLt at this; omega
  · exact he
  · have := h.lt hlt hi; unfold eLt at this; omega

/-! ### Links -/
def lk (mode v : Int) (e : S_RoadmapEdge) : List S_search_link := if usableB e.State mode = true then (if e.U = v then [⟨e.V, e.Cost⟩] else if e.V = v then [⟨e.U, e.Cost⟩] else []) else []
def linkL (es : List S_RoadmapEdge) (mode v : Int) : List S_search_link := es.flatMap (lk mode v)

theorem linkL_snoc (es : List S_RoadmapEdge) (e : S_RoadmapEdge) (mode v : Int) : linkL (es ++ [e]) mode v = linkL es mode v ++ lk mode v e := by simp [linkL]
theorem linkL_len (es : List S_RoadmapEdge) (mode v : Int) : (linkL es mode v).length ≤ es.length := by
  induction es with
  | nil => simp [linkL]
  | cons e es ih =>
    have : (lk mode v e).length ≤ 1 := by
      unfold lk; split
      · split
        · simp
        · split <;> simp
      · simp
    simp only [linkL, List.flatMap_cons, List.length_append, List.length_cons] at ih ⊢
    omega

theorem links_ok (N : Nat) (m : S_Roadmap) (mode : Int) (hs : Small m) (hw : WF m) (hN : 1000 ≤ N) :
    ∃ L, search_links_F N m mode = some L ∧ L.length = m.Points.length ∧ ∀ v, v < m.Points.length → L.getD v default = linkL m.Edges mode v := by
  obtain ⟨hs1, hs2⟩ := hs
  unfold search_links_F
  rw [grd_pos (by omega)]
  refine loop_meas (fun k (x : List (List S_search_link) × Int) => ∃ i : Nat, x.2 = (i : Int) ∧ i + k = m.Edges.length ∧ x.1.length = m.Points.length ∧ ∀ v, v < m.Points.length → x.1.getD v default = linkL (m.Edges.take i) mode v)
    (fun L => L.length = m.Points.length ∧ ∀ v, v < m.Points.length → L.getD v default = linkL m.Edges mode v) m.Edges.length ⟨0, rfl, by omega, by simp, fun v hv => ?_⟩ (by omega) ?_ (fun L h => ⟨L, rfl, h⟩)
  · simp [List.getD_eq_getElem?_getD, hv, linkL, nl]
  · rintro k ⟨L, x⟩ ⟨i, hx, hi, hL, hlk⟩
    simp only at hx hL hlk
    subst hx
    simp only
    by_cases hlt : i < m.Edges.length
    · rw [bif_dpos (by omega), grd_pos (by omega), Int.toNat_natCast, usable_ok, Option.bind_some]
      obtain ⟨o1, o2, o3, o4, o5⟩ := (hw i hlt).1
      have htake := take_snoc hlt
      left
      by_cases hu : usableB (m.Edges.getD i default).State mode = true
      · rw [bif_pos hu]
        have hlenU : (L.getD (m.Edges.getD i default).U.toNat default).length ≤ m.Edges.length := by
          rw [hlk _ (by omega)]; have := linkL_len (m.Edges.take i) mode (((m.Edges.getD i default).U.toNat : Nat) : Int); simp at this ⊢; omega
        have hlenV : (L.getD (m.Edges.getD i default).V.toNat default).length ≤ m.Edges.length := by
          rw [hlk _ (by omega)]; have := linkL_len (m.Edges.take i) mode (((m.Edges.getD i default).V.toNat : Nat) : Int); simp at this ⊢; omega
        rw [grd_pos (by omega), grd_pos (by omega), grd_pos (by rw [maxLen_eq]; omega), grd_pos (by omega), grd_pos ⟨by omega, trivial⟩, andC_out]
        rw [getD_set (i := (m.Edges.getD i default).U.toNat) (k := (m.Edges.getD i default).V.toNat) (by omega), if_neg (by omega)]
        rw [List.length_set, grd_pos (by omega), grd_pos (by omega), grd_pos (by rw [maxLen_eq]; omega), grd_pos (by omega), grd_pos ⟨by omega, trivial⟩, andC_out, w64n (by omega)]
        refine ⟨_, k - 1, rfl, by omega, i + 1, rfl, by omega, by simpa using hL, fun v hv => ?_⟩
        simp only
        rw [getD_set (by rw [List.length_set]; omega), getD_set (by omega), htake, linkL_snoc, ← hlk v hv]
        by_cases h1 : v = (m.Edges.getD i default).V.toNat
        · rw [if_pos h1]
          unfold lk
          rw [if_pos hu, if_neg (by omega), if_pos (by omega), h1]
        · rw [if_neg h1]
          by_cases h2 : v = (m.Edges.getD i default).U.toNat
          · rw [if_pos h2]
            unfold lk
            rw [if_pos hu, if_pos (by omega), h2]
          · rw [if_neg h2]
            unfold lk
            rw [if_pos hu, if_neg (by omega), if_neg (by omega), List.append_nil]
      · rw [bif_neg (by simpa using hu), andC_out, w64n (by omega)]
        refine ⟨_, k - 1, rfl, by omega, i + 1, rfl, by omega, hL, fun v hv => ?_⟩
        simp only
        rw [htake, linkL_snoc, ← hlk v hv]
        unfold lk
        rw [if_neg hu, List.append_nil]
    · right
      rw [bif_dneg (by omega)]
      refine ⟨_, rfl, hL, fun v hv => ?_⟩
      rw [hlk v hv, take_all (by omega)]

theorem mem_linkL {m : S_Roadmap} (h : WF m) {mode v w c : Int} : (⟨w, c⟩ : S_search_link) ∈ linkL m.Edges mode v ↔ Eg m mode v w c := by
  unfold linkL
  rw [List.mem_flatMap]
  constructor
  · rintro ⟨e, he, hl⟩
    obtain ⟨i, hi, rfl⟩ := mem_getD.1 he
    obtain ⟨o1, o2, o3, o4, o5⟩ := (h i hi).1
    unfold lk at hl
    split at hl
    · rename_i hu
      split at hl
      · rename_i h1
        simp at hl
        exact ⟨i, hi, hu, hl.2.symm, .inl ⟨h1, hl.1.symm⟩⟩
      · split at hl
        · rename_i h1 h2
          simp at hl
          exact ⟨i, hi, hu, hl.2.symm, .inr ⟨hl.1.symm, h2⟩⟩
        · simp at hl
    · simp at hl
  · rintro ⟨i, hi, hu, hc, huv⟩
    obtain ⟨o1, o2, o3, o4, o5⟩ := (h i hi).1
    refine ⟨(m.Edges.getD i default), mem_getD.2 ⟨i, hi, rfl⟩, ?_⟩
    unfold lk
    rw [if_pos hu]
    rcases huv with ⟨h1, h2⟩ | ⟨h1, h2⟩
    · rw [if_pos h1, h2, hc]; exact List.mem_singleton.2 rfl
    · rw [if_neg (by omega), if_pos h2, h1, hc]; exact List.mem_singleton.2 rfl

theorem linkL_sorted {m : S_Roadmap} (h : WF m) (mode v : Int) : (linkL m.Edges mode v).Pairwise (fun a b => a.to < b.to) := by
  have hp : m.Edges.Pairwise (fun a b => eLt a b ∧ a.U < a.V ∧ b.U < b.V) := by
    rw [List.pairwise_iff_getElem]
    intro i j hi hj hij
    have h1 := h.lt hij hj
    have h2 := (h i hi).1
    have h3 := (h j hj).1
    simp only [List.getD_eq_getElem?_getD, List.getElem?_eq_getElem hi, List.getElem?_eq_getElem hj, Option.getD_some] at h1 h2 h3
    exact ⟨h1, h2.2.1, h3.2.1⟩
  unfold linkL
  generalize m.Edges = es at hp
  induction es with
  | nil => simp
  | cons e es ih =>
    rw [List.pairwise_cons] at hp
    rw [List.flatMap_cons, List.pairwise_append]
    refine ⟨?_, ih hp.2, fun a ha b hb => ?_⟩
    · unfold lk; split
      · split
        · simp
        · split <;> simp
      · simp
    · rw [List.mem_flatMap] at hb
      obtain ⟨e', he', hb⟩ := hb
      obtain ⟨h1, h2, h3⟩ := hp.1 e' he'
      unfold eLt at h1
      unfold lk at ha hb
      split at ha
      · split at hb
        · split at ha
          · split at hb
            · simp at ha hb; subst ha; subst hb; simp only; omega
            · split at hb
              · simp at ha hb; subst ha; subst hb; simp only; omega
              · simp at hb
          · split at ha
            · split at hb
              · simp at ha hb; subst ha; subst hb; simp only; omega
              · split at hb
                · simp at ha hb; subst ha; subst hb; simp only; omega
                · simp at hb
            · simp at ha
        · simp at hb
      · simp at ha
end Go.Abs
