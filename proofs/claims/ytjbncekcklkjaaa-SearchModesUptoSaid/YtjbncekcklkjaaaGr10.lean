/-
  The law SearchModes.
-/
import Derived.Test.YtjbncekcklkjaaaGr8
namespace Go.Abs

theorem usable_mono {s k : Int} (h0 : 0 ≤ k) (h1 : k ≤ 1) (h : usableB s k = true) : usableB s (k + 1) = true := by
  unfold usableB at *
  by_cases e : k = 0
  · subst e
    rw [if_pos rfl] at h
    rw [if_neg (by omega), if_pos (by omega), h]; rfl
  · have e1 : k = 1 := by omega
    subst e1
    rw [if_neg (by omega), if_pos rfl, Bool.or_eq_true, beq_iff_eq, beq_iff_eq] at h
    rw [if_neg (by omega), if_neg (by omega), if_pos (by omega), bne_iff_ne]
    omega
theorem Eg.mono {m : S_Roadmap} {k : Int} (h0 : 0 ≤ k) (h1 : k ≤ 1) {u v c : Int} (h : Eg m k u v c) : Eg m (k + 1) u v c := by
  obtain ⟨i, a1, a2, a3, a4⟩ := h
  exact ⟨i, a1, usable_mono h0 h1 a2, a3, a4⟩

/-- Both directions. -/
theorem Routed.rev {m : S_Roadmap} (hw : WF m) {a b mode : Int} {r r' : S_Route × Bool} (h : Routed m a b mode r) (h' : Routed m b a mode r') :
    r.2 = r'.2 ∧ r.1.Cost = r'.1.Cost ∧ r.1.Vertices.length = r'.1.Vertices.length := by
  have g := Eg.graph hw mode
  rcases h with ⟨h1, h2, h3⟩ | ⟨h1, c, k, l, h2, h3, h4⟩ <;> rcases h' with ⟨h1', h2', h3'⟩ | ⟨h1', c', k', l', h2', h3', h4'⟩
  · rw [h1, h1', h2, h2']; exact ⟨rfl, rfl, rfl⟩
  · exact absurd (h2'.1.rev g) (h3 _ _)
  · exact absurd (h2.1.rev g) (h3' _ _)
  · have e := (h2.rev g).unique h2'
    have e1 := h3.length g h2
    have e2 := h3'.length g h2'
    rw [h1, h1', h4, h4']
    refine ⟨rfl, e.1, ?_⟩
    simp only [List.length_cons]; omega

theorem searchModes_true (l : List Int) (fr t : Int) (hl : l.length < 4000000000000) : law26_SearchModes_F 4294967296 l fr t = some true := by
  unfold law26_SearchModes_F
  obtain ⟨m, hm, hs, hw, hm2, hm9⟩ := graph_ok 4294967296 l hl (by omega)
  obtain ⟨a, ha, ha0, ha1⟩ := round_ok 4294967296 fr ((m.Points.length : Nat) : Int) (by omega) (by omega)
  obtain ⟨b, hb, hb0, hb1⟩ := round_ok 4294967296 t ((m.Points.length : Nat) : Int) (by omega) (by omega)
  rw [hm, Option.bind_some, ha, Option.bind_some, hb, Option.bind_some]
  have key : ∃ r, andK (iter (fun (x59 : (Int × Bool × Int)) => (
   bif (decide (x59.2.2 ≤ 2)) then
    (search_Shortest_F 4294967296 m a b x59.2.2).bind fun y80 =>
    (search_Shortest_F 4294967296 m b a x59.2.2).bind fun y82 =>
    andC (
     bif (!(y80.2 == y82.2)) then
      some (.out true)
     else
      bif (y80.1.Cost != y82.1.Cost) then
       some (.out true)
      else
       bif (((y80.1.Vertices.length : Nat) : Int) != ((y82.1.Vertices.length : Nat) : Int)) then
        some (.out true)
       else
        bif x59.2.1 then
         bif (!y80.2) then
          some (.out true)
         else
          some (.out (decide (y80.1.Cost > x59.1)))
        else
         some (.out false) : Option (Step3 Unit Bool _)) fun y84 =>
    bif y84 then
     some (.fin false)
    else
     some (.next (y80.1.Cost, y80.2, (IntKind.i64.wrap (x59.2.2 + 1))))
   else
    some (.out .u) : Option (Step3 (Int × Bool × Int) U0 _))) 4294967296 (0, false, 0)) (fun _ =>
  (law26_awake_F 4294967296).bind fun y85 =>
  some y85) = some r ∧ r = true := by
    refine loopX (g := fun r => r) (fun j (x : Int × Bool × Int) => ∃ k : Nat, x.2.2 = (k : Int) ∧ k + j = 3 ∧ (x.2.1 = true → 1 ≤ k ∧ ∃ kk, Best (Eg m ((k : Int) - 1)) b a x.1 kk)) (fun _ => True) 3 ⟨0, rfl, by omega, by simp⟩ (by omega) ?_ (fun _ _ => ⟨_, by rw [awake_ok]; rfl, rfl⟩)
    rintro j ⟨last, found, x⟩ ⟨k, hx, hk, hf⟩
    simp only at hx hf
    subst hx
    dsimp only
    by_cases hlt : (k : Int) ≤ 2
    · left
      rw [bif_dpos hlt]
      obtain ⟨r, h1, h2⟩ := Shortest_ok 4294967296 m a b k hs (by omega)
      obtain ⟨r', h1', h2'⟩ := Shortest_ok 4294967296 m b a k hs (by omega)
      have hask : Asked m a b ∧ 0 ≤ (k : Int) ∧ (k : Int) ≤ 2 := ⟨⟨hw, ⟨ha0, ha1⟩, ⟨hb0, hb1⟩⟩, by omega, hlt⟩
      have hask' : Asked m b a ∧ 0 ≤ (k : Int) ∧ (k : Int) ≤ 2 := ⟨⟨hw, ⟨hb0, hb1⟩, ⟨ha0, ha1⟩⟩, by omega, hlt⟩
      have hR : Routed m a b k r := (h2.resolve_left (fun h => h.1 hask)).2
      have hR' : Routed m b a k r' := (h2'.resolve_left (fun h => h.1 hask')).2
      obtain ⟨q1, q2, q3⟩ := hR.rev hw hR'
      rw [h1, Option.bind_some, h1', Option.bind_some, bif_neg (by rw [q1]; simp), bif_nne q2, bif_nne (by omega)]
      have hgo : (bif found then bif (!r.2) then some (.out true) else some (.out (decide (r.1.Cost > last))) else (some (.out false) : Option (Step3 Unit Bool (Step3 (Int × Bool × Int) U0 Bool)))) = some (.out false) := by
        cases found with
        | false => rfl
        | true =>
          rw [bif_pos (by rfl)]
          obtain ⟨hk1, kk, hB⟩ := hf rfl
          have hwk : Walk (Eg m k) b a last kk := hB.1.mono (fun u v c h => by
            have := Eg.mono (by omega) (by omega) h
            rwa [show (k : Int) - 1 + 1 = k by omega] at this)
          rcases hR with ⟨_, _, h3⟩ | ⟨h3, c, k2, l2, h4, _, h6⟩
          · exact absurd hwk (h3 _ _)
          · rw [h3, bif_neg (by rfl), h6]
            have := h4.2 _ _ hwk
            rw [decide_eq_false (by simp only; omega)]
      rw [hgo, andC_out, bif_neg (by rfl), w64n (by omega)]
      refine ⟨_, rfl, j - 1, by omega, k + 1, rfl, by omega, fun hr => ⟨by omega, ?_⟩⟩
      simp only at hr ⊢
      rcases hR with ⟨h3, _⟩ | ⟨_, c, k2, l2, h4, _, h6⟩
      · rw [h3] at hr; cases hr
      · rw [h6, show ((k + 1 : Nat) : Int) - 1 = k by omega]; exact ⟨k2, h4⟩
    · right
      rw [bif_dneg hlt]
      exact ⟨_, rfl, trivial⟩
  obtain ⟨r, h, rfl⟩ := key
  exact h
end Go.Abs
