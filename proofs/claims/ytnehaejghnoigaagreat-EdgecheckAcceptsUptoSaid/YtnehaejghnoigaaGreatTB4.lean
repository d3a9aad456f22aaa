import Derived.Test.YtnehaejghnoigaaGreatTB3
/-
  The reference's search and classification return.
-/
namespace Go.Abs

def inV (v : V3) : Prop := InR v.1 ∧ InR v.2.1 ∧ InR v.2.2
theorem ref1_Mid_e (a : S_Interval) : (ref1_Mid_C a).o = some (midV a) := by
  show (ref1_Mid_T a).run NN = _
  simp only [ref1_Mid_T, T.run, ref1_Valid_e, Option.bind_some, midV]
  cases h : vV a
  · rfl
  · simp only [vV_iff] at h
    rw [w64 (by omega) (by omega), ref1_Floor_e ⟨by omega, by omega⟩ (by decide)]; rfl
def cenF (l : List IV3) (i : Nat) : V3 := (midV (l.getD i default).1, midV (l.getD i default).2.1, midV (l.getD i default).2.2)
def cenV (l : List IV3) : List V3 := if placedV l then tab (cenF l) l.length else nl
theorem ref10_Centers_e (l : List IV3) : (ref10_Centers_C l).o = some (cenV l) := by
  show (ref10_Centers_T l).run NN = _
  simp only [ref10_Centers_T, T.run, T.ix, ref10_Placed_e, Option.bind_some, cenV]
  cases h : placedV l
  · rfl
  · have hl := placed_len h
    simp only [Bool.not_true, cond_false, if_true]
    refine (loop_to (fun j => (tab (cenF l) j, (j : Int))) (tab (cenF l) l.length) l.length rfl (show l.length < 4294967296 by omega) (fun j hj => ?_) ?_).trans rfl
    · rw [bif_dpos (by simpa using hj), grd_p ⟨by simp, by simpa using hj⟩]
      simp only [ref1_Mid_e, Option.bind_some]
      rw [grd_p ⟨by simp, by simpa using hj⟩, grd_p ⟨by simp, by simpa using hj⟩, grd_p ⟨by simp [tab_len]; omega, by simp [tab_len, maxLen_eq]; omega⟩, wn (by omega), tab_succ]; rfl
    · rw [bif_dneg (by simp)]
theorem cenV_len {l : List IV3} (h : placedV l = true) : (cenV l).length = l.length := by unfold cenV; rw [if_pos h, tab_len]
theorem tdiv_near {a : Int} (ha : InR a) : -16384 ≤ a.tdiv 562949953421312 ∧ a.tdiv 562949953421312 ≤ 16384 := by
  obtain ⟨h1, h2⟩ := ha
  have e := Int.mul_tdiv_add_tmod a 562949953421312
  have l1 := Int.tmod_lt_of_pos a (show (0 : Int) < 562949953421312 by decide)
  have l2 := Int.lt_tmod_of_pos a (show (0 : Int) < 562949953421312 by decide)
  omega
theorem ref10_Normal_x {v : V3} (h : inV v) : ∃ n ok, (ref10_Normal_C v).o = some (n, ok) ∧ inV n := by
  have e0 : (ref10_Normal_C v).o = (ref10_Normal_T v).run NN := rfl
  rw [e0]
  simp only [ref10_Normal_T, T.run, T.ix]
  cases (v.1 == 0) && ((v.2.1 == 0) && ((v.2.2 == 0) && true))
  · simp only [cond_false]
    have key : ∀ (m k N : Nat), k + m = 49 → m < N → ∃ n ok, andK (iter (fun (x6 : Int) => (grd (x6 ≠ 0) (grd (x6 ≠ 0) (grd (x6 ≠ 0) ((ref6_Near_C ((IntKind.i64.wrap (v.1.tdiv x6)), (IntKind.i64.wrap (v.2.1.tdiv x6)), (IntKind.i64.wrap (v.2.2.tdiv x6))) 16384).o.bind fun y15 =>
        bif y15 then some (.fin (((IntKind.i64.wrap (v.1.tdiv x6)), (IntKind.i64.wrap (v.2.1.tdiv x6)), (IntKind.i64.wrap (v.2.2.tdiv x6))), true)) else some (.next (IntKind.i64.wrap (x6 * 2)))))) : Option (Step3 Int U0 (V3 × Bool)))) N (2 ^ k)) (fun _ => none) = some (n, ok) ∧ inV n := by
      intro m
      induction m with
      | zero =>
        intro k N hk hN
        obtain ⟨M, rfl⟩ : ∃ M, N = M + 1 := ⟨N - 1, by omega⟩
        obtain rfl : k = 49 := by omega
        have e : (2 : Int) ^ 49 = 562949953421312 := by decide
        have t1 := tdiv_near h.1; have t2 := tdiv_near h.2.1; have t3 := tdiv_near h.2.2
        simp only [iter, e]
        rw [grd_p (by decide), grd_p (by decide), grd_p (by decide), w64 (x := v.1.tdiv _) (by omega) (by omega), w64 (x := v.2.1.tdiv _) (by omega) (by omega), w64 (x := v.2.2.tdiv _) (by omega) (by omega), ref6_Near_e _ (by decide) (by decide), Option.bind_some,
          show nearV (v.1.tdiv 562949953421312, v.2.1.tdiv 562949953421312, v.2.2.tdiv 562949953421312) 16384 = true from nearV_iff.2 ⟨t1, t2, t3⟩]
        exact ⟨_, _, rfl, ⟨by simp only; omega, by simp only; omega⟩, ⟨by simp only; omega, by simp only; omega⟩, ⟨by simp only; omega, by simp only; omega⟩⟩
      | succ m ih =>
        intro k N hk hN
        obtain ⟨M, rfl⟩ : ∃ M, N = M + 1 := ⟨N - 1, by omega⟩
        have hp := two_pow_pos k
        have hp2 : (2 : Int) ^ k ≤ 562949953421312 := by
          have : (2 : Int) ^ k ≤ 2 ^ 49 := by exact_mod_cast Nat.pow_le_pow_right (by decide : 0 < 2) (show k ≤ 49 by omega)
          have e : (2 : Int) ^ 49 = 562949953421312 := by decide
          omega
        simp only [iter]
        rw [grd_p (by omega), grd_p (by omega), grd_p (by omega), ref6_Near_e _ (by decide) (by decide), Option.bind_some]
        cases nearV (IntKind.i64.wrap (v.1.tdiv (2 ^ k)), IntKind.i64.wrap (v.2.1.tdiv (2 ^ k)), IntKind.i64.wrap (v.2.2.tdiv (2 ^ k))) 16384
        · simp only [cond_false]
          rw [w64 (x := 2 ^ k * 2) (by omega) (by omega), ← Int.pow_succ]
          exact ih (k + 1) M (by omega) (by omega)
        · exact ⟨_, _, rfl, InR.wr _, InR.wr _, InR.wr _⟩
    exact key 49 0 NN rfl (by decide)
  · exact ⟨_, _, rfl, h⟩
def farN (l : List V3) (i : Nat) : Bool := !nearV (l.getD i default) 268435456
def fewV (l : List V3) : Bool := decide (1 ≤ l.length ∧ l.length ≤ 8) && noneB (farN l) l.length
theorem few_len {l : List V3} (h : fewV l = true) : 1 ≤ l.length ∧ l.length ≤ 8 := by
  simp only [fewV, Bool.and_eq_true, decide_eq_true_eq] at h; exact h.1
theorem ref14_few_e (l : List V3) : (ref14_few_C l).o = some (fewV l) := by
  show (ref14_few_T l).run NN = _
  simp only [ref14_few_T, T.run, bif_out, andC_out, ref6_Near_e _ (show (0 : Int) ≤ 268435456 by decide) (by decide), Option.bind_some]
  refine (scanI (fun i => sw (farN l i) false) (min l.length 9) (by omega) (fun j hj => ?_) ?_).trans ?_
  · have e : (bif decide ((j : Int) < (l.length : Int)) then decide ((j : Int) ≤ 8) else false) = true := by rw [bif_dpos (by omega), decide_eq_true (p := (j : Int) ≤ 8) (by omega)]
    rw [e, cond_true, grd_p (by omega), wn (by omega), Int.toNat_natCast, ← sw_fin]; rfl
  · have e : (bif decide (((min l.length 9 : Nat) : Int) < (l.length : Int)) then decide (((min l.length 9 : Nat) : Int) ≤ 8) else false) = false := by
      by_cases hl : l.length ≤ 8
      · rw [bif_dneg (by omega)]
      · by_cases h9 : ((min l.length 9 : Nat) : Int) < (l.length : Int)
        · rw [bif_dpos h9, decide_eq_false (p := ((min l.length 9 : Nat) : Int) ≤ 8) (by omega)]
        · rw [bif_dneg h9]
    rw [e, cond_false]
  · rw [scan_sw]
    unfold fewV
    by_cases h : 1 ≤ l.length ∧ l.length ≤ 8
    · rw [decide_eq_true h, Nat.min_eq_left (by omega), Bool.true_and]
      cases noneB (farN l) l.length
      · rfl
      · show (bif decide ((l.length : Int) ≥ 1) then _ else _) = _
        rw [bif_dpos (by omega), decide_eq_true (p := (l.length : Int) ≤ 8) (by omega)]
    · rw [decide_eq_false h, Bool.false_and]
      cases noneB (farN l) (min l.length 9)
      · rfl
      · show (bif decide ((l.length : Int) ≥ 1) then _ else _) = _
        by_cases h1 : (l.length : Int) ≥ 1
        · rw [bif_dpos h1, decide_eq_false (p := (l.length : Int) ≤ 8) (by omega)]
        · rw [bif_dneg h1]
/-- A loop that counts up to n and always goes on, whatever follows. -/
theorem loop_cnt {σ τ R β : Type} {f : σ → Option (Step3 σ τ R)} {k : τ → Option R} {g : β → R} {P : β → Prop} {x : σ} (n : Nat) (hn : n < 4294967296) (I : Nat → σ → Prop) (Q : τ → Prop) (h0 : I 0 x)
    (hs : ∀ j y, j < n → I j y → ∃ y', f y = some (.next y') ∧ I (j + 1) y') (he : ∀ y, I n y → ∃ z, f y = some (.out z) ∧ Q z) (hk : ∀ z, Q z → ∃ b, k z = some (g b) ∧ P b) : ∃ b, andK (iter f NN x) k = some (g b) ∧ P b := by
  have key : ∀ (m j N : Nat) (y : σ), j + m = n → m < N → I j y → ∃ z, iter f N y = some (.inl z) ∧ Q z := by
    intro m
    induction m with
    | zero =>
      intro j N y hj hN hI
      obtain ⟨M, rfl⟩ : ∃ M, N = M + 1 := ⟨N - 1, by omega⟩
      obtain rfl : j = n := by omega
      obtain ⟨z, h1, h2⟩ := he y hI
      exact ⟨z, by simp [iter, h1], h2⟩
    | succ m ih =>
      intro j N y hj hN hI
      obtain ⟨M, rfl⟩ : ∃ M, N = M + 1 := ⟨N - 1, by omega⟩
      obtain ⟨y', h1, h2⟩ := hs j y (by omega) hI
      simp only [iter, h1]
      exact ih (j + 1) M y' (by omega) (by omega) h2
  obtain ⟨z, h1, h2⟩ := key n 0 NN x (by omega) hn h0
  obtain ⟨b, h3, h4⟩ := hk z h2
  exact ⟨b, by rw [h1]; exact h3, h4⟩
theorem ref14_Sum_x (l : List V3) (w : List Int) (h : w.length = l.length) (hl : l.length < 4294967296) : ∃ v, (ref14_Sum_C l w).o = some v ∧ True := by
  have e0 : (ref14_Sum_C l w).o = (ref14_Sum_T l w).run NN := rfl
  rw [e0]
  simp only [ref14_Sum_T, T.run, T.ix]
  refine loop_cnt (g := fun b => b) l.length hl (fun j (y : Int × Int × Int × Int) => y.2.2.2 = (j : Int)) (fun (_ : V3) => True) rfl (fun j y hj hy => ?_) (fun y hy => ?_) (fun z _ => ⟨_, rfl, trivial⟩)
  · rw [hy, bif_dpos (by omega), grd_p ⟨by omega, by omega⟩, grd_p ⟨by omega, by omega⟩, grd_p ⟨by omega, by omega⟩, grd_p ⟨by omega, by omega⟩, grd_p ⟨by omega, by omega⟩, grd_p ⟨by omega, by omega⟩, wn (by omega)]
    exact ⟨_, rfl, rfl⟩
  · rw [hy, bif_dneg (by omega)]; exact ⟨_, rfl, trivial⟩
theorem ref14_minus_e (a b : V3) : ∃ v, (ref14_minus_C a b).o = some v ∧ inV v := ⟨_, rfl, InR.wr _, InR.wr _, InR.wr _⟩
theorem ref14_dot_e (a b : V3) : ∃ v, (ref14_dot_C a b).o = some v := ⟨_, rfl⟩
theorem InR.max {a b : Int} (ha : InR a) (hb : InR b) : InR (max a b) := by
  obtain ⟨h1, h2⟩ := ha; obtain ⟨h3, h4⟩ := hb; exact ⟨by omega, by omega⟩
theorem ref14_near_x {v : V3} (h : inV v) (r : Int) : ∃ b, (ref14_near_C v r).o = some b := by
  have e0 : (ref14_near_C v r).o = (ref14_near_T v r).run NN := rfl
  rw [e0]
  simp only [ref14_near_T, T.run, T.ix, ref1_Ceil_e (h.1.max (InR.wr _)) (show (0 : Int) < 65536 by decide), ref1_Ceil_e (h.2.1.max (InR.wr _)) (show (0 : Int) < 65536 by decide), ref1_Ceil_e (h.2.2.max (InR.wr _)) (show (0 : Int) < 65536 by decide), Option.bind_some]
  exact ⟨_, rfl⟩
theorem ref14_Extreme_x (n : V3) (l : List V3) (sg : Int) (h0 : 1 ≤ l.length) (hl : l.length < 4294967296) : ∃ i : Int, (ref14_Extreme_C n l sg).o = some i ∧ 0 ≤ i ∧ i < (l.length : Int) := by
  have e0 : (ref14_Extreme_C n l sg).o = (ref14_Extreme_T n l sg).run NN := rfl
  rw [e0]
  simp only [ref14_Extreme_T, T.run]
  refine loop_cnt (g := fun b => b) (l.length - 1) (by omega) (fun j (y : Int × Int) => y.2 = ((j + 1 : Nat) : Int) ∧ 0 ≤ y.1 ∧ y.1 < (l.length : Int)) (fun (z : Int) => 0 ≤ z ∧ z < (l.length : Int)) ⟨rfl, by simp, by simp; omega⟩ (fun j y hj hy => ?_) (fun y hy => ?_) (fun z hz => ⟨_, rfl, hz⟩)
  · obtain ⟨h1, h2, h3⟩ := hy
    obtain ⟨d1, e1⟩ := ref14_dot_e n (l.getD y.2.toNat default)
    obtain ⟨d2, e2⟩ := ref14_dot_e n (l.getD y.1.toNat default)
    rw [e1, e2, Option.bind_some, Option.bind_some, h1, bif_dpos (by omega), grd_p ⟨by omega, by omega⟩, grd_p ⟨by omega, by omega⟩, wn (by omega)]
    cases decide (IntKind.i64.wrap (sg * d1) < IntKind.i64.wrap (sg * d2))
    · exact ⟨_, rfl, rfl, h2, h3⟩
    · exact ⟨_, rfl, rfl, by simp only; omega, by simp only; omega⟩
  · obtain ⟨h1, h2, h3⟩ := hy
    rw [h1, bif_dneg (by omega)]; exact ⟨_, rfl, h2, h3⟩
theorem ref14_Moved_x (w : List Int) (t i : Int) (hl : w.length < 4294967296) (h0 : 0 ≤ i) (h1 : i < (w.length : Int)) : ∃ u, (ref14_Moved_C w t i).o = some u ∧ u.length = w.length := by
  have e0 : (ref14_Moved_C w t i).o = (ref14_Moved_T w t i).run NN := rfl
  rw [e0]
  simp only [ref14_Moved_T, T.run]
  rw [grd_p ⟨by omega, by rw [maxLen_eq]; omega⟩]
  refine loop_cnt (g := fun b => b) w.length hl (fun j (y : List Int × Int × Int) => y.2.2 = (j : Int) ∧ y.1.length = w.length) (fun (z : List Int × Int) => z.1.length = w.length) ⟨rfl, rfl⟩ (fun j y hj hy => ?_) (fun y hy => ?_) (fun z hz => ?_)
  · obtain ⟨a1, a2⟩ := hy
    rw [a1, bif_dpos (by omega), grd_p ⟨by omega, by omega⟩, Int.toNat_natCast, grd_p (by omega), grd_p ⟨by omega, by omega⟩, grd_p (by omega), grd_p ⟨by omega, by omega⟩, grd_p ⟨by omega, by omega⟩, wn (by omega)]
    exact ⟨_, rfl, rfl, by simp only [List.length_set]; exact a2⟩
  · obtain ⟨a1, a2⟩ := hy
    rw [a1, bif_dneg (by omega)]; exact ⟨_, rfl, a2⟩
  · rw [grd_p ⟨by omega, by omega⟩, grd_p (by omega), grd_p ⟨by omega, by omega⟩, grd_p ⟨by omega, by omega⟩]
    exact ⟨_, rfl, by rw [List.length_set]; exact hz⟩
/-- What a result of the search is like. -/
def SO (x : S_Nearest) : Prop := inV x.Normal ∧ x.Left.length ≤ 8 ∧ x.Right.length ≤ 8
theorem search_loop {f : Int × Int × Int × List Int × List Int × Int → Option (Step3 (Int × Int × Int × List Int × List Int × Int) U0 S_Nearest)} {k : U0 → Option S_Nearest} {y : Int × Int × Int × List Int × List Int × Int} (I : Int × Int × Int × List Int × List Int × Int → Prop)
    (hr : ∀ y, I y → (∃ y', f y = some (.next y') ∧ I y' ∧ y'.2.2.2.2.2 = y.2.2.2.2.2 + 1) ∨ ∃ r, f y = some (.fin r) ∧ SO r) (hI : ∀ y, I y → y.2.2.2.2.2 ≤ 65) (m : Nat) (h1 : I y) (h2 : y.2.2.2.2.2 + m ≥ 66) (h3 : m < NN) : ∃ r, andK (iter f NN y) k = some r ∧ SO r := by
  have key : ∀ (m N : Nat) y, I y → y.2.2.2.2.2 + m ≥ 66 → m < N → ∃ r, iter f N y = some (.inr r) ∧ SO r := by
    intro m
    induction m with
    | zero => intro N y h1 h2; have := hI y h1; omega
    | succ m ih =>
      intro N y h1 h2 h3
      obtain ⟨M, rfl⟩ : ∃ M, N = M + 1 := ⟨N - 1, by omega⟩
      rcases hr y h1 with ⟨y', e1, e2, e3⟩ | ⟨r, e1, e2⟩
      · simp only [iter, e1]; exact ih M y' e2 (by omega) (by omega)
      · exact ⟨r, by simp [iter, e1], e2⟩
  obtain ⟨r, e1, e2⟩ := key m NN y h1 h2 h3
  exact ⟨r, by rw [e1]; rfl, e2⟩
theorem ref14_Search_x (a b : List V3) (rho steps : Int) : ∃ x, (ref14_Search_C a b rho steps).o = some x ∧ SO x := by
  have z0 : inV ((0, 0, 0) : V3) := ⟨⟨by decide, by decide⟩, ⟨by decide, by decide⟩, ⟨by decide, by decide⟩⟩
  have e0 : (ref14_Search_C a b rho steps).o = (ref14_Search_T a b rho steps).run NN := rfl
  rw [e0]
  simp only [ref14_Search_T, T.run, T.ix, ref14_few_e, Option.bind_some, bif_out, andC_out]
  cases ha : fewV a
  · exact ⟨_, rfl, z0, by simp [nl], by simp [nl]⟩
  · cases hb : fewV b
    · exact ⟨_, rfl, z0, by simp [nl], by simp [nl]⟩
    · have la := few_len ha
      have lb := few_len hb
      simp only [Bool.not_true, cond_false, bif_tb]
      cases hc : decide (rho < 0) || (decide (rho > 2097152) || (decide (steps < 0) || decide (steps > 64)))
      · simp only [Bool.or_eq_false_iff, decide_eq_false_iff_not] at hc
        simp only [cond_false, Int.toNat_natCast, List.length_replicate]
        rw [grd_p ⟨by omega, by omega, by omega, by omega⟩, grd_p ⟨by omega, by omega, by omega, by omega⟩, grd_p ⟨by omega, by omega⟩, grd_p ⟨by simp; omega, by omega⟩, grd_p ⟨by omega, by omega⟩, grd_p ⟨by simp; omega, by omega⟩]
        refine search_loop (fun y => inV (y.1, y.2.1, y.2.2.1) ∧ y.2.2.2.1.length = a.length ∧ y.2.2.2.2.1.length = b.length ∧ 0 ≤ y.2.2.2.2.2 ∧ y.2.2.2.2.2 ≤ steps) (fun y hy => ?_) (fun y hy => by have := hy.2.2.2.2; omega) 66 ⟨z0, by simp, by simp, by simp, by simp; omega⟩ (by simp) (by decide)
        obtain ⟨i1, i2, i3, i4, i5⟩ := hy
        obtain ⟨s1, es1, -⟩ := ref14_Sum_x a y.2.2.2.1 i2 (by omega)
        obtain ⟨s2, es2, -⟩ := ref14_Sum_x b y.2.2.2.2.1 i3 (by omega)
        obtain ⟨w, ew, hw⟩ := ref14_minus_e s1 s2
        obtain ⟨nb, en⟩ := ref14_near_x hw rho
        rw [es1, Option.bind_some, es2, Option.bind_some, ew, Option.bind_some, en, Option.bind_some]
        cases nb
        · simp only [cond_false]
          obtain ⟨n, ok, eN, hN⟩ := ref10_Normal_x (v := (IntKind.i64.wrap (w.1.tdiv 65536), IntKind.i64.wrap (w.2.1.tdiv 65536), IntKind.i64.wrap (w.2.2.tdiv 65536))) ⟨InR.wr _, InR.wr _, InR.wr _⟩
          rw [eN, Option.bind_some]
          cases ok
          · right; exact ⟨_, rfl, hN, by simp only; omega, by simp only; omega⟩
          · obtain ⟨i, ei, i0, il⟩ := ref14_Extreme_x n a 1 la.1 (by omega)
            obtain ⟨j, ej, j0, jl⟩ := ref14_Extreme_x n b (-1) lb.1 (by omega)
            obtain ⟨d1, ed1⟩ := ref14_dot_e n (a.getD i.toNat default)
            obtain ⟨d2, ed2⟩ := ref14_dot_e n (b.getD j.toNat default)
            obtain ⟨mm, em, hm⟩ := ref14_minus_e (a.getD i.toNat default) (b.getD j.toNat default)
            obtain ⟨ee, eE, he⟩ := ref14_minus_e (IntKind.i64.wrap (w.1.tdiv 65536), IntKind.i64.wrap (w.2.1.tdiv 65536), IntKind.i64.wrap (w.2.2.tdiv 65536)) mm
            obtain ⟨u, eu⟩ := ref14_dot_e (IntKind.i64.wrap (w.1.tdiv 65536), IntKind.i64.wrap (w.2.1.tdiv 65536), IntKind.i64.wrap (w.2.2.tdiv 65536)) ee
            obtain ⟨v, ev⟩ := ref14_dot_e ee ee
            obtain ⟨nv, env⟩ : ∃ nv, (ref10_Norm_C n).o = some nv := ⟨_, ref10_Norm_e n⟩
            simp only [Bool.not_true, cond_false]
            rw [ei, Option.bind_some, ej, Option.bind_some, grd_p ⟨i0, il⟩, ed1, Option.bind_some, grd_p ⟨j0, jl⟩, ed2, Option.bind_some, env, Option.bind_some]
            cases decide (IntKind.i64.wrap (d1 - d2) > IntKind.i64.wrap (nv * rho))
            · simp only [cond_false]
              rw [grd_p ⟨i0, il⟩, grd_p ⟨j0, jl⟩, em, Option.bind_some, eE, Option.bind_some, eu, Option.bind_some, ev, Option.bind_some]
              cases hs : decide (y.2.2.2.2.2 ≥ steps) || decide (u ≤ 0)
              · simp only [Bool.or_eq_false_iff, decide_eq_false_iff_not] at hs
                simp only [cond_false]
                have hmx : max 1 (IntKind.i64.wrap (v.tdiv 256)) ≠ 0 := by omega
                rw [grd_p hmx]
                generalize min 256 (IntKind.i64.wrap (u.tdiv (max 1 (IntKind.i64.wrap (v.tdiv 256))))) = t
                cases t == 0
                · simp only [cond_false]
                  obtain ⟨m1, em1, lm1⟩ := ref14_Moved_x y.2.2.2.1 t i (by omega) i0 (by omega)
                  obtain ⟨m2, em2, lm2⟩ := ref14_Moved_x y.2.2.2.2.1 t j (by omega) j0 (by omega)
                  left
                  rw [em1, Option.bind_some, em2, Option.bind_some, w64 (x := y.2.2.2.2.2 + 1) (by omega) (by omega)]
                  exact ⟨_, rfl, ⟨hN, by simp only; omega, by simp only; omega, by simp only; omega, by simp only; omega⟩, rfl⟩
                · right; exact ⟨_, rfl, hN, by simp only; omega, by simp only; omega⟩
              · right; exact ⟨_, rfl, hN, by simp only; omega, by simp only; omega⟩
            · right; exact ⟨_, rfl, hN, by simp only; omega, by simp only; omega⟩
        · right; exact ⟨_, rfl, i1, by simp only; omega, by simp only; omega⟩
      · exact ⟨_, rfl, z0, by simp [nl], by simp [nl]⟩
end Go.Abs

/-
  The reference's candidates, classification and proof of a motion return.
-/
namespace Go.Abs

theorem in0 : InR 0 := ⟨by decide, by decide⟩
theorem inV0 : inV ((0, 0, 0) : V3) := ⟨in0, in0, in0⟩
theorem ref14_Mean_x (a b : List IV3) : ∃ y : V3 × Bool, (ref14_Mean_C a b).o = some y ∧ inV y.1 := by
  have e0 : (ref14_Mean_C a b).o = (ref14_Mean_T a b).run NN := rfl
  rw [e0]
  simp only [ref14_Mean_T, T.run, T.ix, ref10_Placed_e, Option.bind_some, bif_out, andC_out]
  cases ha : placedV a
  · exact ⟨_, rfl, inV0⟩
  · cases hb : placedV b
    · exact ⟨_, rfl, inV0⟩
    · have la := placed_len ha
      have lb := placed_len hb
      simp only [Bool.not_true, cond_false]
      rw [ref10_Centers_e, Option.bind_some, ref10_Centers_e, Option.bind_some, cenV_len ha, cenV_len hb]
      generalize cenV a = A
      generalize cenV b = B
      have lA : a.length < 4294967296 := by omega
      have lB : b.length < 4294967296 := by omega
      refine loop_cnt (g := fun y => y) a.length lA (fun j (y : Int × Int) => y.2 = (j : Int) ∧ InR y.1) (fun z => InR z) ⟨rfl, in0⟩ (fun j y hj hy => ?_) (fun y hy => ?_) (fun z1 h1 => ?_)
      · rw [hy.1, bif_dpos (by omega), grd_p ⟨by omega, by omega⟩, wn (by omega)]; exact ⟨_, rfl, rfl, InR.wr _⟩
      · rw [hy.1, bif_dneg (by omega)]; exact ⟨_, rfl, hy.2⟩
      · refine loop_cnt (g := fun y => y) b.length lB (fun j (y : Int × Int) => y.2 = (j : Int) ∧ InR y.1) (fun z => InR z) ⟨rfl, h1⟩ (fun j y hj hy => ?_) (fun y hy => ?_) (fun z2 h2 => ?_)
        · rw [hy.1, bif_dpos (by omega), grd_p ⟨by omega, by omega⟩, wn (by omega)]; exact ⟨_, rfl, rfl, InR.wr _⟩
        · rw [hy.1, bif_dneg (by omega)]; exact ⟨_, rfl, hy.2⟩
        · refine loop_cnt (g := fun y => y) a.length lA (fun j (y : Int × Int) => y.2 = (j : Int) ∧ InR y.1) (fun z => InR z) ⟨rfl, in0⟩ (fun j y hj hy => ?_) (fun y hy => ?_) (fun z3 h3 => ?_)
          · rw [hy.1, bif_dpos (by omega), grd_p ⟨by omega, by omega⟩, wn (by omega)]; exact ⟨_, rfl, rfl, InR.wr _⟩
          · rw [hy.1, bif_dneg (by omega)]; exact ⟨_, rfl, hy.2⟩
          · refine loop_cnt (g := fun y => y) b.length lB (fun j (y : Int × Int) => y.2 = (j : Int) ∧ InR y.1) (fun z => InR z) ⟨rfl, h3⟩ (fun j y hj hy => ?_) (fun y hy => ?_) (fun z4 h4 => ?_)
            · rw [hy.1, bif_dpos (by omega), grd_p ⟨by omega, by omega⟩, wn (by omega)]; exact ⟨_, rfl, rfl, InR.wr _⟩
            · rw [hy.1, bif_dneg (by omega)]; exact ⟨_, rfl, hy.2⟩
            · refine loop_cnt (g := fun y => y) a.length lA (fun j (y : Int × Int) => y.2 = (j : Int) ∧ InR y.1) (fun z => InR z) ⟨rfl, in0⟩ (fun j y hj hy => ?_) (fun y hy => ?_) (fun z5 h5 => ?_)
              · rw [hy.1, bif_dpos (by omega), grd_p ⟨by omega, by omega⟩, wn (by omega)]; exact ⟨_, rfl, rfl, InR.wr _⟩
              · rw [hy.1, bif_dneg (by omega)]; exact ⟨_, rfl, hy.2⟩
              · refine loop_cnt (g := fun y => y) b.length lB (fun j (y : Int × Int) => y.2 = (j : Int) ∧ InR y.1) (fun z => InR z) ⟨rfl, h5⟩ (fun j y hj hy => ?_) (fun y hy => ?_) (fun z6 h6 => ?_)
                · rw [hy.1, bif_dpos (by omega), grd_p ⟨by omega, by omega⟩, wn (by omega)]; exact ⟨_, rfl, rfl, InR.wr _⟩
                · rw [hy.1, bif_dneg (by omega)]; exact ⟨_, rfl, hy.2⟩
                · obtain ⟨n, ok, e1, e2⟩ := ref10_Normal_x (v := (z2, z4, z6)) ⟨h2, h4, h6⟩
                  rw [e1, Option.bind_some]; exact ⟨_, rfl, e2⟩
theorem ref14_Candidates_x (a : List IV3) (ra : Int) (b : List IV3) (rb : Int) (hs : List V3) (hl : hs.length < 4294967296) : ∃ y : List V3, (ref14_Candidates_C a ra b rb hs).o = some y ∧ y.length ≤ hs.length + 8 := by
  have e0 : (ref14_Candidates_C a ra b rb hs).o = (ref14_Candidates_T a ra b rb hs).run NN := rfl
  rw [e0]
  simp only [ref14_Candidates_T, T.run, ref10_Placed_e, ref14_radius_e, Option.bind_some, bif_out, andC_out]
  cases (bif !placedV a then true else bif !placedV b then true else bif !radV ra then true else !radV rb)
  · simp only [cond_false]
    refine loop_cnt (g := fun y => y) hs.length hl (fun j (y : List V3 × Int) => y.2 = (j : Int) ∧ y.1.length ≤ j) (fun z => z.length ≤ hs.length) ⟨rfl, by simp [nl]⟩ (fun j y hj hy => ?_) (fun y hy => ?_) (fun z hz => ?_)
    · rw [hy.1, bif_dpos (by omega), grd_p ⟨by omega, by omega⟩, ref10_Usable_e, Option.bind_some, wn (by omega)]
      have := hy.2
      cases usableV (hs.getD (Int.toNat (j : Int)) default)
      · exact ⟨_, rfl, rfl, by simp only; omega⟩
      · simp only [cond_true]
        rw [grd_p ⟨by omega, by omega⟩, grd_p ⟨by simp; omega, by simp [maxLen_eq]; omega⟩]
        exact ⟨_, rfl, rfl, by simp; omega⟩
    · rw [hy.1, bif_dneg (by omega)]; exact ⟨_, rfl, hy.2⟩
    · obtain ⟨m, em, -⟩ := ref14_Mean_x a b
      have eax : ref14_Axes_C.o = some [(1, 0, 0), (-1, 0, 0), (0, 1, 0), (0, -1, 0), (0, 0, 1), (0, 0, -1)] := rfl
      obtain ⟨s, es, -⟩ := ref14_Search_x (cenV a) (cenV b) (IntKind.i64.wrap (ra + rb)) 64
      rw [em, Option.bind_some]
      have fin : ∀ w : List V3, w.length ≤ hs.length + 1 → ∃ y : List V3, (ref14_Axes_C.o.bind fun y_1 => grd ((w.length + y_1.length) * 24 ≤ 140737488355328 ∧ w.length + y_1.length ≤ maxLen) ((ref10_Centers_C a).o.bind fun y_2 => (ref10_Centers_C b).o.bind fun y_3 => (ref14_Search_C y_2 y_3 (IntKind.i64.wrap (ra + rb)) 64).o.bind fun y_4 =>
          andC ((ref10_Usable_C y_4.Normal).o.bind fun y_5 => bif y_5 then grd (((w ++ y_1).length + [y_4.Normal].length) * 24 ≤ 140737488355328 ∧ (w ++ y_1).length + [y_4.Normal].length ≤ maxLen) (some (.out (w ++ y_1 ++ [y_4.Normal]))) else some (.out (w ++ y_1)) : Option (Step3 Unit (List V3) (List V3))) fun y => some y)) = some y ∧ y.length ≤ hs.length + 8 := by
        intro w hw
        rw [eax, Option.bind_some, grd_p ⟨by simp; omega, by simp [maxLen_eq]; omega⟩, ref10_Centers_e, Option.bind_some, ref10_Centers_e, Option.bind_some, es, Option.bind_some, ref10_Usable_e, Option.bind_some]
        cases usableV s.Normal
        · exact ⟨_, rfl, by simp; omega⟩
        · simp only [cond_true]
          rw [grd_p ⟨by simp; omega, by simp [maxLen_eq]; omega⟩]
          exact ⟨_, rfl, by simp; omega⟩
      cases m.2
      · exact fin z (by omega)
      · simp only [cond_true]
        rw [grd_p ⟨by simp; omega, by simp [maxLen_eq]; omega⟩]
        exact fin (z ++ [m.1]) (by simp; omega)
  · exact ⟨_, rfl, by simp [nl]⟩
noncomputable def firB (l : List V3) (a : List IV3) (ra : Int) (b : List IV3) (rb : Int) (i : Nat) : Bool := sepV (l.getD i default) a ra b rb
theorem ref14_First_e (l : List V3) (a : List IV3) (ra : Int) (b : List IV3) (rb : Int) (hl : l.length < 4294967296) : (ref14_First_C l a ra b rb).o = some ((scan (fun i => sw (firB l a ra b rb i) ((i : Int), true)) l.length 0).getD (0, false)) := by
  show (ref14_First_T l a ra b rb).run NN = _
  simp only [ref14_First_T, T.run, ref14_Separates_e, Option.bind_some]
  refine (scanI (fun i => sw (firB l a ra b rb i) ((i : Int), true)) l.length hl (fun j hj => ?_) ?_).trans ?_
  · rw [bif_dpos (by omega), grd_p (by omega), wn (by omega), Int.toNat_natCast, ← sw_fin]; rfl
  · rw [bif_dneg (by omega)]
  · cases scan (fun i => sw (firB l a ra b rb i) ((i : Int), true)) l.length 0 <;> rfl
theorem ref14_FindNormal_x (a : List IV3) (ra : Int) (b : List IV3) (rb : Int) (hs : List V3) (hl : hs.length < 4294967280) : ∃ y : V3 × Bool, (ref14_FindNormal_C a ra b rb hs).o = some y := by
  have e0 : (ref14_FindNormal_C a ra b rb hs).o = (ref14_FindNormal_T a ra b rb hs).run NN := rfl
  rw [e0]
  obtain ⟨l, e1, e2⟩ := ref14_Candidates_x a ra b rb hs (by omega)
  simp only [ref14_FindNormal_T, T.run]
  rw [e1, Option.bind_some, ref14_First_e l a ra b rb (by omega), Option.bind_some]
  cases h : scan (fun i => sw (firB l a ra b rb i) ((i : Int), true)) l.length 0 with
  | none => exact ⟨_, rfl⟩
  | some r =>
    obtain ⟨j, h1, h2, h3, -⟩ := scan_some _ _ h
    cases hb : firB l a ra b rb j with
    | false => rw [hb] at h3; cases h3
    | true =>
      rw [hb] at h3; simp only [sw, cond_true, Option.some.injEq] at h3
      subst h3
      simp only [Option.getD_some, Bool.not_true, cond_false]
      rw [grd_p ⟨by omega, by omega⟩]; exact ⟨_, rfl⟩

/-! ### Overlaps -/
theorem ref10_Combine_x (l : List IV3) (w : List Int) (hw : w.length < 4294967296) : ∃ y : IV3 × Int × Bool, (ref10_Combine_C l w).o = some y ∧ (y.2.2 = true → 1 ≤ y.2.1) := by
  have e0 : (ref10_Combine_C l w).o = (ref10_Combine_T l w).run NN := rfl
  rw [e0]
  simp only [ref10_Combine_T, T.run, T.ix, ref10_Placed_e, Option.bind_some, bif_out, andC_out]
  cases hp : placedV l
  · exact ⟨_, rfl, fun h => by cases h⟩
  · simp only [Bool.not_true, cond_false]
    by_cases hl : w.length = l.length
    · rw [bif_nne (by omega)]
      have key : ∀ (m j N : Nat) (x : Int), j + m = w.length → m < N → (∃ z, iter (fun (x469 : Int × Int) => (bif decide (x469.2 < ((w.length : Nat) : Int)) then
          andC (grd (0 ≤ x469.2 ∧ x469.2 < ((w.length : Nat) : Int)) (bif decide ((w.getD ((x469.2).toNat) default) < 0) then some (.out true) else grd (0 ≤ x469.2 ∧ x469.2 < ((w.length : Nat) : Int)) (some (.out (decide ((w.getD ((x469.2).toNat) default) > (IntKind.i64.wrap (65536 - x469.1))))))) : Option (Step3 Unit Bool (Step3 (Int × Int) Int (IV3 × Int × Bool)))) fun y478 =>
          bif y478 then some (.fin (((⟨0, 0⟩ : S_Interval), (⟨0, 0⟩ : S_Interval), (⟨0, 0⟩ : S_Interval)), 0, false)) else grd (0 ≤ x469.2 ∧ x469.2 < ((w.length : Nat) : Int)) (some (.next ((IntKind.i64.wrap (x469.1 + (w.getD ((x469.2).toNat) default))), (IntKind.i64.wrap (x469.2 + 1)))))
          else some (.out x469.1) : Option (Step3 (Int × Int) Int (IV3 × Int × Bool)))) N (x, (j : Int)) = some (.inl z)) ∨ iter (fun (x469 : Int × Int) => (bif decide (x469.2 < ((w.length : Nat) : Int)) then
          andC (grd (0 ≤ x469.2 ∧ x469.2 < ((w.length : Nat) : Int)) (bif decide ((w.getD ((x469.2).toNat) default) < 0) then some (.out true) else grd (0 ≤ x469.2 ∧ x469.2 < ((w.length : Nat) : Int)) (some (.out (decide ((w.getD ((x469.2).toNat) default) > (IntKind.i64.wrap (65536 - x469.1))))))) : Option (Step3 Unit Bool (Step3 (Int × Int) Int (IV3 × Int × Bool)))) fun y478 =>
          bif y478 then some (.fin (((⟨0, 0⟩ : S_Interval), (⟨0, 0⟩ : S_Interval), (⟨0, 0⟩ : S_Interval)), 0, false)) else grd (0 ≤ x469.2 ∧ x469.2 < ((w.length : Nat) : Int)) (some (.next ((IntKind.i64.wrap (x469.1 + (w.getD ((x469.2).toNat) default))), (IntKind.i64.wrap (x469.2 + 1)))))
          else some (.out x469.1) : Option (Step3 (Int × Int) Int (IV3 × Int × Bool)))) N (x, (j : Int)) = some (.inr (((⟨0, 0⟩ : S_Interval), (⟨0, 0⟩ : S_Interval), (⟨0, 0⟩ : S_Interval)), 0, false)) := by
        intro m
        induction m with
        | zero =>
          intro j N x hj hN
          obtain ⟨M, rfl⟩ : ∃ M, N = M + 1 := ⟨N - 1, by omega⟩
          left
          simp only [iter]
          rw [bif_dneg (by omega)]; exact ⟨_, rfl⟩
        | succ m ih =>
          intro j N x hj hN
          obtain ⟨M, rfl⟩ : ∃ M, N = M + 1 := ⟨N - 1, by omega⟩
          simp only [iter]
          rw [bif_dpos (by omega), grd_p ⟨by omega, by omega⟩, grd_p ⟨by omega, by omega⟩, grd_p ⟨by omega, by omega⟩, bif_out, andC_out, wn (by omega)]
          cases (bif decide (w.getD (Int.toNat (j : Int)) default < 0) then true else decide (w.getD (Int.toNat (j : Int)) default > IntKind.i64.wrap (65536 - x)))
          · exact ih (j + 1) M _ (by omega) (by omega)
          · right; rfl
      rcases key w.length 0 NN 0 (by omega) hw with ⟨z, hz⟩ | hz
      · rw [show ((0 : Int), (0 : Int)) = ((0 : Int), ((0 : Nat) : Int)) from rfl, andK_inl hz]
        by_cases h1 : z < 1
        · rw [bif_dpos h1]; exact ⟨_, rfl, fun h => by cases h⟩
        · rw [bif_dneg h1]
          refine loop_cnt (g := fun y => y) l.length (by omega) (fun j (y : Int × Int × Int × Int × Int × Int × Int) => y.2.2.2.2.2.2 = (j : Int)) (fun (_ : Int × Int × Int × Int × Int × Int) => True) rfl (fun j y hj hy => ?_) (fun y hy => ?_) (fun z' _ => ⟨_, rfl, fun _ => by simp only; omega⟩)
          · rw [hy, bif_dpos (by omega)]
            simp only [grd_p (show 0 ≤ (j : Int) ∧ (j : Int) < (w.length : Int) by omega), grd_p (show 0 ≤ (j : Int) ∧ (j : Int) < (l.length : Int) by omega)]
            rw [wn (by omega)]; exact ⟨_, rfl, rfl⟩
          · rw [hy, bif_dneg (by omega)]; exact ⟨_, rfl, trivial⟩
      · rw [show ((0 : Int), (0 : Int)) = ((0 : Int), ((0 : Nat) : Int)) from rfl, andK_inr hz]; exact ⟨_, rfl, fun h => by cases h⟩
    · rw [bif_neq (by omega)]; exact ⟨_, rfl, fun h => by cases h⟩
theorem ref14_size_e (a : Int) : (ref14_size_C a).o = some (max a (IntKind.i64.wrap (0 - a))) := rfl
theorem ref14_Overlaps_x (u v : List Int) (a : List IV3) (ra : Int) (b : List IV3) (rb : Int) (hu : u.length < 4294967296) (hv : v.length < 4294967296) : ∃ y : Bool, (ref14_Overlaps_C u v a ra b rb).o = some y := by
  have ex : ∃ y : Int × Bool, (ref14_Excess_C u v a ra b rb).o = some y := by
    have e0 : (ref14_Excess_C u v a ra b rb).o = (ref14_Excess_T u v a ra b rb).run NN := rfl
    rw [e0]
    obtain ⟨x, ex, hx⟩ := ref10_Combine_x a u hu
    obtain ⟨y, ey, hy⟩ := ref10_Combine_x b v hv
    simp only [ref14_Excess_T, T.run, T.ix]
    rw [ex, Option.bind_some, ey, Option.bind_some]
    simp only [ref14_radius_e, Option.bind_some, bif_out, andC_out]
    cases hx2 : x.2.2
    · exact ⟨_, rfl⟩
    · have hx1 := hx hx2
      cases (bif !true then true else bif !y.2.2 then true else bif x.2.1 != y.2.1 then true else bif !radV ra then true else !radV rb)
      · have hc : ∀ p q : Int, (ref1_Ceil_C (max (max (IntKind.i64.wrap p) (IntKind.i64.wrap (0 - IntKind.i64.wrap p))) (max (IntKind.i64.wrap q) (IntKind.i64.wrap (0 - IntKind.i64.wrap q)))) x.2.1).o = some (cdiv (max (max (IntKind.i64.wrap p) (IntKind.i64.wrap (0 - IntKind.i64.wrap p))) (max (IntKind.i64.wrap q) (IntKind.i64.wrap (0 - IntKind.i64.wrap q)))) x.2.1) :=
          fun p q => ref1_Ceil_e (((InR.wr _).max (InR.wr _)).max ((InR.wr _).max (InR.wr _))) (by omega)
        simp only [cond_false, ref14_size_e, Option.bind_some, hc]
        generalize cdiv _ _ = c1
        cases decide (c1 > IntKind.i64.wrap (ra + rb))
        · simp only [cond_false]
          generalize cdiv _ _ = c2
          cases decide (c2 > IntKind.i64.wrap (ra + rb))
          · simp only [cond_false]
            generalize cdiv _ _ = c3
            cases decide (c3 > IntKind.i64.wrap (ra + rb)) <;> exact ⟨_, rfl⟩
          · exact ⟨_, rfl⟩
        · exact ⟨_, rfl⟩
      · exact ⟨_, rfl⟩
  obtain ⟨y, ey⟩ := ex
  have e0 : (ref14_Overlaps_C u v a ra b rb).o = (ref14_Overlaps_T u v a ra b rb).run NN := rfl
  rw [e0]
  simp only [ref14_Overlaps_T, T.run]
  rw [ey, Option.bind_some]
  cases y.2 <;> exact ⟨_, rfl⟩

/-! ### Classification -/
def VO (x : S_Verdict) : Prop := x.Normals.length ≤ 576 ∧ x.Witness.Left.length ≤ 8 ∧ x.Witness.Right.length ≤ 8
theorem ref14_Classify_x (s : S_Scene) (b : List S_Interval) (hs : List V3) (hbl : b.length < 4294967296) (hl : hs.length < 4294967280) : ∃ y : S_Verdict, (ref14_Classify_C s b hs).o = some y ∧ VO y := by
  have hpl := pairs_len s
  have e0 : (ref14_Classify_C s b hs).o = (ref14_Classify_T s b hs).run NN := rfl
  rw [e0]
  simp only [ref14_Classify_T, T.run]
  rw [ref14_sides_e s b hbl, Option.bind_some]
  by_cases h : sceneV s = 0 ∧ boxV s.Robot b = true
  · rw [if_pos h]
    simp only [Bool.not_true, cond_false, tab_len]
    obtain ⟨n, hn⟩ : ∃ n, (pairsV s).length = n := ⟨_, rfl⟩
    rw [hn] at hpl ⊢
    have key : ∀ {f : Int × List V3 × Int → Option (Step3 (Int × List V3 × Int) (Int × List V3) S_Verdict)} {k : Int × List V3 → Option S_Verdict}, (∀ j y, j < n → y.2.2 = (j : Int) → y.2.1.length ≤ j → (∃ y', f y = some (.next y') ∧ y'.2.2 = ((j + 1 : Nat) : Int) ∧ y'.2.1.length ≤ j + 1) ∨ ∃ r, f y = some (.fin r) ∧ VO r) → (∀ y, y.2.2 = (n : Int) → y.2.1.length ≤ n → ∃ z, f y = some (.out z) ∧ z.2.length ≤ n) →
        (∀ z, z.2.length ≤ n → ∃ r, k z = some r ∧ VO r) → ∃ r, andK (iter f NN (1, nl, 0)) k = some r ∧ VO r := by
      intro f k hs he hk
      have go : ∀ (m j N : Nat) y, j + m = n → m < N → y.2.2 = (j : Int) → y.2.1.length ≤ j → (∃ z, iter f N y = some (.inl z) ∧ z.2.length ≤ n) ∨ ∃ r, iter f N y = some (.inr r) ∧ VO r := by
        intro m
        induction m with
        | zero =>
          intro j N y hj hN h1 h2
          obtain ⟨M, rfl⟩ : ∃ M, N = M + 1 := ⟨N - 1, by omega⟩
          obtain rfl : j = n := by omega
          obtain ⟨z, e1, e2⟩ := he y h1 h2
          exact .inl ⟨z, by simp [iter, e1], e2⟩
        | succ m ih =>
          intro j N y hj hN h1 h2
          obtain ⟨M, rfl⟩ : ∃ M, N = M + 1 := ⟨N - 1, by omega⟩
          rcases hs j y (by omega) h1 h2 with ⟨y', e1, e2, e3⟩ | ⟨r, e1, e2⟩
          · simp only [iter, e1]; exact ih (j + 1) M y' (by omega) (by omega) e2 e3
          · exact .inr ⟨r, by simp [iter, e1], e2⟩
      rcases go n 0 NN (1, nl, 0) (by omega) (show n < 4294967296 by omega) rfl (by simp [nl]) with ⟨z, e1, e2⟩ | ⟨r, e1, e2⟩
      · rw [andK_inl e1]; exact hk z e2
      · rw [andK_inr e1]; exact ⟨r, rfl, e2⟩
    refine key (fun j y hj h1 h2 => ?_) (fun y h1 h2 => ?_) (fun z hz => ⟨_, rfl, by simp only; omega, by simp [nl], by simp [nl]⟩)
    · rw [h1, bif_dpos (by omega), Int.toNat_natCast, wn (by omega), tab_get (by omega), tab_get (by omega)]
      have hint : ∃ hh : List V3, (bif decide ((j : Int) < (hs.length : Int)) then grd (0 ≤ (j : Int) ∧ (j : Int) ≤ ((j + 1 : Nat) : Int) ∧ ((j + 1 : Nat) : Int) ≤ (hs.length : Int)) (some (.out ((hs.drop j).take ((((j + 1 : Nat) : Int)).toNat - j)))) else some (.out nl) : Option (Step3 Unit (List V3) (Step3 Unit (Int × List V3) (Step3 (Int × List V3 × Int) (Int × List V3) S_Verdict)))) = some (.out hh) ∧ hh.length ≤ hs.length := by
        by_cases hc : (j : Int) < (hs.length : Int)
        · rw [bif_dpos hc, grd_p ⟨by omega, by omega, by omega⟩]; exact ⟨_, rfl, by simp; omega⟩
        · rw [bif_dneg hc]; exact ⟨_, rfl, by simp [nl]⟩
      obtain ⟨hh, eh, lh⟩ := hint
      rw [eh, andC_out, grd_p ⟨by omega, by omega⟩, grd_p ⟨by omega, by omega⟩, grd_p ⟨by omega, by omega⟩, grd_p ⟨by omega, by omega⟩]
      generalize sideA s b j = A
      generalize sideB s b j = B
      obtain ⟨nm, en⟩ := ref14_FindNormal_x A.points A.radius B.points B.radius hh (by omega)
      obtain ⟨sr, esr, hsr⟩ := ref14_Search_x (cenV A.points) (cenV B.points) (IntKind.i64.wrap (A.radius + B.radius)) 64
      obtain ⟨ov, eov⟩ := ref14_Overlaps_x sr.Left sr.Right A.points A.radius B.points B.radius (by have := hsr.2.1; omega) (by have := hsr.2.2; omega)
      rw [en, Option.bind_some, grd_p ⟨by simp; omega, by simp [maxLen_eq]; omega⟩]
      cases nm.2
      · simp only [cond_false]
        rw [grd_p ⟨by omega, by omega⟩, ref10_Centers_e, Option.bind_some, grd_p ⟨by omega, by omega⟩, ref10_Centers_e, Option.bind_some, grd_p ⟨by omega, by omega⟩, grd_p ⟨by omega, by omega⟩, esr, Option.bind_some, grd_p ⟨by omega, by omega⟩, grd_p ⟨by omega, by omega⟩, grd_p ⟨by omega, by omega⟩, grd_p ⟨by omega, by omega⟩, eov, Option.bind_some]
        cases ov
        · left; exact ⟨_, rfl, rfl, by simp; omega⟩
        · right; exact ⟨_, rfl, by simp [nl], hsr.2.1, hsr.2.2⟩
      · left; exact ⟨_, rfl, rfl, by simp; omega⟩
    · rw [h1, bif_dneg (by omega)]; exact ⟨_, rfl, h2⟩
  · rw [if_neg h]; exact ⟨_, rfl, by simp [nl], by simp [nl], by simp [nl]⟩
end Go.Abs

/-
  The reference's proof of a motion returns.
-/
namespace Go.Abs

theorem loop_mf {σ τ R : Type} {f : σ → Option (Step3 σ τ R)} {k : τ → Option R} {P : R → Prop} {x : σ} (I : Nat → σ → Prop) (Q : τ → Prop) (m : Nat) (h0 : I m x) (hN : m < 4294967296)
    (hr : ∀ m x, I m x → (∃ x' m', f x = some (.next x') ∧ m' < m ∧ I m' x') ∨ (∃ y, f x = some (.out y) ∧ Q y) ∨ ∃ r, f x = some (.fin r) ∧ P r) (hk : ∀ y, Q y → ∃ r, k y = some r ∧ P r) : ∃ r, andK (iter f NN x) k = some r ∧ P r := by
  have go : ∀ (N m : Nat) (x : σ), I m x → m < N → (∃ y, iter f N x = some (.inl y) ∧ Q y) ∨ ∃ r, iter f N x = some (.inr r) ∧ P r := by
    intro N
    induction N with
    | zero => intro m x _ h; omega
    | succ N ih =>
      intro m x hi h
      rcases hr m x hi with ⟨x', m', h1, h2, h3⟩ | ⟨y, h1, h2⟩ | ⟨r, h1, h2⟩
      · simp only [iter, h1]; exact ih m' x' h3 (by omega)
      · exact .inl ⟨y, by simp [iter, h1], h2⟩
      · exact .inr ⟨r, by simp [iter, h1], h2⟩
  rcases go NN m x h0 hN with ⟨y, e1, e2⟩ | ⟨r, e1, e2⟩
  · rw [andK_inl e1]; exact hk y e2
  · rw [andK_inr e1]; exact ⟨r, rfl, e2⟩
def wtP (d : Int) (t : S_ref19_place) : Nat := 2 ^ ((d - t.depth).toNat + 1) - 1
def wtL (d : Int) (l : List S_ref19_place) : Nat := (l.map (wtP d)).sum
theorem wtP_pos (d : Int) (t : S_ref19_place) : 1 ≤ wtP d t := by
  unfold wtP
  have : 2 ^ 1 ≤ 2 ^ ((d - t.depth).toNat + 1) := Nat.pow_le_pow_right (by decide) (by omega)
  omega
theorem wtL_len (d : Int) : ∀ l : List S_ref19_place, l.length ≤ wtL d l
  | [] => by simp [wtL]
  | t :: l => by
    have h1 := wtL_len d l
    have h2 := wtP_pos d t
    simp only [wtL, List.map_cons, List.sum_cons, List.length_cons] at h1 ⊢; omega
theorem wtL_app (d : Int) (l l' : List S_ref19_place) : wtL d (l ++ l') = wtL d l + wtL d l' := by simp [wtL]
/-- What a result of a proof is like. -/
def EO (x : S_EdgeResult) : Prop := x.Pieces.length ≤ 4096 ∧ ∀ y ∈ x.Pieces, y.Normals.length ≤ 576
set_option maxRecDepth 4000 in
theorem ref19_Prove_x (s : S_Scene) (p q : List Int) (d : Int) (hp : p.length < 4294967296) (hq : q.length < 4294967296) : ∃ y : S_EdgeResult, (ref19_Prove_C s p q d).o = some y ∧ EO y := by
  have z0 : ∀ k a w, EO ⟨k, nl, a, w⟩ := fun k a w => ⟨by simp [nl], by simp [nl]⟩
  have e0 : (ref19_Prove_C s p q d).o = (ref19_Prove_T s p q d).run NN := rfl
  rw [e0]
  have er : ∃ rd, (ref19_ready_C s p q).o = some rd := by
    have e1 : (ref19_ready_C s p q).o = (ref19_ready_T s p q).run NN := rfl
    rw [e1]
    simp only [ref19_ready_T, T.run, ref6_CheckScene_e, ref10_Inside_e, Option.bind_some]
    cases sceneV s == 0 <;> cases insideV s.Robot p <;> exact ⟨_, rfl⟩
  obtain ⟨rd, er⟩ := er
  simp only [ref19_Prove_T, T.run]
  rw [er, Option.bind_some]
  simp only [bif_out, andC_out]
  cases hc : (bif !rd then true else bif decide (d < 0) then true else decide (d > 20))
  · have hd : 0 ≤ d ∧ d ≤ 20 := by
      cases rd with
      | false => cases hc
      | true =>
        simp only [Bool.not_true, cond_false, bif_tb, Bool.or_eq_false_iff, decide_eq_false_iff_not] at hc
        omega
    simp only [cond_false]
    refine loop_mf (fun m (y : List S_Piece × List S_ref19_place) => wtL d y.2 = m ∧ m ≤ 2097151 ∧ y.1.length ≤ 4096 ∧ (∀ x ∈ y.1, x.Normals.length ≤ 576) ∧ ∀ t ∈ y.2, 0 ≤ t.depth ∧ t.depth ≤ d ∧ t.hints.length ≤ 576)
      (fun z => z.length ≤ 4096 ∧ ∀ x ∈ z, x.Normals.length ≤ 576) (wtL d [⟨0, 0, nl⟩]) ⟨rfl, ?_, by simp [nl], by simp [nl], ?_⟩ ?_ (fun m y hy => ?_) (fun z hz => ⟨_, rfl, hz⟩)
    · simp only [wtL, List.map_cons, List.map_nil, List.sum_cons, List.sum_nil, wtP]
      have : 2 ^ ((d - 0).toNat + 1) ≤ 2 ^ 21 := Nat.pow_le_pow_right (by decide) (by omega)
      have e : 2 ^ 21 = 2097152 := by decide
      omega
    · intro t ht
      rw [List.mem_singleton.1 ht]; exact ⟨by simp, by simp only; omega, by simp [nl]⟩
    · simp only [wtL, List.map_cons, List.map_nil, List.sum_cons, List.sum_nil, wtP]
      have : 2 ^ ((d - 0).toNat + 1) ≤ 2 ^ 21 := Nat.pow_le_pow_right (by decide) (by omega)
      have e : 2 ^ 21 = 2097152 := by decide
      omega
    · obtain ⟨i1, i2, i3, i4, i5⟩ := hy
      have il := wtL_len d y.2
      by_cases hn : y.2.length = 0
      · right; left
        rw [bif_dneg (by omega)]; exact ⟨_, rfl, i3, i4⟩
      · obtain ⟨n, hn1⟩ : ∃ n, y.2.length = n + 1 := ⟨y.2.length - 1, by omega⟩
        have hw : IntKind.i64.wrap (((y.2.length : Nat) : Int) - 1) = (n : Int) := by rw [hn1, w64 (by omega) (by omega)]; omega
        have hsp : y.2 = y.2.take n ++ [y.2.getD n default] := by rw [← take_snoc (by omega), List.take_of_length_le (by omega)]
        have hwt : wtL d (y.2.take n) + wtP d (y.2.getD n default) = m := by
          rw [← i1]; conv => rhs; rw [hsp]
          rw [wtL_app]; simp [wtL]
        have htake : ∀ t ∈ y.2.take n, 0 ≤ t.depth ∧ t.depth ≤ d ∧ t.hints.length ≤ 576 := fun t ht => i5 t (List.mem_of_mem_take ht)
        have hlast := i5 _ (getD_mem (show n < y.2.length by omega))
        have ltk : (y.2.take n).length = n := by simp; omega
        rw [hw, bif_dpos (by omega), grd_p ⟨by omega, by omega⟩, Int.toNat_natCast, grd_p (by omega), grd_p ⟨by omega, by omega, by omega⟩]
        generalize y.2.getD n default = X at hlast hwt ⊢
        generalize y.2.take n = tk at htake hwt ltk ⊢
        by_cases hm : ((y.1.length : Nat) : Int) ≥ 4096
        · rw [bif_dpos hm]; right; right; exact ⟨_, rfl, z0 _ _ _⟩
        · rw [bif_dneg hm, ref10_Piece_e p q _ _ hp hq, Option.bind_some]
          obtain ⟨v, ev, hv⟩ := ref14_Classify_x s (pieceV p q X.depth X.index).1 X.hints (piece_len p q _ _ hp) (by omega)
          rw [ev, Option.bind_some]
          by_cases k1 : v.Kind = 1
          · rw [bif_eq k1, grd_p ⟨by simp; omega, by simp [maxLen_eq]; omega⟩]
            left
            have wp := wtP_pos d X
            refine ⟨_, wtL d tk, rfl, by omega, rfl, by omega, by simp; omega, fun x hx => ?_, htake⟩
            rcases List.mem_append.1 hx with hx | hx
            · exact i4 x hx
            · rw [List.mem_singleton.1 hx]; exact hv.1
          · rw [bif_ne k1]
            by_cases k2 : v.Kind = 2
            · rw [bif_eq k2]; right; right; exact ⟨_, rfl, z0 _ _ _⟩
            · rw [bif_ne k2]
              by_cases k3 : X.depth = d
              · rw [bif_eq k3]; right; right; exact ⟨_, rfl, z0 _ _ _⟩
              · rw [bif_ne k3, grd_p ⟨by simp only [ltk, List.length_cons, List.length_nil]; omega, by simp only [ltk, List.length_cons, List.length_nil, maxLen_eq]; omega⟩]
                left
                have hwd : IntKind.i64.wrap (X.depth + 1) = X.depth + 1 := w64 (by omega) (by omega)
                have hpow : wtP d X = 2 * 2 ^ ((d - (X.depth + 1)).toNat + 1) - 1 := by
                  unfold wtP
                  rw [show (d - X.depth).toNat + 1 = ((d - (X.depth + 1)).toNat + 1) + 1 by omega, Nat.pow_succ]; omega
                have hpp : 2 ≤ 2 ^ ((d - (X.depth + 1)).toNat + 1) := by
                  have : 2 ^ 1 ≤ 2 ^ ((d - (X.depth + 1)).toNat + 1) := Nat.pow_le_pow_right (by decide) (by omega)
                  omega
                refine ⟨_, wtL d tk + (2 * (2 ^ ((d - (X.depth + 1)).toNat + 1) - 1)), rfl, by omega, ?_, by omega, i3, i4, fun t ht => ?_⟩
                · rw [wtL_app]; simp only [wtL, List.map_cons, List.map_nil, List.sum_cons, List.sum_nil, wtP, hwd]; omega
                · rcases List.mem_append.1 ht with ht | ht
                  · exact htake t ht
                  · simp only [List.mem_cons, List.not_mem_nil, or_false] at ht
                    rcases ht with rfl | rfl
                    · simp only [hwd]; exact ⟨by omega, by omega, hv.1⟩
                    · simp only [hwd]; exact ⟨by omega, by omega, hv.1⟩
  · exact ⟨_, rfl, z0 _ _ _⟩
end Go.Abs

/-
  Made scenes, configurations and motions: the makers return.
-/
namespace Go.Abs

theorem make_Round_e {x k : Int} (hk : 0 < k) (hk2 : k ≤ 4611686018427387904) : (make_Round_C x k).o = some (x % k) := by
  show (make_Round_T x k).run NN = _
  have h2 := Int.tmod_lt_of_pos x hk
  have h3 := Int.lt_tmod_of_pos x hk
  have h1 := Int.mul_tdiv_add_tmod x k
  have e := Int.emod_add_mul_ediv x k
  have e2 := Int.emod_nonneg x (show k ≠ 0 by omega)
  have e3 := Int.emod_lt_of_pos x hk
  simp only [make_Round_T, T.run]
  rw [grd_p (by omega)]
  by_cases h : x.tmod k < 0
  · rw [bif_dpos h, andC_out, w64 (by omega) (by omega)]
    congr 1
    have : x % k = x.tmod k + k := by
      have := div_unique (a := x) (b := k) (q := x.tdiv k - 1) (r := x.tmod k + k) (by omega) (by omega) (by rw [Int.mul_sub]; omega)
      rw [this, Int.mul_sub] at e; omega
    omega
  · rw [bif_dneg h, andC_out]
    congr 1
    have := div_unique (a := x) (b := k) (q := x.tdiv k) (r := x.tmod k) (by omega) (by omega) (by omega)
    rw [this] at e; omega
section
variable {l : List Int} (hl : l.length < 4294967296) {n : Int} (h0 : 0 ≤ n) (h1 : n ≤ (l.length : Int))
include hl h0 h1
theorem Source_Next_x {k : Int} (hk : 0 < k) (hk2 : k ≤ 4611686018427387904) : ∃ r n', (Source_Next_C l n k).o = some (r, l, n') ∧ 0 ≤ r ∧ r < k ∧ 0 ≤ n' ∧ n' ≤ (l.length : Int) := by
  have e0 : (Source_Next_C l n k).o = (Source_Next_T l n k).run NN := rfl
  rw [e0]
  simp only [Source_Next_T, T.run]
  by_cases h : n ≥ (l.length : Int)
  · rw [bif_dpos h]; exact ⟨_, _, rfl, by omega, by omega, h0, h1⟩
  · rw [bif_dneg h, w64 (x := n + 1) (by omega) (by omega), w64 (by omega) (by omega), grd_p ⟨by omega, by omega⟩, make_Round_e hk hk2, Option.bind_some]
    exact ⟨_, _, rfl, Int.emod_nonneg _ (by omega), Int.emod_lt_of_pos _ hk, by omega, by omega⟩
theorem Source_Signed_x {k : Int} (hk : 0 ≤ k) (hk2 : k ≤ 1000000) : ∃ r n', (Source_Signed_C l n k).o = some (r, l, n') ∧ -k ≤ r ∧ r ≤ k ∧ 0 ≤ n' ∧ n' ≤ (l.length : Int) := by
  have e0 : (Source_Signed_C l n k).o = (Source_Signed_T l n k).run NN := rfl
  rw [e0]
  simp only [Source_Signed_T, T.run]
  rw [w64 (x := 2 * k) (by omega) (by omega), w64 (x := 2 * k + 1) (by omega) (by omega)]
  obtain ⟨r, n', e1, e2, e3, e4, e5⟩ := Source_Next_x hl h0 h1 (k := 2 * k + 1) (by omega) (by omega)
  rw [e1, Option.bind_some, w64 (by omega) (by omega)]
  exact ⟨_, _, rfl, by omega, by omega, e4, e5⟩
/-- Limits of a made joint. -/
def JB (j : S_Joint) : Prop := -1048576 ≤ j.Lo ∧ j.Lo ≤ j.Hi ∧ j.Hi ≤ 1048576
theorem make_joint_x {i : Int} (i0 : 0 ≤ i) (i1 : i ≤ 2) : ∃ j n', (make_joint_C l n i).o = some (j, l, n') ∧ JB j ∧ 0 ≤ n' ∧ n' ≤ (l.length : Int) := by
  have e0 : (make_joint_C l n i).o = (make_joint_T l n i).run NN := rfl
  rw [e0]
  simp only [make_joint_T, T.run]
  have el : ∃ b, (make_letter_C i).o = some b := by
    have e1 : (make_letter_C i).o = (make_letter_T i).run NN := rfl
    rw [e1]
    simp only [make_letter_T, T.run]
    rw [w64 (x := i + 1) (by omega) (by omega), grd_p ⟨by omega, by omega, by rw [show ((⟨#[97, 98, 99, 100, 101, 102, 103, 104, 105, 106]⟩ : ByteArray).size) = 10 from rfl]; omega⟩]
    exact ⟨_, rfl⟩
  obtain ⟨nm, el⟩ := el
  obtain ⟨r1, n1, e1, a1, b1, c1, d1⟩ := Source_Next_x hl h0 h1 (k := 4) (by decide) (by decide)
  obtain ⟨r2, n2, e2, a2, b2, c2, d2⟩ := Source_Next_x hl c1 d1 (k := 3) (by decide) (by decide)
  obtain ⟨r3, n3, e3, a3, b3, c3, d3⟩ := Source_Next_x hl c2 d2 (k := 8) (by decide) (by decide)
  obtain ⟨r4, n4, e4, a4, b4, c4, d4⟩ := Source_Next_x hl c3 d3 (k := 4) (by decide) (by decide)
  rw [el, Option.bind_some, e1, Option.bind_some, e2, Option.bind_some, e3, Option.bind_some, grd_p ⟨by simp only; omega, by simp only; omega⟩, e4, Option.bind_some]
  generalize hK : ([3, 3, 1, 2, 4, 5, 3, 0] : List Int).getD r3.toNat 0 = K
  -- the rest, from whatever parent
  have rest : ∀ (m pr : Int), 0 ≤ m → m ≤ (l.length : Int) → ∃ j n', (andC (bif decide (i > 0) then (Source_Signed_C l m 2).o.bind fun y21 => (Source_Signed_C y21.2.1 y21.2.2 1).o.bind fun y22 => some (.out (y22.2.1, y22.2.2, 131072, IntKind.i64.wrap (y21.1 * 32768), IntKind.i64.wrap (y22.1 * 32768))) else some (.out (l, m, 0, 0, 0)) : Option (Step3 Unit (List Int × Int × Int × Int × Int) (S_Joint × List Int × Int))) fun y20 =>
      andC (bif K == 0 then some (.out (y20.1, y20.2.1, 0, 0)) else andC (bif K == 4 then some (.out (K == 4)) else some (.out (K == 5)) : Option (Step3 Unit Bool (Step3 Unit (List Int × Int × Int × Int) (S_Joint × List Int × Int)))) fun y36 =>
        bif y36 then (Source_Next_C y20.1 y20.2.1 3).o.bind fun y37 => (Source_Next_C y37.2.1 y37.2.2 4).o.bind fun y38 => some (.out (y38.2.1, y38.2.2, IntKind.i64.wrap (IntKind.i64.wrap (0 - y37.1) * 65536), IntKind.i64.wrap (y38.1 * 32768)))
        else (Source_Next_C y20.1 y20.2.1 5).o.bind fun y39 => (Source_Next_C y39.2.1 y39.2.2 4).o.bind fun y40 => (Source_Next_C y40.2.1 y40.2.2 3).o.bind fun y41 =>
          some (.out (y41.2.1, y41.2.2, IntKind.i64.wrap ((IntKind.i64.wrap (IntKind.i64.wrap (0 - y39.1) * 65536)).tdiv 8), IntKind.i64.wrap (IntKind.i64.wrap ((IntKind.i64.wrap (IntKind.i64.wrap (1 + y40.1) * 65536)).tdiv 8) + y41.1))) : Option (Step3 Unit (List Int × Int × Int × Int) (S_Joint × List Int × Int))) fun y35 =>
      some ((⟨nm, K, pr, (y20.2.2.1, y20.2.2.2.1, y20.2.2.2.2), y35.2.2.1, y35.2.2.2, IntKind.i64.wrap (1 + r1), 65536, IntKind.i64.wrap (65536 + r2), 327680⟩ : S_Joint), y35.1, y35.2.1)) = some (j, l, n') ∧ JB j ∧ 0 ≤ n' ∧ n' ≤ (l.length : Int) := by
    intro m pr m0 m1
    have lim : ∀ (m : Int) (o1 o2 o3 : Int), 0 ≤ m → m ≤ (l.length : Int) → ∃ j n', (andC (bif K == 0 then some (.out (l, m, 0, 0)) else andC (bif K == 4 then some (.out (K == 4)) else some (.out (K == 5)) : Option (Step3 Unit Bool (Step3 Unit (List Int × Int × Int × Int) (S_Joint × List Int × Int)))) fun y36 =>
        bif y36 then (Source_Next_C l m 3).o.bind fun y37 => (Source_Next_C y37.2.1 y37.2.2 4).o.bind fun y38 => some (.out (y38.2.1, y38.2.2, IntKind.i64.wrap (IntKind.i64.wrap (0 - y37.1) * 65536), IntKind.i64.wrap (y38.1 * 32768)))
        else (Source_Next_C l m 5).o.bind fun y39 => (Source_Next_C y39.2.1 y39.2.2 4).o.bind fun y40 => (Source_Next_C y40.2.1 y40.2.2 3).o.bind fun y41 =>
          some (.out (y41.2.1, y41.2.2, IntKind.i64.wrap ((IntKind.i64.wrap (IntKind.i64.wrap (0 - y39.1) * 65536)).tdiv 8), IntKind.i64.wrap (IntKind.i64.wrap ((IntKind.i64.wrap (IntKind.i64.wrap (1 + y40.1) * 65536)).tdiv 8) + y41.1))) : Option (Step3 Unit (List Int × Int × Int × Int) (S_Joint × List Int × Int))) fun y35 =>
      some ((⟨nm, K, pr, (o1, o2, o3), y35.2.2.1, y35.2.2.2, IntKind.i64.wrap (1 + r1), 65536, IntKind.i64.wrap (65536 + r2), 327680⟩ : S_Joint), y35.1, y35.2.1)) = some (j, l, n') ∧ JB j ∧ 0 ≤ n' ∧ n' ≤ (l.length : Int) := by
      intro m o1 o2 o3 m0 m1
      cases K == 0
      · simp only [cond_false, bif_out, andC_out]
        cases (bif K == 4 then K == 4 else K == 5)
        · obtain ⟨s1, n1, e1, a1, b1, c1, d1⟩ := Source_Next_x hl m0 m1 (k := 5) (by decide) (by decide)
          obtain ⟨s2, n2, e2, a2, b2, c2, d2⟩ := Source_Next_x hl c1 d1 (k := 4) (by decide) (by decide)
          obtain ⟨s3, n3, e3, a3, b3, c3, d3⟩ := Source_Next_x hl c2 d2 (k := 3) (by decide) (by decide)
          simp only [cond_false]
          rw [e1, Option.bind_some, e2, Option.bind_some, e3, Option.bind_some, andC_out]
          refine ⟨_, _, rfl, ?_, c3, d3⟩
          simp only [JB]
          rw [w64 (x := 0 - s1) (by omega) (by omega), w64 (x := (0 - s1) * 65536) (by omega) (by omega), w64 (x := 1 + s2) (by omega) (by omega), w64 (x := (1 + s2) * 65536) (by omega) (by omega), tdiv_pos (a := (1 + s2) * 65536) (by omega),
            show (0 - s1) * 65536 = -(s1 * 65536) by omega, tdiv_negl, tdiv_pos (by omega), w64 (x := -(s1 * 65536 / 8)) (by omega) (by omega), w64 (x := (1 + s2) * 65536 / 8) (by omega) (by omega), w64 (x := (1 + s2) * 65536 / 8 + s3) (by omega) (by omega)]
          omega
        · obtain ⟨s1, n1, e1, a1, b1, c1, d1⟩ := Source_Next_x hl m0 m1 (k := 3) (by decide) (by decide)
          obtain ⟨s2, n2, e2, a2, b2, c2, d2⟩ := Source_Next_x hl c1 d1 (k := 4) (by decide) (by decide)
          simp only [cond_true]
          rw [e1, Option.bind_some, e2, Option.bind_some, andC_out]
          refine ⟨_, _, rfl, ?_, c2, d2⟩
          simp only [JB]
          rw [w64 (x := 0 - s1) (by omega) (by omega), w64 (x := (0 - s1) * 65536) (by omega) (by omega), w64 (x := s2 * 32768) (by omega) (by omega)]
          omega
      · exact ⟨_, _, rfl, by simp only [JB]; omega, m0, m1⟩
    cases decide (i > 0)
    · simp only [cond_false, andC_out]; exact lim m 0 0 0 m0 m1
    · obtain ⟨s1, n1, e1, a1, b1, c1, d1⟩ := Source_Signed_x hl m0 m1 (k := 2) (by decide) (by decide)
      obtain ⟨s2, n2, e2, a2, b2, c2, d2⟩ := Source_Signed_x hl c1 d1 (k := 1) (by decide) (by decide)
      simp only [cond_true]
      rw [e1, Option.bind_some, e2, Option.bind_some, andC_out]
      exact lim n2 _ _ _ c2 d2
  cases r4 == 1
  · exact rest n4 _ c4 d4
  · exact rest n4 _ c4 d4
theorem make_robot_y : ∃ b : S_Robot × List Int × Int, (make_robot_C l n).o = some b ∧ b.2.1 = l ∧ (1 ≤ b.1.Joints.length ∧ b.1.Joints.length ≤ 3 ∧ ∀ j ∈ b.1.Joints, JB j) ∧ 0 ≤ b.2.2 ∧ b.2.2 ≤ (l.length : Int) := by
  have e0 : (make_robot_C l n).o = (make_robot_T l n).run NN := rfl
  rw [e0]
  simp only [make_robot_T, T.run]
  obtain ⟨r1, n1, e1, a1, b1, c1, d1⟩ := Source_Next_x hl h0 h1 (k := 3) (by decide) (by decide)
  rw [e1, Option.bind_some]
  simp only
  rw [w64 (x := 1 + r1) (by omega) (by omega)]
  obtain ⟨R, hR⟩ : ∃ R : Nat, 1 + r1 = (R : Int) := ⟨(1 + r1).toNat, by omega⟩
  rw [hR]
  refine loop_cnt (g := fun b => b) R (by omega) (fun j (y : List Int × Int × List S_Joint × Int) => y.1 = l ∧ 0 ≤ y.2.1 ∧ y.2.1 ≤ (l.length : Int) ∧ y.2.2.1.length = j ∧ (∀ x ∈ y.2.2.1, JB x) ∧ y.2.2.2 = (j : Int))
    (fun (z : List Int × Int × List S_Joint) => z.1 = l ∧ 0 ≤ z.2.1 ∧ z.2.1 ≤ (l.length : Int) ∧ z.2.2.length = R ∧ ∀ x ∈ z.2.2, JB x) ⟨rfl, c1, d1, rfl, by simp [nl], rfl⟩ (fun j y hj hy => ?_) (fun y hy => ?_) (fun z hz => ?_)
  · obtain ⟨f1, f2, f3, f4, f5, f6⟩ := hy
    obtain ⟨jt, n', ej, hj1, hj2, hj3⟩ := make_joint_x hl f2 f3 (i := (j : Int)) (by omega) (by omega)
    rw [f6, f1, bif_dpos (by omega), ej, Option.bind_some]
    simp only
    rw [grd_p ⟨by simp; omega, by simp [maxLen_eq]; omega⟩, wn (by omega)]
    refine ⟨_, rfl, rfl, hj2, hj3, by simp; omega, fun x hx => ?_, rfl⟩
    rcases List.mem_append.1 hx with hx | hx
    · exact f5 x hx
    · rw [List.mem_singleton.1 hx]; exact hj1
  · obtain ⟨f1, f2, f3, f4, f5, f6⟩ := hy
    rw [f6, bif_dneg (by omega)]; exact ⟨_, rfl, f1, f2, f3, f4, f5⟩
  · obtain ⟨f1, f2, f3, f4, f5⟩ := hz
    obtain ⟨r2, n2, e2, a2, b2, c2, d2⟩ := Source_Next_x hl f2 f3 (k := 3) (by decide) (by decide)
    rw [f1, e2, Option.bind_some]
    simp only
    obtain ⟨M, hM⟩ : ∃ M : Nat, r2 = (M : Int) := ⟨r2.toNat, by omega⟩
    rw [hM]
    refine loop_cnt (g := fun b => b) M (by omega) (fun j (y : List Int × Int × List S_Mass × Int) => y.1 = l ∧ 0 ≤ y.2.1 ∧ y.2.1 ≤ (l.length : Int) ∧ y.2.2.1.length = j ∧ y.2.2.2 = (M : Int) - (j : Int))
      (fun (w : List Int × Int × List S_Mass) => w.1 = l ∧ 0 ≤ w.2.1 ∧ w.2.1 ≤ (l.length : Int)) ⟨rfl, c2, d2, rfl, by simp⟩ (fun j y hj hy => ?_) (fun y hy => ?_) (fun w hw => ?_)
    · obtain ⟨g1, g2, g3, g4, g5⟩ := hy
      obtain ⟨s1, m1, q1, u1, v1, w1, x1⟩ := Source_Next_x hl g2 g3 (k := (R : Int)) (by omega) (by omega)
      obtain ⟨s2, m2, q2, u2, v2, w2, x2⟩ := Source_Next_x hl w1 x1 (k := 9000) (by decide) (by decide)
      obtain ⟨s3, m3, q3, u3, v3, w3, x3⟩ := Source_Signed_x hl w2 x2 (k := 3) (by decide) (by decide)
      obtain ⟨s4, m4, q4, u4, v4, w4, x4⟩ := Source_Signed_x hl w3 x3 (k := 2) (by decide) (by decide)
      rw [g5, g1, bif_dpos (by omega), q1, Option.bind_some, q2, Option.bind_some, q3, Option.bind_some, q4, Option.bind_some]
      simp only
      rw [grd_p ⟨by simp; omega, by simp [maxLen_eq]; omega⟩, w64 (x := (M : Int) - (j : Int) - 1) (by omega) (by omega)]
      exact ⟨_, rfl, rfl, w4, x4, by simp; omega, by simp only; omega⟩
    · obtain ⟨g1, g2, g3, g4, g5⟩ := hy
      rw [g5, bif_dneg (by omega)]; exact ⟨_, rfl, g1, g2, g3⟩
    · exact ⟨_, rfl, hw.1, ⟨by simp only; omega, by simp only; omega, f5⟩, hw.2.1, hw.2.2⟩
theorem make_robot_x : ∃ r n', (make_robot_C l n).o = some (r, l, n') ∧ (1 ≤ r.Joints.length ∧ r.Joints.length ≤ 3 ∧ ∀ j ∈ r.Joints, JB j) ∧ 0 ≤ n' ∧ n' ≤ (l.length : Int) := by
  obtain ⟨⟨r, l', n'⟩, g1, g2, g3, g4, g5⟩ := make_robot_y hl h0 h1
  simp only at g2; subst g2
  exact ⟨r, n', g1, g3, g4, g5⟩
theorem make_points_y (c : V3) : ∃ b : List V3 × List Int × Int, (make_points_C l n c).o = some b ∧ b.2.1 = l ∧ 0 ≤ b.2.2 ∧ b.2.2 ≤ (l.length : Int) := by
  have e0 : (make_points_C l n c).o = (make_points_T l n c).run NN := rfl
  rw [e0]
  simp only [make_points_T, T.run, T.ix]
  obtain ⟨r1, n1, e1, a1, b1, c1, d1⟩ := Source_Next_x hl h0 h1 (k := 4) (by decide) (by decide)
  rw [e1, Option.bind_some]
  simp only
  obtain ⟨M, hM⟩ : ∃ M : Nat, r1 = (M : Int) := ⟨r1.toNat, by omega⟩
  rw [hM]
  refine loop_cnt (g := fun b => b) M (by omega) (fun j (y : List Int × Int × List V3 × Int) => y.1 = l ∧ 0 ≤ y.2.1 ∧ y.2.1 ≤ (l.length : Int) ∧ y.2.2.1.length = j + 1 ∧ y.2.2.2 = (M : Int) - (j : Int))
    (fun (w : List Int × Int × List V3) => w.1 = l ∧ 0 ≤ w.2.1 ∧ w.2.1 ≤ (l.length : Int)) ⟨rfl, c1, d1, rfl, by simp⟩ (fun j y hj hy => ?_) (fun y hy => ?_) (fun w hw => ⟨_, rfl, hw⟩)
  · obtain ⟨g1, g2, g3, g4, g5⟩ := hy
    obtain ⟨s1, m1, q1, u1, v1, w1, x1⟩ := Source_Signed_x hl g2 g3 (k := 3) (by decide) (by decide)
    obtain ⟨s2, m2, q2, u2, v2, w2, x2⟩ := Source_Signed_x hl w1 x1 (k := 2) (by decide) (by decide)
    obtain ⟨s3, m3, q3, u3, v3, w3, x3⟩ := Source_Signed_x hl w2 x2 (k := 2) (by decide) (by decide)
    rw [g5, g1, bif_dpos (by omega), q1, Option.bind_some, q2, Option.bind_some, q3, Option.bind_some]
    simp only
    rw [grd_p ⟨by simp; omega, by simp [maxLen_eq]; omega⟩, w64 (x := (M : Int) - (j : Int) - 1) (by omega) (by omega)]
    exact ⟨_, rfl, rfl, w3, x3, by simp; omega, by simp only; omega⟩
  · obtain ⟨g1, g2, g3, g4, g5⟩ := hy
    rw [g5, bif_dneg (by omega)]; exact ⟨_, rfl, g1, g2, g3⟩
theorem make_points_x (c : V3) : ∃ ps n', (make_points_C l n c).o = some (ps, l, n') ∧ 0 ≤ n' ∧ n' ≤ (l.length : Int) := by
  obtain ⟨⟨r, l', n'⟩, g1, g2, g4, g5⟩ := make_points_y hl h0 h1 c
  simp only at g2; subst g2
  exact ⟨r, n', g1, g4, g5⟩
end
end Go.Abs

/-
  Made scenes and configurations: the makers return.
-/
namespace Go.Abs

theorem make_Scene_x (l : List Int) (hl : l.length < 4294967296) : ∃ s : S_Scene, (make_Scene_C l).o = some s ∧ (1 ≤ s.Robot.Joints.length ∧ s.Robot.Joints.length ≤ 3 ∧ ∀ j ∈ s.Robot.Joints, JB j) := by
  have e0 : (make_Scene_C l).o = (make_Scene_T l).run NN := rfl
  rw [e0]
  simp only [make_Scene_T, T.run]
  have ef : (make_From_C l).o = some (l, 0) := rfl
  rw [ef, Option.bind_some]
  obtain ⟨r, n0, er, hr, m0, m1⟩ := make_robot_x hl (n := 0) (by omega) (by omega)
  rw [er, Option.bind_some]
  simp only
  refine loop_cnt (g := fun b => b) r.Joints.length (by omega) (fun j (y : List Int × Int × List S_Shape × Int) => y.1 = l ∧ 0 ≤ y.2.1 ∧ y.2.1 ≤ (l.length : Int) ∧ y.2.2.1.length ≤ j ∧ y.2.2.2 = (j : Int))
    (fun (w : List Int × Int × List S_Shape) => w.1 = l ∧ 0 ≤ w.2.1 ∧ w.2.1 ≤ (l.length : Int) ∧ w.2.2.length ≤ 3) ⟨rfl, m0, m1, by simp [nl], rfl⟩ (fun j y hj hy => ?_) (fun y hy => ?_) (fun z hz => ?_)
  · obtain ⟨g1, g2, g3, g4, g5⟩ := hy
    obtain ⟨s1, p1, q1, u1, v1, w1, x1⟩ := Source_Next_x hl g2 g3 (k := 5) (by decide) (by decide)
    obtain ⟨s2, p2, q2, u2, v2, w2, x2⟩ := Source_Next_x hl w1 x1 (k := 3) (by decide) (by decide)
    obtain ⟨s3, p3, q3, u3, v3, w3, x3⟩ := Source_Next_x hl w2 x2 (k := 4) (by decide) (by decide)
    obtain ⟨ps, p4, q4, w4, x4⟩ := make_points_x hl w3 x3 (IntKind.i64.wrap (s3 * 32768), 0, 0)
    rw [g5, g1, bif_dpos (by omega), q1, Option.bind_some, wn (by omega)]
    cases decide (s1 < 4)
    · exact ⟨_, rfl, rfl, w1, x1, by simp only; omega, rfl⟩
    · simp only [cond_true]
      rw [q2, Option.bind_some, q3, Option.bind_some, q4, Option.bind_some]
      simp only
      rw [grd_p ⟨by simp; omega, by simp [maxLen_eq]; omega⟩, andC_out]
      exact ⟨_, rfl, rfl, w4, x4, by simp; omega, rfl⟩
  · obtain ⟨g1, g2, g3, g4, g5⟩ := hy
    rw [g5, bif_dneg (by omega)]; exact ⟨_, rfl, g1, g2, g3, by simp only; omega⟩
  · obtain ⟨g1, g2, g3, g4⟩ := hz
    obtain ⟨s1, p1, q1, u1, v1, w1, x1⟩ := Source_Next_x hl g2 g3 (k := 3) (by decide) (by decide)
    rw [g1, q1, Option.bind_some]
    simp only
    rw [w64 (x := 1 + s1) (by omega) (by omega)]
    obtain ⟨M, hM⟩ : ∃ M : Nat, 1 + s1 = (M : Int) := ⟨(1 + s1).toNat, by omega⟩
    rw [hM]
    refine loop_cnt (g := fun b => b) M (by omega) (fun j (y : List Int × Int × List S_Shape × Int) => y.1 = l ∧ 0 ≤ y.2.1 ∧ y.2.1 ≤ (l.length : Int) ∧ y.2.2.1.length ≤ 3 + j ∧ y.2.2.2 = (M : Int) - (j : Int))
      (fun (w : List Int × Int × List S_Shape) => w.1 = l ∧ 0 ≤ w.2.1 ∧ w.2.1 ≤ (l.length : Int)) ⟨rfl, w1, x1, by simp only; omega, by simp⟩ (fun j y hj hy => ?_) (fun y hy => ?_) (fun w hw => ?_)
    · obtain ⟨g1, g2, g3, g4, g5⟩ := hy
      obtain ⟨t1, p1, q1, u1, v1, w1, x1⟩ := Source_Signed_x hl g2 g3 (k := 9) (by decide) (by decide)
      obtain ⟨t2, p2, q2, u2, v2, w2, x2⟩ := Source_Signed_x hl w1 x1 (k := 9) (by decide) (by decide)
      obtain ⟨t3, p3, q3, u3, v3, w3, x3⟩ := Source_Signed_x hl w2 x2 (k := 2) (by decide) (by decide)
      obtain ⟨t4, p4, q4, u4, v4, w4, x4⟩ := Source_Next_x hl w3 x3 (k := 4) (by decide) (by decide)
      obtain ⟨ps, p5, q5, w5, x5⟩ := make_points_x hl w4 x4 (IntKind.i64.wrap (t1 * 32768), IntKind.i64.wrap (t2 * 32768), IntKind.i64.wrap (t3 * 32768))
      rw [g5, g1, bif_dpos (by omega), q1, Option.bind_some, q2, Option.bind_some, q3, Option.bind_some, q4, Option.bind_some, q5, Option.bind_some]
      simp only
      rw [grd_p ⟨by simp; omega, by simp [maxLen_eq]; omega⟩, w64 (x := (M : Int) - (j : Int) - 1) (by omega) (by omega)]
      exact ⟨_, rfl, rfl, w5, x5, by simp; omega, by simp only; omega⟩
    · obtain ⟨g1, g2, g3, g4, g5⟩ := hy
      rw [g5, bif_dneg (by omega)]; exact ⟨_, rfl, g1, g2, g3⟩
    · obtain ⟨g1, g2, g3⟩ := hw
      obtain ⟨s1, p1, q1, u1, v1, w1, x1⟩ := Source_Next_x hl g2 g3 (k := 5) (by decide) (by decide)
      obtain ⟨s2, p2, q2, u2, v2, w2, x2⟩ := Source_Next_x hl w1 x1 (k := (r.Joints.length : Int)) (by omega) (by omega)
      rw [g1, q1, Option.bind_some]
      cases s1 == 1
      · exact ⟨_, rfl, hr⟩
      · simp only [cond_true]
        rw [q2, Option.bind_some]
        simp only
        rw [grd_p ⟨by simp, by simp [maxLen_eq]⟩]
        exact ⟨_, rfl, hr⟩
theorem make_Config_x (r : S_Robot) (l : List Int) (hl : l.length < 4294967296) (h3 : r.Joints.length ≤ 3) (hj : ∀ j ∈ r.Joints, JB j) : ∃ c : List Int, (make_Config_C r l).o = some c ∧ c.length = r.Joints.length := by
  have e0 : (make_Config_C r l).o = (make_Config_T r l).run NN := rfl
  rw [e0]
  simp only [make_Config_T, T.run]
  have ef : (make_From_C l).o = some (l, 0) := rfl
  rw [ef, Option.bind_some]
  simp only
  refine loop_cnt (g := fun b => b) r.Joints.length (by omega) (fun j (y : List Int × Int × List Int × Int) => y.1 = l ∧ 0 ≤ y.2.1 ∧ y.2.1 ≤ (l.length : Int) ∧ y.2.2.1.length = j ∧ y.2.2.2 = (j : Int))
    (fun (w : List Int) => w.length = r.Joints.length) ⟨rfl, by simp, by simp, by simp [nl], rfl⟩ (fun j y hj1 hy => ?_) (fun y hy => ?_) (fun z hz => ⟨_, rfl, hz⟩)
  · obtain ⟨g1, g2, g3, g4, g5⟩ := hy
    have jb := hj _ (getD_mem hj1)
    unfold JB at jb
    obtain ⟨s1, p1, q1, u1, v1, w1, x1⟩ := Source_Next_x hl g2 g3 (k := 6) (by decide) (by decide)
    rw [g5, g1, bif_dpos (by omega), grd_p ⟨by omega, by omega⟩, grd_p ⟨by omega, by omega⟩, q1, Option.bind_some, wn (by omega), Int.toNat_natCast]
    cases s1 == 0
    · cases s1 == 1
      · simp only [cond_false]
        rw [w64 (x := (r.Joints.getD j default).Hi - (r.Joints.getD j default).Lo) (by omega) (by omega), w64 (x := (r.Joints.getD j default).Hi - (r.Joints.getD j default).Lo + 1) (by omega) (by omega)]
        obtain ⟨s2, p2, q2, u2, v2, w2, x2⟩ := Source_Next_x hl w1 x1 (k := (r.Joints.getD j default).Hi - (r.Joints.getD j default).Lo + 1) (by omega) (by omega)
        rw [q2, Option.bind_some]
        simp only
        rw [grd_p ⟨by simp; omega, by simp [maxLen_eq]; omega⟩, andC_out]
        exact ⟨_, rfl, rfl, w2, x2, by simp; omega, rfl⟩
      · simp only [cond_false, cond_true]
        rw [grd_p ⟨by simp; omega, by simp [maxLen_eq]; omega⟩, andC_out]
        exact ⟨_, rfl, rfl, w1, x1, by simp; omega, rfl⟩
    · simp only [cond_true]
      rw [grd_p ⟨by simp; omega, by simp [maxLen_eq]; omega⟩, andC_out]
      exact ⟨_, rfl, rfl, w1, x1, by simp; omega, rfl⟩
  · obtain ⟨g1, g2, g3, g4, g5⟩ := hy
    rw [g5, bif_dneg (by omega)]; exact ⟨_, rfl, g4⟩
/-- What a made motion is like. -/
def MO (y : S_Scene × List Int × List Int × Int) : Prop := y.2.1.length ≤ 3 ∧ y.2.2.1.length ≤ 3
end Go.Abs

/-
  Made motions and changed pieces.
-/
namespace Go.Abs
theorem law20_motion_x (l m n : List Int) (d : Int) (hl : l.length < 4294967296) (hm : m.length < 4294967296) (hn : n.length < 4294967296) : ∃ y, (law20_motion_C l m n d).o = some y ∧ MO y := by
  have e0 : (law20_motion_C l m n d).o = (law20_motion_T l m n d).run NN := rfl
  rw [e0]
  obtain ⟨s, es, s1, s2, s3⟩ := make_Scene_x l hl
  obtain ⟨p, ep, lp⟩ := make_Config_x s.Robot m hm s2 s3
  obtain ⟨q, eq, lq⟩ := make_Config_x s.Robot n hn s2 s3
  simp only [law20_motion_T, T.run]
  rw [es, Option.bind_some, ep, Option.bind_some, eq, Option.bind_some]
  have fin : ∀ q' : List Int, q'.length ≤ 3 → ∃ y, ((make_Round_C (d.fdiv (2 ^ min (Int.toNat 4) 64)) 6).o.bind fun y70 => some (s, p, q', y70)) = some y ∧ MO y := by
    intro q' hq'
    rw [make_Round_e (by decide) (by decide), Option.bind_some]
    exact ⟨_, rfl, by simp only; omega, hq'⟩
  cases IntKind.i64.wrap (((BitVec.ofInt 64 d &&& BitVec.ofInt 64 8).toNat : Nat) : Int) == 8
  · exact fin q (by omega)
  · simp only [cond_true]
    have hq : ∃ q' : List Int, (andK (iter (fun (x64 : List Int × Int) => (bif decide (x64.2 < ((x64.1.length : Nat) : Int)) then grd (0 ≤ x64.2 ∧ x64.2 < ((p.length : Nat) : Int)) (grd ((x64.2).toNat < p.length) (grd (0 ≤ x64.2 ∧ x64.2 < ((x64.1.length : Nat) : Int)) (grd ((x64.2).toNat < x64.1.length) (grd (0 ≤ x64.2 ∧ x64.2 < ((p.length : Nat) : Int)) (grd ((x64.2).toNat < p.length)
        (grd (0 ≤ x64.2 ∧ x64.2 < ((x64.1.length : Nat) : Int)) (grd ((x64.2).toNat < x64.1.length ∧ 0 ≤ (x64.2).toNat) (some (.next ((x64.1.set ((x64.2).toNat) (IntKind.i64.wrap ((p.getD ((x64.2).toNat) default) + IntKind.i64.wrap ((IntKind.i64.wrap ((x64.1.getD ((x64.2).toNat) default) - (p.getD ((x64.2).toNat) default))).tdiv 16)))), (IntKind.i64.wrap (x64.2 + 1)))))))))))) else some (.out x64.1) : Option (Step3 (List Int × Int) (List Int) (Step3 Unit (List Int) (S_Scene × List Int × List Int × Int))))) NN (q, 0)) fun y67 => some (.out y67)) = some (.out q') ∧ q'.length ≤ 3 := by
      refine loop_cnt (g := fun b => Step3.out b) q.length (by omega) (fun j (y : List Int × Int) => y.1.length = q.length ∧ y.2 = (j : Int)) (fun (w : List Int) => w.length ≤ 3) ⟨rfl, rfl⟩ (fun j y hj hy => ?_) (fun y hy => ?_) (fun z hz => ⟨_, rfl, hz⟩)
      · obtain ⟨g1, g2⟩ := hy
        rw [g2, bif_dpos (by omega), grd_p ⟨by omega, by omega⟩, Int.toNat_natCast, grd_p (by omega), grd_p ⟨by omega, by omega⟩, grd_p (by omega), grd_p ⟨by omega, by omega⟩, grd_p (by omega), grd_p ⟨by omega, by omega⟩, grd_p ⟨by omega, by omega⟩, wn (by omega)]
        exact ⟨_, rfl, by simp only [List.length_set]; exact g1, rfl⟩
      · obtain ⟨g1, g2⟩ := hy
        rw [g2, bif_dneg (by omega)]; exact ⟨_, rfl, by omega⟩
    obtain ⟨q', e1, e2⟩ := hq
    rw [e1, andC_out]
    exact fin q' e2

theorem make_Normal_x (a b c : Int) : ∃ y, (make_Normal_C a b c).o = some y := by
  have e0 : (make_Normal_C a b c).o = (make_Normal_T a b c).run NN := rfl
  rw [e0]
  simp only [make_Normal_T, T.run, make_Round_e (show (0 : Int) < 41 by decide) (by decide), make_Round_e (show (0 : Int) < 32769 by decide) (by decide), Option.bind_some]
  have fin : ∀ z : V3, ∃ y, (andC (some (.out z) : Option (Step3 Unit V3 V3)) fun y13 => (ref10_Usable_C (y13.1, y13.2.1, y13.2.2)).o.bind fun y20 => bif !y20 then some (1, 0, 0) else some (y13.1, y13.2.1, y13.2.2)) = some y := by
    intro z
    rw [andC_out, ref10_Usable_e, Option.bind_some]
    cases usableV (z.1, z.2.1, z.2.2) <;> exact ⟨_, rfl⟩
  cases IntKind.i64.wrap (((BitVec.ofInt 64 a &&& BitVec.ofInt 64 8).toNat : Nat) : Int) == 8
  · exact fin _
  · exact fin _
/-- Pieces that are not too many, with not too many normals. -/
def PB (n : Nat) (l : List S_Piece) : Prop := l.length ≤ n ∧ ∀ x ∈ l, x.Normals.length ≤ 1048576
theorem PB.get {n : Nat} {l : List S_Piece} (h : PB n l) {k : Nat} (hk : k < l.length) : (l.getD k default).Normals.length ≤ 1048576 := h.2 _ (getD_mem hk)
theorem PB.set {n : Nat} {l : List S_Piece} (h : PB n l) {k : Nat} {x : S_Piece} (hx : x.Normals.length ≤ 1048576) : PB n (l.set k x) := by
  refine ⟨by simpa using h.1, fun y hy => ?_⟩
  rcases List.mem_or_eq_of_mem_set hy with hy | rfl
  · exact h.2 y hy
  · exact hx
theorem PB.app {n m : Nat} {l k : List S_Piece} (h : PB n l) (h' : PB m k) : PB (n + m) (l ++ k) := by
  refine ⟨by have := h.1; have := h'.1; simp only [List.length_append]; omega, fun y hy => ?_⟩
  rcases List.mem_append.1 hy with hy | hy
  · exact h.2 y hy
  · exact h'.2 y hy
theorem PB.take {n : Nat} {l : List S_Piece} (h : PB n l) (k : Nat) : PB k (l.take k) := ⟨by simp; omega, fun y hy => h.2 y (List.mem_of_mem_take hy)⟩
theorem PB.sub {n : Nat} {l : List S_Piece} (h : PB n l) (i k : Nat) : PB k ((l.drop i).take k) := ⟨by simp; omega, fun y hy => h.2 y (List.mem_of_mem_drop (List.mem_of_mem_take hy))⟩
theorem PB.mono {n m : Nat} {l : List S_Piece} (h : PB n l) (hm : n ≤ m) : PB m l := ⟨Nat.le_trans h.1 hm, h.2⟩
theorem PB.one {x : S_Piece} (hx : x.Normals.length ≤ 1048576) : PB 1 [x] := ⟨by simp, fun y hy => by simp at hy; subst hy; exact hx⟩
set_option maxHeartbeats 4000000 in
theorem law20_pieces_x {n : Nat} (l : List S_Piece) (hl : PB n l) (hn : n ≤ 1048576) (a b c : Int) : ∃ y, (law20_pieces_C l a b c).o = some y ∧ PB (n + 1) y := by
  have e0 : (law20_pieces_C l a b c).o = (law20_pieces_T l a b c).run NN := rfl
  have hle := hl.1
  rw [e0]
  simp only [law20_pieces_T, T.run]
  rw [grd_p ⟨by omega, by rw [maxLen_eq]; omega⟩]
  by_cases h0 : l.length = 0
  · rw [bif_eq (by omega), make_Round_e (by decide) (by decide), Option.bind_some, make_Round_e (by decide) (by decide), Option.bind_some]
    exact ⟨_, rfl, (PB.one (by simp [nl])).mono (by omega)⟩
  · rw [bif_ne (by omega), make_Round_e (by omega) (by omega), Option.bind_some]
    obtain ⟨K, hK, hlt⟩ : ∃ K : Nat, b % (l.length : Int) = (K : Int) ∧ K < l.length := ⟨(b % (l.length : Int)).toNat, by have := Int.emod_nonneg b (show (l.length : Int) ≠ 0 by omega); omega, by have := Int.emod_nonneg b (show (l.length : Int) ≠ 0 by omega); have := Int.emod_lt_of_pos b (show (0 : Int) < l.length by omega); omega⟩
    rw [hK, make_Round_e (by decide) (by decide), Option.bind_some]
    have hg := hl.get hlt
    have wK : IntKind.i64.wrap ((K : Int) + 1) = ((K + 1 : Nat) : Int) := by rw [w64 (by omega) (by omega)]; omega
    simp only [Int.toNat_natCast, wK]
    have fin : ∀ y : List S_Piece, PB (n + 1) y → ∃ z, (andC (some (.out y) : Option (Step3 Unit (List S_Piece) (List S_Piece))) fun y21 => some y21) = some z ∧ PB (n + 1) z := fun y hy => ⟨y, rfl, hy⟩
    cases a % 7 == 0
    rotate_left
    · simp only [cond_true]
      rw [grd_p ⟨by omega, by omega⟩, grd_p hlt, make_Round_e (by decide) (by decide), Option.bind_some, grd_p ⟨by omega, by omega⟩, grd_p ⟨hlt, by omega⟩]
      exact fin _ ((hl.set (by simpa using hg)).mono (by omega))
    simp only [cond_false]
    cases a % 7 == 1
    rotate_left
    · simp only [cond_true]
      rw [grd_p ⟨by omega, by omega⟩, grd_p hlt, make_Round_e (by decide) (by decide), Option.bind_some, grd_p ⟨by omega, by omega⟩, grd_p ⟨hlt, by omega⟩]
      exact fin _ ((hl.set (by simpa using hg)).mono (by omega))
    simp only [cond_false]
    cases a % 7 == 2
    rotate_left
    · simp only [cond_true]
      rw [grd_p ⟨by omega, by omega, by omega⟩, grd_p ⟨by omega, by omega, by omega⟩, grd_p ⟨by omega, by rw [maxLen_eq]; omega, by omega, by omega⟩]
      exact fin _ (((hl.take _).app (hl.sub _ _)).mono (by omega))
    simp only [cond_false]
    cases a % 7 == 3
    rotate_left
    · simp only [cond_true]
      rw [grd_p ⟨by omega, by omega⟩, grd_p hlt, grd_p ⟨by simp only [List.length_cons, List.length_nil]; omega, by simp only [List.length_cons, List.length_nil, maxLen_eq]; omega⟩]
      exact fin _ (hl.app (PB.one hg))
    simp only [cond_false]
    cases a % 7 == 4
    rotate_left
    · simp only [cond_true]
      rw [grd_p ⟨by omega, by omega⟩, grd_p hlt, grd_p ⟨by omega, by rw [maxLen_eq]; omega⟩, grd_p ⟨by omega, by omega⟩, grd_p hlt, grd_p ⟨by omega, by omega⟩, grd_p trivial]
      by_cases hN : (l.getD K default).Normals.length = 0
      · rw [bif_dneg (by omega)]
        exact fin _ ((hl.set hg).mono (by omega))
      · rw [bif_dpos (by omega), grd_p ⟨by omega, by omega⟩, grd_p trivial, make_Round_e (by omega) (by omega), Option.bind_some]
        obtain ⟨v, hv⟩ := make_Normal_x c b a
        have r0 := Int.emod_nonneg c (show ((l.getD K default).Normals.length : Int) ≠ 0 by omega)
        have r1 := Int.emod_lt_of_pos c (show (0 : Int) < ((l.getD K default).Normals.length : Int) by omega)
        rw [hv, Option.bind_some, grd_p ⟨r0, r1⟩, grd_p ⟨by omega, by omega⟩]
        exact fin _ ((hl.set (by simpa using hg)).mono (by omega))
    simp only [cond_false]
    cases a % 7 == 5
    rotate_left
    · simp only [cond_true]
      rw [make_Round_e (by decide) (by decide), Option.bind_some]
      have r0 := Int.emod_nonneg c (show (3 : Int) ≠ 0 by decide)
      have r1 := Int.emod_lt_of_pos c (show (0 : Int) < 3 by decide)
      rw [grd_p ⟨r0, by simp only [List.length_cons, List.length_nil]; omega⟩, grd_p (by simp only [List.length_cons, List.length_nil]; omega), grd_p ⟨by omega, by omega⟩, grd_p ⟨hlt, by omega⟩]
      exact fin _ ((hl.set (by simpa using hg)).mono (by omega))
    simp only [cond_false]
    have z0 : (0 : Int).toNat = 0 := rfl
    rw [z0, grd_p ⟨by omega, by omega⟩, grd_p hlt, grd_p ⟨by omega, by omega, by omega⟩, grd_p ⟨by omega, by rw [maxLen_eq]; omega, by omega⟩]
    rw [grd_p ⟨by simp only [List.length_cons, List.length_nil, List.length_take, List.length_drop]; omega, by simp only [List.length_cons, List.length_nil, List.length_take, List.length_drop, maxLen_eq]; omega⟩]
    rw [grd_p ⟨by omega, by omega, by omega⟩, grd_p ⟨by simp only [List.length_cons, List.length_nil, List.length_take, List.length_drop, List.length_append]; omega, by simp only [List.length_cons, List.length_nil, List.length_take, List.length_drop, List.length_append, maxLen_eq]; omega, by omega⟩]
    refine fin _ ((((hl.sub _ _).app ⟨?_, ?_⟩).app (hl.sub _ _)).mono (m := n + 1) (n := (K - 0) + 2 + (l.length - (K + 1))) (by omega))
    · simp
    · intro y hy
      simp only [List.mem_cons, List.not_mem_nil, or_false] at hy
      rcases hy with rfl | rfl <;> exact hg
theorem awake20 : law20_awake_C.o = some true := by kernel_rfl
end Go.Abs
