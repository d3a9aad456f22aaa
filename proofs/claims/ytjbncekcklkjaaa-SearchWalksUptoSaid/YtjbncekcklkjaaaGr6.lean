/-
  The search of the program: what it computes.
-/
import Derived.Test.YtjbncekcklkjaaaGr5
namespace Go.Abs

structure Lks (E : Int → Int → Int → Prop) (L : List (List S_search_link)) : Prop where
  graph : Graph E L.length 1099511627776
  mem : ∀ v w c : Int, 0 ≤ v → v < (L.length : Int) → ((⟨w, c⟩ : S_search_link) ∈ L.getD v.toNat default ↔ E v w c)
  few : ∀ i, (L.getD i default).length ≤ 200
  len : L.length ≤ 100
  sorted : ∀ i, i < L.length → (L.getD i default).Pairwise (fun a b => a.to < b.to)

/-- What the search knows at its end. -/
def Found (E : Int → Int → Int → Prop) (t fr : Int) (L : List (List S_search_link)) (R : List S_search_rank) : Prop :=
  R.length = L.length ∧ (∀ v : Int, 0 ≤ v → v < (L.length : Int) → (rkv R v).points = 0 ∨ (1 ≤ (rkv R v).points ∧ Walk E t v (rkv R v).cost ((rkv R v).points - 1))) ∧
  (∀ v : Int, 0 ≤ v → v < (L.length : Int) → (rkv R v).points ≤ L.length + 1) ∧
  ∀ c k, Best E t fr c k → rkv R fr = ⟨c, k + 1⟩ ∧ ∀ w c' k', Best E t w c' k' → (c' < c ∨ c' = c ∧ k' < k) → rkv R w = ⟨c', k' + 1⟩

variable {E : Int → Int → Int → Prop} {t fr : Int} {L : List (List S_search_link)}

theorem DInv.drop {R : List S_search_rank} {q q1 : List S_search_entry} {S : Nat → Bool} {V : Int → Int → Int → Prop} {x : S_search_entry} (h : DInv E t fr L R q S V) (h1 : ∀ y ∈ q1, y ∈ q) (h2 : ∀ y ∈ q, y = x ∨ y ∈ q1) (hh : Heap q1)
    (hx : rkv R x.point ≠ x.rank) : DInv E t fr L R q1 S V :=
  ⟨h.len, h.walk, h.few, h.src, h.best, h.relaxed, fun v h0 hl hp hs => (h2 _ (h.queued v h0 hl hp hs)).resolve_left (fun e => hx (by rw [← e])), fun y hy => h.entry y (h1 y hy), fun v h0 hl hs y hy => h.low v h0 hl hs y (h1 y hy), hh, h.notFrom⟩

theorem DInv.settle (g : Graph E L.length 1099511627776) (ht : 0 ≤ t ∧ t < (L.length : Int)) (hf : 0 ≤ fr) {R : List S_search_rank} {q q1 : List S_search_entry} {S : Nat → Bool} {x : S_search_entry} (h : DInv E t fr L R q S E) (hxq : x ∈ q) (h1 : ∀ y ∈ q1, y ∈ q) (h2 : ∀ y ∈ q, y = x ∨ y ∈ q1) (hh : Heap q1)
    (hx : rkv R x.point = x.rank) (hmin : ∀ y ∈ q, ¬ ltR y.rank x.rank) (hxf : x.point ≠ fr) :
    DInv E t fr L R q1 (fun i => i == x.point.toNat || S i) (fun a b d => S a.toNat = true ∧ E a b d) := by
  obtain ⟨e1, e2, e3, e4, e5⟩ := h.entry x hxq
  have hb := h.first g ht ⟨e1, e2⟩ hx e3 hmin
  have hS : ∀ u : Int, 0 ≤ u → (u.toNat == x.point.toNat || S u.toNat) = true → u = x.point ∨ S u.toNat = true := by
    intro u hu h
    rw [Bool.or_eq_true] at h
    rcases h with h | h
    · left; have := eq_of_beq h; omega
    · exact .inr h
  refine ⟨h.len, h.walk, h.few, h.src, fun v h0 hl hs => ?_, fun v w c h0 hl hs hv => h.relaxed v w c h0 hl hv.1 hv.2, fun v h0 hl hp hs => ?_, fun y hy => h.entry y (h1 y hy), fun v h0 hl hs y hy => ?_, hh, ?_⟩
  · rcases hS v h0 hs with rfl | hs
    · rw [hx]; exact ⟨hb, e3⟩
    · exact h.best v h0 hl hs
  · simp only [Bool.or_eq_false_iff] at hs
    refine (h2 _ (h.queued v h0 hl hp hs.2)).resolve_left (fun e => ?_)
    have : v = x.point := by rw [← e]
    rw [this] at hs
    simp at hs
  · rcases hS v h0 hs with rfl | hs
    · rw [hx]
      have := hmin y (h1 y hy)
      unfold ltR at this
      simp only [leR]; omega
    · exact h.low v h0 hl hs y (h1 y hy)
  · simp only [Bool.or_eq_false_iff]
    refine ⟨?_, h.notFrom⟩
    rw [beq_eq_false_iff_ne]; omega

theorem cond_ok (N : Nat) {l : S_search_link} {R : List S_search_rank} {v : Int} (h1 : 0 ≤ l.to ∧ l.to < (R.length : Int)) (h2 : 0 ≤ v ∧ v < (R.length : Int)) (h3 : 1 ≤ (rkv R v).points ∧ (rkv R v).points ≤ 1000000) (h4 : 0 ≤ l.cost ∧ l.cost ≤ 1099511627776)
    (h5 : (rkv R l.to).points = (rkv R v).points - 1 → 0 ≤ (rkv R l.to).cost ∧ (rkv R l.to).cost ≤ 4000000000000000000) :
    search_shortest_1_F N l R v = some (decide ((rkv R l.to).points = (rkv R v).points - 1 ∧ (rkv R l.to).cost + l.cost = (rkv R v).cost), R, v) := by
  unfold search_shortest_1_F
  rw [grd_pos (by omega), grd_pos (by omega), grd_pos (by omega), grd_pos (by omega), w64 (x := (rkv R v).points - 1) (by omega) (by omega)]
  by_cases hp : (rkv R l.to).points = (rkv R v).points - 1
  · have := h5 hp
    rw [bif_eq hp, grd_pos (by omega), grd_pos (by omega), w64 (x := (rkv R l.to).cost + l.cost) (by omega) (by omega)]
    by_cases hc : (rkv R l.to).cost + l.cost = (rkv R v).cost
    · rw [decide_eq_true ⟨hp, hc⟩, beq_iff_eq.2 hc]
    · rw [decide_eq_false (fun h => hc h.2), beq_eq_false_iff_ne.2 hc]
  · rw [bif_ne hp, decide_eq_false (fun h => hp h.1)]

theorem index_ok (N : Nat) {l : List S_search_link} {R : List S_search_rank} {v : Int} (M : S_search_link → Prop) [DecidablePred M] (hN : l.length + 1 < N) (hl : l.length < 1000000) (h : ∀ x ∈ l, search_shortest_1_F N x R v = some (decide (M x), R, v)) (hex : ∃ x ∈ l, M x) :
    ∃ i : Nat, slices_IndexFunc_search_link_search_link_F N l R v = some ((i : Int), R, v) ∧ i < l.length ∧ M (l.getD i default) ∧ ∀ j, j < i → ¬ M (l.getD j default) := by
  have key : ∃ r, slices_IndexFunc_search_link_search_link_F N l R v = some r ∧ ∃ i : Nat, r = ((i : Int), R, v) ∧ i < l.length ∧ M (l.getD i default) ∧ ∀ j, j < i → ¬ M (l.getD j default) := by
    unfold slices_IndexFunc_search_link_search_link_F
    refine loop_meas2 (fun k (x : List S_search_rank × Int × Int) => ∃ i : Nat, x = (R, v, (i : Int)) ∧ i + k = l.length ∧ ∀ j, j < i → ¬ M (l.getD j default)) (fun _ => False) l.length ⟨0, rfl, by omega, fun j hj => by omega⟩ (by omega) ?_ (fun _ h => h.elim)
    rintro k x ⟨i, rfl, hi, hpre⟩
    dsimp only
    by_cases hlt : i < l.length
    · rw [bif_dpos (by omega), grd_pos (by omega), Int.toNat_natCast, h _ (mem_getD.2 ⟨i, hlt, rfl⟩), Option.bind_some]
      dsimp only
      by_cases hM : M (l.getD i default)
      · rw [bif_dpos hM]
        exact .inr (.inr ⟨_, rfl, i, rfl, hlt, hM, hpre⟩)
      · rw [bif_dneg hM, w64n (by omega)]
        refine .inl ⟨_, k - 1, rfl, by omega, i + 1, rfl, by omega, fun j hj => ?_⟩
        by_cases hji : j = i
        · subst hji; exact hM
        · exact hpre j (by omega)
    · exfalso
      obtain ⟨x, hx, hMx⟩ := hex
      obtain ⟨j, hj, rfl⟩ := mem_getD.1 hx
      exact hpre j (by omega) hMx
  obtain ⟨r, h1, i, rfl, h2⟩ := key
  exact ⟨i, h1, h2⟩

theorem shortest_ok (N : Nat) (hk : Lks E L) (ht : 0 ≤ t ∧ t < (L.length : Int)) (hfr : 0 ≤ fr ∧ fr < (L.length : Int)) (hN : 100000 ≤ N) :
    ∃ r : S_Route × Bool, search_shortest_F N L fr t = some r ∧ ((r.2 = false ∧ r.1 = ⟨nl, 0⟩ ∧ ∀ c k, ¬ Walk E t fr c k) ∨ (r.2 = true ∧ ∃ c k l, Best E t fr c k ∧ Rt E t fr l ∧ r.1 = ⟨fr :: l, c⟩)) := by
  have g := hk.graph
  have hlen := hk.len
  unfold search_shortest_F
  rw [grd_pos (by omega), Int.toNat_natCast, grd_pos (by omega), grd_pos (by omega), andC_out]
  have hset : ∀ v : Int, 0 ≤ v → rkv ((List.replicate L.length (⟨0, 0⟩ : S_search_rank)).set t.toNat ⟨0, 1⟩) v = if v = t then ⟨0, 1⟩ else rkv (List.replicate L.length ⟨0, 0⟩) v := fun v hv => rkv_set ⟨ht.1, by simpa using ht.2⟩ hv
  have hrep : ∀ v : Int, rkv (List.replicate L.length (⟨0, 0⟩ : S_search_rank)) v = ⟨0, 0⟩ := fun v => by
    unfold rkv
    rw [List.getD_eq_getElem?_getD, List.getElem?_replicate]
    split <;> rfl
  have hl0 : ((List.replicate L.length (⟨0, 0⟩ : S_search_rank)).set t.toNat ⟨0, 1⟩).length = L.length := by simp
  generalize (List.replicate L.length (⟨0, 0⟩ : S_search_rank)).set t.toNat ⟨0, 1⟩ = R0 at hset hl0
  have hR0t : rkv R0 t = ⟨0, 1⟩ := by rw [hset t ht.1, if_pos rfl]
  rw [grd_pos (by omega), grd_pos (by omega)]
  rw [show R0.getD t.toNat default = ⟨0, 1⟩ from hR0t]
  refine loopX (g := fun r => r) (fun m (x : List S_search_rank × List S_search_entry) => ∃ S, DInv E t fr L x.1 x.2 S E ∧ x.2.length + rest (fun i => (L.getD i default).length) S L.length ≤ m ∧ m ≤ 20001)
    (Found E t fr L) (1 + rest (fun i => (L.getD i default).length) (fun _ => false) L.length) ⟨fun _ => false, ⟨hl0, fun v h0 h1 => ?_, fun v h0 h1 => ?_, hR0t, by simp, by simp, fun v h0 h1 hp _ => ?_, fun e he => ?_, by simp, ?_, rfl⟩, by simp, ?_⟩ ?_ ?_ ?_
  · rw [hset v h0]
    by_cases e : v = t
    · rw [if_pos e]; subst e; exact .inr ⟨by decide, .nil⟩
    · rw [if_neg e, hrep]; exact .inl rfl
  · rw [hset v h0]
    by_cases e : v = t
    · rw [if_pos e]; simp only; omega
    · rw [if_neg e, hrep]; simp only; omega
  · rw [hset v h0] at hp ⊢
    by_cases e : v = t
    · rw [if_pos e, e]; simp
    · rw [if_neg e, hrep] at hp; exact absurd hp (by decide)
  · simp only [List.mem_singleton] at he
    subst he
    refine ⟨ht.1, ht.2, Int.le_refl 1, ?_⟩
    simp only
    rw [hR0t]
    exact ⟨by decide, .inr ⟨rfl, Int.le_refl _⟩⟩
  · intro i h0 h1; simp at h1; omega
  · have := rest_le (S := fun _ => false) (fun i => hk.few i) L.length
    have : L.length * 200 ≤ 100 * 200 := Nat.mul_le_mul_right _ hlen
    omega
  · have := rest_le (S := fun _ => false) (fun i => hk.few i) L.length
    have : L.length * 200 ≤ 100 * 200 := Nat.mul_le_mul_right _ hlen
    omega
  · rintro m ⟨R, q⟩ ⟨S, hI, hm, hm2⟩
    simp only at hI hm
    dsimp only
    by_cases hq : 0 < q.length
    · rw [bif_dpos (by omega)]
      obtain ⟨q1, hpop, hheap1, hlen1, hsub, hsup, hmin⟩ := pop_ok N q (by omega) hq (by omega) hI.heap hI.pts
      have hxq : q.getD 0 default ∈ q := mem_getD.2 ⟨0, hq, rfl⟩
      rw [hpop, Option.bind_some]
      generalize q.getD 0 default = x at hsup hmin hxq
      dsimp only
      obtain ⟨e1, e2, e3, e4, e5⟩ := hI.entry x hxq
      have hRl := hI.len
      by_cases hxf : x.point = fr
      · right
        rw [bif_eq hxf]
        refine ⟨_, rfl, hI.len, hI.walk, hI.few, fun c k hb => ?_⟩
        rw [hxf] at e4 e5
        have hb0 := hb.1.ge g
        have hw := (hI.walk fr hfr.1 hfr.2).resolve_left (by omega)
        have h1 := hb.2 _ _ hw.2
        obtain ⟨k', rfl⟩ : ∃ k' : Nat, k = k' := ⟨k.toNat, by omega⟩
        obtain ⟨y, hy, hle⟩ := (hI.key g ht k' fr c hb).resolve_left (by rw [hI.notFrom]; simp)
        have h2 := hmin y hy
        unfold ltR at h2
        simp only [leR] at hle e5
        have a1 : (rkv R fr).cost = c := by omega
        have a2 : (rkv R fr).points = k' + 1 := by omega
        have a3 : x.rank.cost = c ∧ x.rank.points = k' + 1 := by omega
        refine ⟨?_, fun w c' k2 hb' hlt => hI.settled g ht hb' fun y' hy' => ?_⟩
        · generalize rkv R fr = z at a1 a2
          obtain ⟨z1, z2⟩ := z
          simp only at a1 a2
          rw [a1, a2]
        · have h3 := hmin y' hy'
          unfold ltR at h3 ⊢
          simp only
          omega
      · left
        rw [bif_ne hxf, grd_pos (by omega), grd_pos (by omega)]
        by_cases hst : x.rank.cost = (rkv R x.point).cost ∧ x.rank.points = (rkv R x.point).points
        · have hx : rkv R x.point = x.rank := by
            obtain ⟨s1, s2⟩ := hst
            generalize rkv R x.point = z at s1 s2
            generalize x.rank = z' at s1 s2
            obtain ⟨z1, z2⟩ := z
            obtain ⟨z3, z4⟩ := z'
            simp only at s1 s2
            rw [s1, s2]
          rw [bif_neg (by rw [beq_iff_eq.2 hst.1, beq_iff_eq.2 hst.2]; rfl), grd_pos (by omega)]
          have hb := hI.first g ht ⟨e1, e2⟩ hx e3 hmin
          have hb0 := hb.1.ge g
          have hbn := hb.few g ht
          have hbc := hb.1.le g
          have hbc2 : (x.rank.points - 1) * 1099511627776 ≤ 100 * 1099511627776 := Int.mul_le_mul_of_nonneg_right (by omega) (by omega)
          have hS0 := hI.settle g ht hfr.1 hxq hsub hsup hheap1 hx hmin hxf
          have hfew := hk.few x.point.toNat
          refine loopX (g := Step3.next) (fun k' (z : List S_search_rank × List S_search_entry × Int) => ∃ j : Nat, z.2.2 = (j : Int) ∧ j + k' = (L.getD x.point.toNat default).length ∧
              DInv E t fr L z.1 z.2.1 (fun i => i == x.point.toNat || S i) (fun a b d => (S a.toNat = true ∧ E a b d) ∨ (a = x.point ∧ ∃ i, i < j ∧ (L.getD x.point.toNat default).getD i default = ⟨b, d⟩)) ∧ rkv z.1 x.point = x.rank ∧
              (∀ u : Int, 0 ≤ u → u < (L.length : Int) → (u.toNat == x.point.toNat || S u.toNat) = true → leR (rkv z.1 u) x.rank) ∧ z.2.1.length ≤ q1.length + j ∧ (S x.point.toNat = true → z.2.1 = q1))
            (fun z => DInv E t fr L z.1 z.2 (fun i => i == x.point.toNat || S i) (fun a b d => (S a.toNat = true ∧ E a b d) ∨ (a = x.point ∧ ∃ i, i < (L.getD x.point.toNat default).length ∧ (L.getD x.point.toNat default).getD i default = ⟨b, d⟩)) ∧
              z.2.length ≤ q1.length + (L.getD x.point.toNat default).length ∧ (S x.point.toNat = true → z.2 = q1))
            (L.getD x.point.toNat default).length ⟨0, rfl, by omega, hS0.congr (fun a b d _ hv => ?_), hx, fun u h0 h1 hsu => ?_, by simp, fun _ => rfl⟩ (by omega) ?_ ?_
          · rcases hv with hv | ⟨_, i, hi, _⟩
            · exact hv
            · omega
          · rw [Bool.or_eq_true] at hsu
            rcases hsu with hsu | hsu
            · have : u = x.point := by have := eq_of_beq hsu; omega
              rw [this, hx]; exact .inr ⟨rfl, Int.le_refl _⟩
            · exact hI.low u h0 h1 hsu x hxq
          · rintro k' ⟨R', q', jj⟩ ⟨j, hj, hjk, hD, hrx, hlow, hql, hsame⟩
            simp only at hj hD hrx hlow hql hsame
            subst hj
            dsimp only
            by_cases hlt : j < (L.getD x.point.toNat default).length
            · left
              rw [bif_dpos (by omega), grd_pos (by omega), Int.toNat_natCast]
              have hmem : (L.getD x.point.toNat default).getD j default ∈ L.getD x.point.toNat default := mem_getD.2 ⟨j, hlt, rfl⟩
              have he := (hk.mem x.point _ _ e1 e2).1 (show (⟨((L.getD x.point.toNat default).getD j default).to, ((L.getD x.point.toNat default).getD j default).cost⟩ : S_search_link) ∈ _ from hmem)
              have hlj : (L.getD x.point.toNat default).getD j default = ⟨((L.getD x.point.toNat default).getD j default).to, ((L.getD x.point.toNat default).getD j default).cost⟩ := rfl
              generalize hw : ((L.getD x.point.toNat default).getD j default).to = w at he hlj
              generalize hc : ((L.getD x.point.toNat default).getD j default).cost = c at he hlj
              have hwl := g.lt _ _ _ he
              have hce := g.cost _ _ _ he
              have hDl := hD.len
              rw [grd_pos (by omega), grd_pos (by omega), w64 (x := x.rank.cost + c) (by omega) (by omega), w64 (x := x.rank.points + 1) (by omega) (by omega)]
              have hV : ∀ a b d, ((S a.toNat = true ∧ E a b d) ∨ (a = x.point ∧ ∃ i, i < j ∧ (L.getD x.point.toNat default).getD i default = ⟨b, d⟩)) → E a b d := by
                rintro a b d (h | ⟨rfl, i, hi, he'⟩)
                · exact h.2
                · exact (hk.mem x.point _ _ e1 e2).1 (he' ▸ mem_getD.2 ⟨i, by omega, rfl⟩)
              have hsv : (x.point.toNat == x.point.toNat || S x.point.toNat) = true := by simp
              by_cases hbet : (rkv R' w).points = 0 ∨ ltR ⟨x.rank.cost + c, x.rank.points + 1⟩ (rkv R' w)
              · rw [better_true N hbet, Option.bind_some, bif_pos (by rfl), grd_pos (by omega), grd_pos (by omega)]
                obtain ⟨q2, hpush, hh2, hl2, hm2'⟩ := push_ok N q' ⟨⟨x.rank.cost + c, x.rank.points + 1⟩, w⟩ (by omega) (by omega) hD.heap hD.pts (by simp only; omega)
                rw [hpush, Option.bind_some, andC_out, w64n (by omega)]
                obtain ⟨hD2, hwv, hsw⟩ := hD.relax g hV ht hsv he (by rw [hrx]; exact hbet) hh2 (by rw [hrx]; exact hm2') (by rw [hrx]; exact hlow)
                rw [hrx] at hD2
                have hset2 : ∀ u : Int, 0 ≤ u → rkv (R'.set w.toNat ⟨x.rank.cost + c, x.rank.points + 1⟩) u = if u = w then ⟨x.rank.cost + c, x.rank.points + 1⟩ else rkv R' u := fun u hu => rkv_set ⟨hwl.2.2.1, by omega⟩ hu
                refine ⟨_, rfl, k' - 1, by omega, j + 1, rfl, by omega, hD2.congr (fun a b d _ hv => ?_), ?_, fun u h0 h1 hsu => ?_, by dsimp only; omega, fun hsx => ?_⟩
                · rcases hv with hv | ⟨rfl, i, hi, he'⟩
                  · exact .inl (.inl hv)
                  · by_cases hij : i = j
                    · subst hij
                      rw [hlj] at he'
                      cases he'
                      exact .inr ⟨rfl, rfl, rfl⟩
                    · exact .inl (.inr ⟨rfl, i, by omega, he'⟩)
                · dsimp only; rw [hset2 _ e1, if_neg (fun e => hwv e.symm)]; exact hrx
                · dsimp only
                  rw [hset2 u h0, if_neg (fun e => by subst e; rw [hsw] at hsu; cases hsu)]
                  exact hlow u h0 h1 hsu
                · exfalso
                  have h3 := hD.relaxed x.point w c e1 e2 hsv (.inl ⟨hsx, he⟩)
                  rw [hrx] at h3
                  unfold ltR at hbet
                  simp only [leR] at h3 hbet
                  omega
              · rw [better_false N (fun h => hbet (.inl h)) (fun h => hbet (.inr h)), Option.bind_some, bif_neg (by rfl), andC_out, w64n (by omega)]
                have hD2 := hD.skip (v := x.point) (w := w) (c := c) (by rw [hrx]; exact hbet) ⟨hwl.2.2.1, hwl.2.2.2⟩
                refine ⟨_, rfl, k' - 1, by omega, j + 1, rfl, by omega, hD2.congr (fun a b d _ hv => ?_), hrx, hlow, by dsimp only; omega, hsame⟩
                rcases hv with hv | ⟨rfl, i, hi, he'⟩
                · exact .inl (.inl hv)
                · by_cases hij : i = j
                  · subst hij
                    rw [hlj] at he'
                    cases he'
                    exact .inr ⟨rfl, rfl, rfl⟩
                  · exact .inl (.inr ⟨rfl, i, by omega, he'⟩)
            · right
              rw [bif_dneg (by omega)]
              have hje : j = (L.getD x.point.toNat default).length := by omega
              subst hje
              exact ⟨_, rfl, hD, hql, hsame⟩
          · rintro ⟨R', q'⟩ ⟨hD, hql, hsame⟩
            simp only at hD hql hsame
            have hm' : q'.length + rest (fun i => (L.getD i default).length) (fun i => i == x.point.toNat || S i) L.length < m := by
              cases hsx : S x.point.toNat with
              | true =>
                have := hsame hsx
                subst this
                rw [rest_same (S := S) (fun i hi => by
                  by_cases hix : i = x.point.toNat
                  · subst hix; simp [hsx]
                  · have : (i == x.point.toNat) = false := by simpa using hix
                    simp [this])]
                omega
              | false =>
                have := rest_set (d := fun i => (L.getD i default).length) hsx (n := L.length) (by omega)
                omega
            refine ⟨_, rfl, _, hm', _, hD.congr (fun a b d hsa hv => ?_), Nat.le_refl _, by omega⟩
            rw [Bool.or_eq_true] at hsa
            rcases hsa with hsa | hsa
            · have hab := g.lt _ _ _ hv
              have : a = x.point := by have := eq_of_beq hsa; omega
              subst this
              obtain ⟨i, hi, he'⟩ := mem_getD.1 ((hk.mem x.point _ _ e1 e2).2 hv)
              exact .inr ⟨rfl, i, hi, he'⟩
            · exact .inl ⟨hsa, hv⟩
        · rw [bif_pos (by
            rw [Bool.not_eq_true', Bool.and_eq_false_iff]
            by_cases h1 : x.rank.cost = (rkv R x.point).cost
            · right
              rw [Bool.and_true]
              exact beq_eq_false_iff_ne.2 (fun h2 => hst ⟨h1, h2⟩)
            · exact .inl (beq_eq_false_iff_ne.2 h1))]
          refine ⟨_, rfl, q1.length + rest (fun i => (L.getD i default).length) S L.length, by omega, S, hI.drop hsub hsup hheap1 (fun e => hst ?_), Nat.le_refl _, by omega⟩
          rw [e]; exact ⟨rfl, rfl⟩
    · right
      rw [bif_dneg (by omega)]
      have hnil : q = [] := List.eq_nil_of_length_eq_zero (by omega)
      subst hnil
      exact ⟨_, rfl, hI.len, hI.walk, hI.few, fun c k hb => ⟨hI.settled g ht hb (by simp), fun w c' k' hb' _ => hI.settled g ht hb' (by simp)⟩⟩
  · rintro R ⟨hRl, hwalk, hfew, hfound⟩
    rw [grd_pos (by omega), grd_pos (by omega)]
    by_cases hp : (rkv R fr).points = 0
    · rw [bif_eq hp]
      refine ⟨_, rfl, .inl ⟨rfl, rfl, fun c k hw => ?_⟩⟩
      obtain ⟨c', k', hb⟩ := Best.exists g hw
      have h0 := hb.1.ge g
      have := (hfound _ _ hb).1
      rw [this] at hp
      simp only at hp
      omega
    · rw [bif_ne hp, grd_pos (by omega), grd_pos (by omega)]
      obtain ⟨c, k, hb⟩ := Best.exists g ((hwalk fr hfr.1 hfr.2).resolve_left hp).2
      have hb0 := hb.1.ge g
      have hbn := hb.few g ht
      obtain ⟨hf1, hf2⟩ := hfound c k hb
      rw [show R.getD fr.toNat default = ⟨c, k + 1⟩ from hf1]
      refine loopX (g := fun r => r) (fun m (z : List S_search_rank × List Int × Int) => ∃ c', z.1 = R ∧ Best E t z.2.2 c' (m : Int) ∧ (c' < c ∨ c' = c ∧ (m : Int) ≤ k) ∧ rkv R z.2.2 = ⟨c', m + 1⟩ ∧
          ∃ pre, z.2.1 = fr :: pre ∧ (pre.length + m : Int) ≤ k ∧ ∀ l, Rt E t z.2.2 l → Rt E t fr (pre ++ l))
        (fun acc => ∃ l, acc = fr :: l ∧ Rt E t fr l) k.toNat ⟨c, rfl, ?_, ?_, ?_, [], rfl, by simp; omega, fun l h => h⟩ (by omega) ?_ ?_
      · dsimp only; rw [Int.toNat_of_nonneg hb0.2]; exact hb
      · right; exact ⟨rfl, by omega⟩
      · dsimp only; rw [Int.toNat_of_nonneg hb0.2]; exact hf1
      · rintro m ⟨R', acc, v⟩ ⟨c', hR', hbv, hle, hrv, pre, hacc, hpl, hrt⟩
        simp only at hR' hbv hle hrv hacc hpl hrt
        subst hR'
        subst hacc
        dsimp only
        by_cases hvt : v = t
        · right
          rw [bif_nne hvt]
          refine ⟨_, rfl, pre, rfl, ?_⟩
          have := hrt [] (by rw [hvt]; exact .nil)
          simpa using this
        · left
          have hvl := hbv.1.lt g ht
          have hbv0 := hbv.1.ge g
          have hm1 := hbv.ne g hvt
          have hmn := hbv.few g ht
          rw [bif_neq hvt, grd_pos (by omega)]
          -- which link
          have hE : ∀ x ∈ L.getD v.toNat default, E v x.to x.cost := fun x hx => (hk.mem v _ _ hvl.1 hvl.2).1 hx
          have hM : ∀ x : S_search_link, E v x.to x.cost → (((rkv R' x.to).points = (rkv R' v).points - 1 ∧ (rkv R' x.to).cost + x.cost = (rkv R' v).cost) ↔ Best E t x.to (c' - x.cost) (m - 1)) := by
            intro x hx
            have hxl := g.lt _ _ _ hx
            have hxc := g.cost _ _ _ hx
            rw [hrv]
            simp only
            constructor
            · rintro ⟨h1, h2⟩
              have hw := ((hwalk x.to hxl.2.2.1 hxl.2.2.2).resolve_left (by omega)).2
              have a1 : (rkv R' x.to).cost = c' - x.cost := by omega
              have a2 : (rkv R' x.to).points - 1 = (m : Int) - 1 := by omega
              rw [a1, a2] at hw
              refine ⟨hw, fun c2 k2 hw2 => ?_⟩
              have := hbv.2 _ _ (Walk.cons hx hw2)
              omega
            · intro hbx
              have := hf2 _ _ _ hbx (by omega)
              rw [this]
              simp only
              omega
          have hcond : ∀ x ∈ L.getD v.toNat default, search_shortest_1_F N x R' v = some (decide ((rkv R' x.to).points = (rkv R' v).points - 1 ∧ (rkv R' x.to).cost + x.cost = (rkv R' v).cost), R', v) := by
            intro x hx
            have hxE := hE x hx
            have hxl := g.lt _ _ _ hxE
            have hxc := g.cost _ _ _ hxE
            refine cond_ok N ⟨hxl.2.2.1, by omega⟩ ⟨hvl.1, by omega⟩ (by rw [hrv]; simp only; omega) hxc (fun hpp => ?_)
            rw [hrv] at hpp
            simp only at hpp
            have hw := ((hwalk x.to hxl.2.2.1 hxl.2.2.2).resolve_left (by omega)).2
            have h1 := hw.ge g
            have h2 := hw.le g
            have : ((rkv R' x.to).points - 1) * 1099511627776 ≤ 100 * 1099511627776 := Int.mul_le_mul_of_nonneg_right (by omega) (by omega)
            omega
          obtain ⟨u0, e0, he0, hbu0⟩ := hbv.step (by omega)
          have hfew2 := hk.few v.toNat
          obtain ⟨i, hidx, hil, hMi, hno⟩ := index_ok N (fun x => (rkv R' x.to).points = (rkv R' v).points - 1 ∧ (rkv R' x.to).cost + x.cost = (rkv R' v).cost) (by omega) (by omega) hcond ⟨⟨u0, e0⟩, (hk.mem v _ _ hvl.1 hvl.2).2 he0, (hM ⟨u0, e0⟩ he0).2 hbu0⟩
          rw [hidx, Option.bind_some]
          dsimp only
          rw [grd_pos (by omega), grd_pos (by omega), grd_pos (by rw [maxLen_eq]; simp only [List.length_cons]; omega), Int.toNat_natCast]
          have hmem : (L.getD v.toNat default).getD i default ∈ L.getD v.toNat default := mem_getD.2 ⟨i, hil, rfl⟩
          have hxE := hE _ hmem
          have hbi := (hM _ hxE).1 hMi
          have hsort := hk.sorted v.toNat (by omega)
          generalize hx : (L.getD v.toNat default).getD i default = x at hmem hxE hbi
          have hxc := g.cost _ _ _ hxE
          have hb1 := hbi.1.ge g
          have hnext : NextV E t v x.to := by
            refine ⟨⟨c', m, x.cost, hbv, hxE, hbi⟩, ?_⟩
            rintro w' ⟨c2, k2, e2, hbv2, he2, hbw2⟩
            obtain ⟨rfl, rfl⟩ := hbv.unique hbv2
            have hmem2 := (hk.mem v _ _ hvl.1 hvl.2).2 he2
            obtain ⟨j, hj, hje⟩ := mem_getD.1 hmem2
            have hMj := (hM ⟨w', e2⟩ he2).2 hbw2
            by_cases hji : j < i
            · exact absurd (by rw [hje]; exact hMj) (hno j hji)
            · by_cases hij : i = j
              · subst hij; rw [hx] at hje; rw [hje]; exact Int.le_refl _
              · have := (List.pairwise_iff_getElem.1 hsort) i j hil hj (by omega)
                have a1 : (L.getD v.toNat default)[i] = x := by rw [← hx, List.getD_eq_getElem?_getD (l := L.getD v.toNat default), List.getElem?_eq_getElem hil]; rfl
                have a2 : (L.getD v.toNat default)[j] = ⟨w', e2⟩ := by rw [← hje, List.getD_eq_getElem?_getD (l := L.getD v.toNat default), List.getElem?_eq_getElem hj]; rfl
                rw [a1, a2] at this
                simp only at this
                omega
          have hmm : ((m - 1 : Nat) : Int) = (m : Int) - 1 := by omega
          refine ⟨_, rfl, m - 1, by omega, c' - x.cost, rfl, by dsimp only; rw [hmm]; exact hbi, by omega, ?_, pre ++ [x.to], by simp, by simp; omega, fun l hl => ?_⟩
          · dsimp only
            have := hf2 _ _ _ hbi (by omega)
            rw [this, hmm]
          · have := hrt (x.to :: l) (.cons hvt hnext hl)
            simpa using this
      · rintro acc ⟨l, rfl, hl⟩
        exact ⟨_, rfl, .inr ⟨rfl, c, k, l, hb, hl, rfl⟩⟩
end Go.Abs
