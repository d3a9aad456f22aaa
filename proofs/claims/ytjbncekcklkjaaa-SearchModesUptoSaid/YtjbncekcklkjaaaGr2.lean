/-
  The queue of search: a heap.
-/
import Derived.Test.YtjbncekcklkjaaaGr1
import Derived.Test.YtjbncekcklkjaaaS1
namespace Go.Abs

def ltR (a b : S_search_rank) : Prop := a.cost < b.cost ∨ a.cost = b.cost ∧ a.points < b.points

theorem better_true (N : Nat) {a b : S_search_rank} (h : b.points = 0 ∨ ltR a b) : rank_better_F N a b = some true := by
  unfold rank_better_F ltR at *
  by_cases h0 : b.points = 0
  · rw [bif_pos (by simpa using h0)]
  · rw [bif_neg (by simpa using h0)]
    by_cases h1 : a.cost < b.cost
    · rw [bif_dpos h1]
    · rw [bif_dneg h1, bif_pos (by simp; omega)]; simp; omega
theorem better_false (N : Nat) {a b : S_search_rank} (h0 : b.points ≠ 0) (h : ¬ ltR a b) : rank_better_F N a b = some false := by
  unfold rank_better_F ltR at *
  rw [bif_neg (by simpa using h0), bif_dneg (by omega)]
  by_cases h1 : a.cost = b.cost
  · rw [bif_pos (by simpa using h1)]; simp; omega
  · rw [bif_neg (by simpa using h1)]

section
variable {α : Type} [Inhabited α]
theorem mem_getD {l : List α} {y : α} : y ∈ l ↔ ∃ i, i < l.length ∧ l.getD i default = y := by
  rw [List.mem_iff_getElem]
  constructor
  · rintro ⟨i, hi, rfl⟩; exact ⟨i, hi, by simp [hi]⟩
  · rintro ⟨i, hi, rfl⟩; exact ⟨i, hi, by simp [hi]⟩
theorem getD_set {l : List α} {i k : Nat} {x : α} (hi : i < l.length) : (l.set i x).getD k default = if k = i then x else l.getD k default := by
  rw [List.getD_eq_getElem?_getD, List.getElem?_set]
  by_cases h : k = i
  · subst h; simp [hi]
  · rw [if_neg (fun e => h e.symm), if_neg h, List.getD_eq_getElem?_getD]
theorem getD_swap {l : List α} {i j k : Nat} (hi : i < l.length) (hj : j < l.length) :
    ((l.set i (l.getD j default)).set j (l.getD i default)).getD k default = if k = j then l.getD i default else if k = i then l.getD j default else l.getD k default := by
  rw [getD_set (by simpa using hj), getD_set hi]
theorem mem_swap {l : List α} {i j : Nat} (hi : i < l.length) (hj : j < l.length) {y : α} : y ∈ (l.set i (l.getD j default)).set j (l.getD i default) ↔ y ∈ l := by
  rw [mem_getD, mem_getD]
  simp only [List.length_set]
  constructor
  · rintro ⟨k, hk, h⟩
    rw [getD_swap hi hj] at h
    split at h
    · exact ⟨i, hi, h⟩
    · split at h
      · exact ⟨j, hj, h⟩
      · exact ⟨k, hk, h⟩
  · rintro ⟨k, hk, h⟩
    by_cases h1 : k = i
    · exact ⟨j, hj, by rw [getD_swap hi hj, if_pos rfl, ← h1]; exact h⟩
    · by_cases h2 : k = j
      · refine ⟨i, hi, ?_⟩
        rw [getD_swap hi hj, if_neg (by omega), if_pos rfl, ← h2]; exact h
      · exact ⟨k, hk, by rw [getD_swap hi hj, if_neg h2, if_neg h1]; exact h⟩
end

abbrev rk (l : List S_search_entry) (i : Nat) : S_search_rank := (l.getD i default).rank
def Heap (l : List S_search_entry) : Prop := ∀ i, 0 < i → i < l.length → ¬ ltR (rk l i) (rk l ((i - 1) / 2))
def Pts (l : List S_search_entry) : Prop := ∀ y ∈ l, 1 ≤ y.rank.points

theorem Pts.rk {l : List S_search_entry} (h : Pts l) {i : Nat} (hi : i < l.length) : (Go.Abs.rk l i).points ≠ 0 := by
  have := h _ (mem_getD.2 ⟨i, hi, rfl⟩)
  unfold Go.Abs.rk; omega
theorem rk_swap {l : List S_search_entry} {i j k : Nat} (hi : i < l.length) (hj : j < l.length) :
    rk ((l.set i (l.getD j default)).set j (l.getD i default)) k = if k = j then rk l i else if k = i then rk l j else rk l k := by
  unfold rk
  rw [getD_swap hi hj]
  split
  · rfl
  · split <;> rfl
theorem ltR_asymm {a b : S_search_rank} (h : ltR a b) : ¬ ltR b a := by unfold ltR at *; omega
theorem ltR_trans {a b c : S_search_rank} (h : ltR a b) (h' : ltR b c) : ltR a c := by unfold ltR at *; omega
theorem leR_trans {a b c : S_search_rank} (h : ¬ ltR b a) (h' : ¬ ltR c b) : ¬ ltR c a := by unfold ltR at *; omega

theorem heap_min {l : List S_search_entry} (h : Heap l) : ∀ (i : Nat), i < l.length → ¬ ltR (rk l i) (rk l 0) := by
  intro i
  induction i using Nat.strongRecOn with
  | _ i ih =>
    intro hi
    by_cases h0 : i = 0
    · subst h0; unfold ltR; omega
    · exact leR_trans (ih ((i - 1) / 2) (by omega) (by omega)) (h i (by omega) hi)

/-- Half of a number that is not negative. -/
theorem half_eq {i : Int} (h : 0 < i) (h2 : i < 4000000000000) : IntKind.i64.wrap ((IntKind.i64.wrap (i - 1)).tdiv 2) = (((i.toNat - 1) / 2 : Nat) : Int) := by
  rw [w64 (x := i - 1) (by omega) (by omega), Int.tdiv_eq_ediv_of_nonneg (by omega), w64 (by omega) (by omega)]
  omega

theorem push_ok (N : Nat) (q : List S_search_entry) (x : S_search_entry) (hN : q.length + 1 < N) (hlen : q.length < 1000000000) (hh : Heap q) (hp : Pts q) (hx : 1 ≤ x.rank.points) :
    ∃ r, queue_push_F N q x = some r ∧ Heap r ∧ r.length = q.length + 1 ∧ ∀ y, y ∈ r ↔ (y ∈ q ∨ y = x) := by
  unfold queue_push_F
  rw [grd_pos (by rw [maxLen_eq]; omega)]
  have hstart : IntKind.i64.wrap (((q.length + 1 : Nat) : Int) - 1) = (q.length : Int) := by rw [w64 (by omega) (by omega)]; omega
  rw [hstart]
  refine loop_meas (fun m (s : List S_search_entry × Int) => 0 ≤ s.2 ∧ s.2.toNat = m ∧ s.2.toNat < s.1.length ∧ s.1.length = q.length + 1 ∧ (∀ y, y ∈ s.1 ↔ (y ∈ q ∨ y = x)) ∧
      (∀ j, 0 < j → j < s.1.length → j ≠ s.2.toNat → ¬ ltR (rk s.1 j) (rk s.1 ((j - 1) / 2))) ∧
      (∀ j, 0 < j → j < s.1.length → (j - 1) / 2 = s.2.toNat → 0 < s.2.toNat → ¬ ltR (rk s.1 j) (rk s.1 ((s.2.toNat - 1) / 2))))
    (fun r => Heap r ∧ r.length = q.length + 1 ∧ ∀ y, y ∈ r ↔ (y ∈ q ∨ y = x)) q.length ?_ (by omega) ?_ (fun y h => ⟨y, rfl, h⟩)
  rotate_left
  · rintro m ⟨l, i⟩ ⟨i0, im, il, ll, hmem, hA, hB⟩
    simp only at i0 im il ll hmem hA hB ⊢
    have hpl : Pts l := fun y hy => by
      rcases (hmem y).1 hy with h | h
      · exact hp y h
      · rw [h]; exact hx
    by_cases hi : i > 0
    · rw [bif_dpos hi]
      have hup := half_eq hi (by omega)
      rw [hup]
      have hupl : (i.toNat - 1) / 2 < l.length := by omega
      rw [grd_pos (by omega), grd_pos (by omega), grd_pos (by omega), grd_pos (by omega), grd_pos (by omega), Int.toNat_natCast]
      by_cases hlt : ltR (rk l i.toNat) (rk l ((i.toNat - 1) / 2))
      · left
        rw [better_true N (.inr hlt), Option.bind_some, bif_neg (by rfl), grd_pos (by omega), grd_pos (by omega), grd_pos (by omega), grd_pos (by omega), grd_pos (by omega), grd_pos (by omega), grd_pos (by omega), grd_pos (by omega)]
        refine ⟨_, (i.toNat - 1) / 2, rfl, by omega, by simp only; omega, by simp only; omega, by simp only [List.length_set, Int.toNat_natCast]; omega, by simpa using ll, fun y => ?_, fun j j0 jl hj => ?_, fun j j0 jl hj hup0 => ?_⟩
        · rw [mem_swap il hupl]; exact hmem y
        · simp only [Int.toNat_natCast, List.length_set] at jl hj ⊢
          rw [rk_swap il hupl, rk_swap il hupl, if_neg hj]
          by_cases hji : j = i.toNat
          · subst hji
            rw [if_pos rfl, if_pos rfl]
            exact ltR_asymm hlt
          · rw [if_neg hji]
            by_cases hp1 : (j - 1) / 2 = (i.toNat - 1) / 2
            · rw [if_pos hp1]
              intro hc
              have := hA j j0 jl hji
              rw [hp1] at this
              exact this (ltR_trans hc hlt)
            · rw [if_neg hp1]
              by_cases hp2 : (j - 1) / 2 = i.toNat
              · rw [if_pos hp2]
                exact hB j j0 jl hp2 (by omega)
              · rw [if_neg hp2]
                exact hA j j0 jl hji
        · simp only [Int.toNat_natCast, List.length_set] at jl hj hup0 ⊢
          rw [rk_swap il hupl, rk_swap il hupl, if_neg (by omega)]
          rw [if_neg (show ¬ ((i.toNat - 1) / 2 - 1) / 2 = (i.toNat - 1) / 2 by omega), if_neg (show ¬ ((i.toNat - 1) / 2 - 1) / 2 = i.toNat by omega)]
          have hu := hA ((i.toNat - 1) / 2) hup0 hupl (by omega)
          by_cases hji : j = i.toNat
          · rw [if_pos hji]; exact hu
          · rw [if_neg hji]
            have := hA j j0 jl hji
            rw [hj] at this
            exact leR_trans hu this
      · right
        rw [better_false N (hpl.rk hupl) hlt, Option.bind_some, bif_pos (by rfl)]
        refine ⟨_, rfl, fun j j0 jl => ?_, ll, hmem⟩
        by_cases hji : j = i.toNat
        · subst hji; exact hlt
        · exact hA j j0 jl hji
    · right
      rw [bif_dneg hi]
      exact ⟨_, rfl, fun j j0 jl => hA j j0 jl (by omega), ll, hmem⟩
  · refine ⟨by simp, by simp, by simp, by simp, fun y => by simp, fun j j0 jl hj => ?_, fun j j0 jl hj _ => ?_⟩
    · simp only [Int.toNat_natCast, List.length_append, List.length_cons, List.length_nil] at jl hj
      have e1 : ∀ k, k < q.length → rk (q ++ [x]) k = rk q k := fun k hk => by unfold rk; rw [getD_left hk]
      rw [e1 j (by omega), e1 _ (by omega)]
      exact hh j j0 (by omega)
    · simp only [Int.toNat_natCast, List.length_append, List.length_cons, List.length_nil] at jl hj
      omega

theorem pop_ok (N : Nat) (q : List S_search_entry) (hN : q.length + 1 < N) (hq : 0 < q.length) (hlen : q.length < 1000000000) (hh : Heap q) (hp : Pts q) :
    ∃ r, queue_pop_F N q = some (q.getD 0 default, r) ∧ Heap r ∧ r.length + 1 = q.length ∧ (∀ y ∈ r, y ∈ q) ∧ (∀ y ∈ q, y = q.getD 0 default ∨ y ∈ r) ∧ ∀ y ∈ q, ¬ ltR y.rank (q.getD 0 default).rank := by
  unfold queue_pop_F
  have hlast : IntKind.i64.wrap (((q.length : Nat) : Int) - 1) = ((q.length - 1 : Nat) : Int) := by rw [w64 (by omega) (by omega)]; omega
  rw [hlast]
  have e0 : (0 : Int).toNat = 0 := rfl
  rw [e0, grd_pos (by omega), grd_pos (by omega), grd_pos (by omega), grd_pos (by omega), grd_pos (by omega), grd_pos (by omega), grd_pos (by omega), Int.toNat_natCast]
  have hmin : ∀ y ∈ q, ¬ ltR y.rank (q.getD 0 default).rank := by
    intro y hy
    obtain ⟨i, hi, rfl⟩ := mem_getD.1 hy
    exact heap_min hh i hi
  have hg0 : ∀ k, k < q.length - 1 → ((q.set 0 (q.getD (q.length - 1) default)).take (q.length - 1)).getD k default = if k = 0 then q.getD (q.length - 1) default else q.getD k default := by
    intro k hk
    rw [List.getD_eq_getElem?_getD, List.getElem?_take, if_pos hk, ← List.getD_eq_getElem?_getD, getD_set hq]
  have hl0 : ((q.set 0 (q.getD (q.length - 1) default)).take (q.length - 1)).length = q.length - 1 := by simp
  have hm1 : ∀ y ∈ (q.set 0 (q.getD (q.length - 1) default)).take (q.length - 1), y ∈ q := by
    intro y hy
    obtain ⟨k, hk, h⟩ := mem_getD.1 hy
    rw [hl0] at hk
    rw [hg0 k hk] at h
    split at h
    · exact mem_getD.2 ⟨_, by omega, h⟩
    · exact mem_getD.2 ⟨k, by omega, h⟩
  have hm2 : ∀ y ∈ q, y = q.getD 0 default ∨ y ∈ (q.set 0 (q.getD (q.length - 1) default)).take (q.length - 1) := by
    intro y hy
    obtain ⟨k, hk, h⟩ := mem_getD.1 hy
    by_cases hk0 : k = 0
    · subst hk0; exact .inl h.symm
    · right
      by_cases hkl : k = q.length - 1
      · exact mem_getD.2 ⟨0, by rw [hl0]; omega, by rw [hg0 0 (by omega), if_pos rfl, ← hkl]; exact h⟩
      · exact mem_getD.2 ⟨k, by rw [hl0]; omega, by rw [hg0 k (by omega), if_neg hk0]; exact h⟩
  generalize (q.set 0 (q.getD (q.length - 1) default)).take (q.length - 1) = l0 at hg0 hl0 hm1 hm2 ⊢
  refine loop_ex (fun m (s : List S_search_entry × Int) => 0 ≤ s.2 ∧ s.2.toNat + m = q.length ∧ s.1.length = q.length - 1 ∧ (∀ y, y ∈ s.1 ↔ y ∈ l0) ∧
      (∀ j, 0 < j → j < s.1.length → (j - 1) / 2 ≠ s.2.toNat → ¬ ltR (rk s.1 j) (rk s.1 ((j - 1) / 2))) ∧
      (∀ j, 0 < j → j < s.1.length → (j - 1) / 2 = s.2.toNat → 0 < s.2.toNat → ¬ ltR (rk s.1 j) (rk s.1 ((s.2.toNat - 1) / 2))))
    (fun r => Heap r ∧ r.length = q.length - 1 ∧ ∀ y, y ∈ r ↔ y ∈ l0) q.length ?_ (by omega) ?_ (fun y ⟨h1, h2, h3⟩ => ⟨y, rfl, h1, by omega, fun z hz => hm1 z ((h3 z).1 hz), fun z hz => (hm2 z hz).imp (fun h => h) (fun h => (h3 z).2 h), hmin⟩)
  rotate_left
  · rintro m ⟨l, i⟩ ⟨i0, im, ll, hmem, hA, hB⟩
    simp only at i0 im ll hmem hA hB ⊢
    have hpl : Pts l := fun y hy => hp y (hm1 y ((hmem y).1 hy))
    have w1 : IntKind.i64.wrap ((IntKind.i64.wrap (2 * i)) + 1) = ((2 * i.toNat + 1 : Nat) : Int) := by
      rw [w64 (x := 2 * i) (by omega) (by omega), w64 (by omega) (by omega)]; omega
    have w2 : IntKind.i64.wrap (((2 * i.toNat + 1 : Nat) : Int) + 1) = ((2 * i.toNat + 2 : Nat) : Int) := by
      rw [w64 (by omega) (by omega)]; omega
    rw [w1, w2]
    by_cases hin : 2 * i.toNat + 1 < q.length - 1
    · rw [bif_dpos (by omega)]
      -- the better child
      obtain ⟨d, hd, hdl, hdm, hX⟩ : ∃ d : Nat, (d = 2 * i.toNat + 1 ∨ d = 2 * i.toNat + 2) ∧ d < l.length ∧ (∀ c, c < l.length → (c = 2 * i.toNat + 1 ∨ c = 2 * i.toNat + 2) → ¬ ltR (rk l c) (rk l d)) ∧
          (andC (bif (decide (((2 * i.toNat + 2 : Nat) : Int) < ((q.length - 1 : Nat) : Int))) then
             grd (0 ≤ ((2 * i.toNat + 2 : Nat) : Int) ∧ ((2 * i.toNat + 2 : Nat) : Int) < ((l.length : Nat) : Int)) <|
             grd ((((2 * i.toNat + 2 : Nat) : Int)).toNat < l.length) <|
             grd (0 ≤ ((2 * i.toNat + 1 : Nat) : Int) ∧ ((2 * i.toNat + 1 : Nat) : Int) < ((l.length : Nat) : Int)) <|
             grd ((((2 * i.toNat + 1 : Nat) : Int)).toNat < l.length) <|
             (rank_better_F N ((l.getD ((((2 * i.toNat + 2 : Nat) : Int)).toNat) default).rank) ((l.getD ((((2 * i.toNat + 1 : Nat) : Int)).toNat) default).rank)).bind fun y104 =>
             some (.out y104)
            else
             some (.out false) : Option (Step3 Unit Bool (Step3 Unit Int (Step3 (List S_search_entry × Int) (List S_search_entry) (S_search_entry × List S_search_entry))))) fun y103 =>
           bif y103 then some (.out ((2 * i.toNat + 2 : Nat) : Int)) else some (.out ((2 * i.toNat + 1 : Nat) : Int))) = some (.out (d : Int)) := by
        by_cases hin2 : 2 * i.toNat + 2 < q.length - 1
        · rw [bif_dpos (by omega), grd_pos (by omega), grd_pos (by omega), grd_pos (by omega), grd_pos (by omega), Int.toNat_natCast, Int.toNat_natCast]
          by_cases hlt : ltR (rk l (2 * i.toNat + 2)) (rk l (2 * i.toNat + 1))
          · rw [better_true N (.inr hlt)]
            refine ⟨2 * i.toNat + 2, .inr rfl, by omega, fun c hc h => ?_, rfl⟩
            rcases h with rfl | rfl
            · exact ltR_asymm hlt
            · unfold ltR; omega
          · rw [better_false N (hpl.rk (by omega)) hlt]
            refine ⟨2 * i.toNat + 1, .inl rfl, by omega, fun c hc h => ?_, rfl⟩
            rcases h with rfl | rfl
            · unfold ltR; omega
            · exact hlt
        · rw [bif_dneg (by omega)]
          refine ⟨2 * i.toNat + 1, .inl rfl, by omega, fun c hc h => ?_, rfl⟩
          rcases h with rfl | rfl
          · unfold ltR; omega
          · omega
      rw [hX, andC_out, grd_pos (by omega), grd_pos (by omega), grd_pos (by omega), grd_pos (by omega), Int.toNat_natCast]
      have il : i.toNat < l.length := by omega
      by_cases hlt : ltR (rk l d) (rk l i.toNat)
      · left
        rw [better_true N (.inr hlt), Option.bind_some, bif_neg (by rfl), grd_pos (by omega), grd_pos (by omega), grd_pos (by omega), grd_pos (by omega), grd_pos (by omega), grd_pos (by omega), grd_pos (by omega), grd_pos (by omega)]
        refine ⟨_, q.length - d, rfl, by omega, by simp only; omega, by simp only [Int.toNat_natCast]; omega, by simpa using ll, fun y => ?_, fun j j0 jl hj => ?_, fun j j0 jl hj hup0 => ?_⟩
        · rw [mem_swap il hdl]; exact hmem y
        · simp only [Int.toNat_natCast, List.length_set] at jl hj ⊢
          rw [rk_swap il hdl, rk_swap il hdl, if_neg hj]
          by_cases hjd : j = d
          · subst hjd
            rw [if_pos rfl, if_pos (by omega)]
            exact ltR_asymm hlt
          · rw [if_neg hjd]
            by_cases hji : j = i.toNat
            · rw [if_pos hji, if_neg (by omega)]
              have := hB d (by omega) hdl (by omega) (by omega)
              rw [hji]; exact this
            · rw [if_neg hji]
              by_cases hp2 : (j - 1) / 2 = i.toNat
              · rw [if_pos hp2]
                exact hdm j jl (by omega)
              · rw [if_neg hp2]
                exact hA j j0 jl hp2
        · simp only [Int.toNat_natCast, List.length_set] at jl hj hup0 ⊢
          rw [rk_swap il hdl, rk_swap il hdl, if_neg (by omega), if_neg (by omega), if_neg (by omega), if_pos (by omega)]
          have := hA j j0 jl (by omega)
          rw [hj] at this
          exact this
      · right
        rw [better_false N (hpl.rk il) hlt, Option.bind_some, bif_pos (by rfl)]
        refine ⟨_, rfl, fun j j0 jl => ?_, ll, hmem⟩
        by_cases hp2 : (j - 1) / 2 = i.toNat
        · rw [hp2]
          exact leR_trans hlt (hdm j jl (by omega))
        · exact hA j j0 jl hp2
    · right
      rw [bif_dneg (by omega)]
      exact ⟨_, rfl, fun j j0 jl => hA j j0 jl (by omega), ll, hmem⟩
  · refine ⟨by simp, by simp, hl0, fun y => Iff.rfl, fun j j0 jl hj => ?_, fun j j0 jl hj h => by simp at h⟩
    simp only [Int.toNat_zero] at hj jl ⊢
    have e1 : rk l0 j = rk q j := by unfold rk; rw [hg0 j (by omega), if_neg (by omega)]
    have e2 : rk l0 ((j - 1) / 2) = rk q ((j - 1) / 2) := by unfold rk; rw [hg0 _ (by omega), if_neg (by omega)]
    rw [e1, e2]
    exact hh j j0 (by omega)
end Go.Abs
