/-
  The search of the program: best walks and routes.
-/
import Derived.Test.YtjbncekcklkjaaaGr3
namespace Go.Abs

abbrev rkv (R : List S_search_rank) (v : Int) : S_search_rank := R.getD v.toNat default
abbrev leR (a b : S_search_rank) : Prop := a.cost < b.cost ∨ a.cost = b.cost ∧ a.points ≤ b.points

theorem rkv_set {R : List S_search_rank} {q v : Int} {x : S_search_rank} (hq : 0 ≤ q ∧ q < (R.length : Int)) (hv : 0 ≤ v) : rkv (R.set q.toNat x) v = if v = q then x else rkv R v := by
  unfold rkv
  rw [getD_set (by omega)]
  by_cases h : v = q
  · subst h; rw [if_pos rfl, if_pos rfl]
  · rw [if_neg (by omega), if_neg h]

/-- The links of points that are not settled. -/
def rest (d : Nat → Nat) (S : Nat → Bool) : Nat → Nat
  | 0 => 0
  | n + 1 => rest d S n + if S n = true then 0 else d n
theorem rest_same {d : Nat → Nat} {S S' : Nat → Bool} : ∀ {n : Nat}, (∀ i, i < n → S' i = S i) → rest d S' n = rest d S n
  | 0, _ => rfl
  | n + 1, h => by simp only [rest]; rw [rest_same (fun i hi => h i (by omega)), h n (by omega)]
theorem rest_set {d : Nat → Nat} {S : Nat → Bool} {v : Nat} (hv : S v = false) : ∀ {n : Nat}, v < n → rest d (fun i => i == v || S i) n + d v = rest d S n
  | 0, h => by omega
  | n + 1, h => by
    simp only [rest]
    by_cases e : n = v
    · subst e
      rw [rest_same (S := S) (fun i hi => by have : (i == n) = false := by simp; omega
                                             simp [this])]
      simp [hv]
    · have := rest_set (d := d) hv (n := n) (by omega)
      have h2 : (n == v) = false := by simpa using e
      simp only [h2, Bool.false_or]
      omega
theorem rest_le {d : Nat → Nat} {S : Nat → Bool} {B : Nat} (h : ∀ i, d i ≤ B) : ∀ (n : Nat), rest d S n ≤ n * B
  | 0 => by simp [rest]
  | n + 1 => by
    have := rest_le (S := S) h n
    have := h n
    simp only [rest, Nat.succ_mul]
    split <;> omega

section
variable (E : Int → Int → Int → Prop) (t fr : Int) (L : List (List S_search_link))
structure DInv (R : List S_search_rank) (q : List S_search_entry) (S : Nat → Bool) (V : Int → Int → Int → Prop) : Prop where
  len : R.length = L.length
  walk : ∀ v : Int, 0 ≤ v → v < (L.length : Int) → (rkv R v).points = 0 ∨ (1 ≤ (rkv R v).points ∧ Walk E t v (rkv R v).cost ((rkv R v).points - 1))
  few : ∀ v : Int, 0 ≤ v → v < (L.length : Int) → (rkv R v).points ≤ L.length + 1
  src : rkv R t = ⟨0, 1⟩
  best : ∀ v : Int, 0 ≤ v → v < (L.length : Int) → S v.toNat = true → Best E t v (rkv R v).cost ((rkv R v).points - 1) ∧ 1 ≤ (rkv R v).points
  relaxed : ∀ v w c : Int, 0 ≤ v → v < (L.length : Int) → S v.toNat = true → V v w c → 1 ≤ (rkv R w).points ∧ leR (rkv R w) ⟨(rkv R v).cost + c, (rkv R v).points + 1⟩
  queued : ∀ v : Int, 0 ≤ v → v < (L.length : Int) → 1 ≤ (rkv R v).points → S v.toNat = false → (⟨rkv R v, v⟩ : S_search_entry) ∈ q
  entry : ∀ e ∈ q, 0 ≤ e.point ∧ e.point < (L.length : Int) ∧ 1 ≤ e.rank.points ∧ 1 ≤ (rkv R e.point).points ∧ leR (rkv R e.point) e.rank
  low : ∀ v : Int, 0 ≤ v → v < (L.length : Int) → S v.toNat = true → ∀ e ∈ q, leR (rkv R v) e.rank
  heap : Heap q
  notFrom : S fr.toNat = false
end

variable {E : Int → Int → Int → Prop} {t fr C : Int} {L : List (List S_search_link)}

theorem DInv.pts {R : List S_search_rank} {q : List S_search_entry} {S : Nat → Bool} {V : Int → Int → Int → Prop} (h : DInv E t fr L R q S V) : Pts q := fun y hy => (h.entry y hy).2.2.1

theorem DInv.key (g : Graph E L.length C) (ht : 0 ≤ t ∧ t < (L.length : Int)) {R : List S_search_rank} {q : List S_search_entry} {S : Nat → Bool} (h : DInv E t fr L R q S E) :
    ∀ (k : Nat) (w c : Int), Best E t w c (k : Int) → S w.toNat = true ∨ ∃ e ∈ q, leR e.rank ⟨c, k + 1⟩ := by
  intro k
  induction k with
  | zero =>
    intro w c hb
    obtain ⟨rfl, rfl⟩ := hb.1.zero g (by omega)
    cases hs : S w.toNat with
    | true => exact .inl rfl
    | false =>
      have hp : 1 ≤ (rkv R w).points := by rw [h.src]; decide
      refine .inr ⟨_, h.queued w ht.1 ht.2 hp hs, ?_⟩
      rw [h.src]; exact .inr ⟨rfl, by simp⟩
  | succ k ih =>
    intro w c hb
    obtain ⟨u, e, he, hbu⟩ := hb.step (by omega)
    have hlt := g.lt _ _ _ he
    have hce := g.cost _ _ _ he
    rw [show ((k + 1 : Nat) : Int) - 1 = (k : Int) by omega] at hbu
    rcases ih u (c - e) hbu with hs | ⟨y, hy, hle⟩
    · have h1 := h.relaxed u w e hlt.2.2.1 hlt.2.2.2 hs (g.sym _ _ _ he)
      have h2 := h.best u hlt.2.2.1 hlt.2.2.2 hs
      have h3 := h2.1.unique hbu
      cases hsw : S w.toNat with
      | true => exact .inl rfl
      | false =>
        refine .inr ⟨_, h.queued w hlt.1 hlt.2.1 h1.1 hsw, ?_⟩
        simp only [leR] at h1 ⊢
        omega
    · refine .inr ⟨y, hy, ?_⟩
      simp only [leR] at hle ⊢
      omega

/-- The first entry's point has its best rank. -/
theorem DInv.first (g : Graph E L.length C) (ht : 0 ≤ t ∧ t < (L.length : Int)) {R : List S_search_rank} {q : List S_search_entry} {S : Nat → Bool} (h : DInv E t fr L R q S E) {v : Int} (hv : 0 ≤ v ∧ v < (L.length : Int))
    {r : S_search_rank} (hr : rkv R v = r) (hset : 1 ≤ r.points) (hmin : ∀ y ∈ q, ¬ ltR y.rank r) : Best E t v r.cost (r.points - 1) := by
  obtain ⟨hp, hw⟩ := (h.walk v hv.1 hv.2).resolve_left (by rw [hr]; omega)
  rw [hr] at hw
  obtain ⟨c, k, hb⟩ := Best.exists g hw
  have h0 := hb.1.ge g
  have h1 := hb.2 _ _ hw
  obtain ⟨k', rfl⟩ : ∃ k' : Nat, k = k' := ⟨k.toNat, by omega⟩
  rcases h.key g ht k' v c hb with hs | ⟨y, hy, hle⟩
  · have := (h.best v hv.1 hv.2 hs).1
    rw [hr] at this; exact this
  · have h2 := hmin y hy
    unfold ltR at h2
    simp only [leR] at hle
    have e1 : r.cost = c := by omega
    have e2 : r.points - 1 = k' := by omega
    rw [e1, e2]; exact hb

/-- Points whose best rank is less than all entries' are settled. -/
theorem DInv.settled (g : Graph E L.length C) (ht : 0 ≤ t ∧ t < (L.length : Int)) {R : List S_search_rank} {q : List S_search_entry} {S : Nat → Bool} (h : DInv E t fr L R q S E) {w c k : Int} (hb : Best E t w c k)
    (hmin : ∀ y ∈ q, ltR ⟨c, k + 1⟩ y.rank) : rkv R w = ⟨c, k + 1⟩ := by
  have h0 := hb.1.ge g
  have hw := hb.1.lt g ht
  obtain ⟨k', rfl⟩ : ∃ k' : Nat, k = k' := ⟨k.toNat, by omega⟩
  rcases h.key g ht k' w c hb with hs | ⟨y, hy, hle⟩
  · obtain ⟨h1, h2⟩ := h.best w hw.1 hw.2 hs
    have := h1.unique hb
    generalize rkv R w = z at this
    obtain ⟨z1, z2⟩ := z
    simp only at this
    rw [this.1, show z2 = (k' : Int) + 1 by omega]
  · have := hmin y hy
    unfold ltR at this
    simp only [leR] at this hle
    omega

/-- One link of a settled point. -/
theorem DInv.relax (g : Graph E L.length C) {R : List S_search_rank} {q q' : List S_search_entry} {S : Nat → Bool} {V : Int → Int → Int → Prop} (hV : ∀ v w c, V v w c → E v w c) (h : DInv E t fr L R q S V) {v w c : Int}
    (ht : 0 ≤ t ∧ t < (L.length : Int)) (hs : S v.toNat = true) (he : E v w c) (hbet : (rkv R w).points = 0 ∨ ltR ⟨(rkv R v).cost + c, (rkv R v).points + 1⟩ (rkv R w)) (hh : Heap q')
    (hq' : ∀ y, y ∈ q' ↔ (y ∈ q ∨ y = ⟨⟨(rkv R v).cost + c, (rkv R v).points + 1⟩, w⟩)) (hlow : ∀ u : Int, 0 ≤ u → u < (L.length : Int) → S u.toNat = true → leR (rkv R u) (rkv R v)) :
    DInv E t fr L (R.set w.toNat ⟨(rkv R v).cost + c, (rkv R v).points + 1⟩) q' S (fun a b d => V a b d ∨ (a = v ∧ b = w ∧ d = c)) ∧ w ≠ v ∧ S w.toNat = false := by
  have hlt := g.lt _ _ _ he
  have hce := g.cost _ _ _ he
  obtain ⟨hbv, hpv⟩ := h.best v hlt.1 hlt.2.1 hs
  have hww : Walk E t w ((rkv R v).cost + c) ((rkv R v).points - 1 + 1) := .cons (g.sym _ _ _ he) hbv.1
  have hnot : S w.toNat = false := by
    cases hsw : S w.toNat with
    | false => rfl
    | true =>
      obtain ⟨b1, b2⟩ := h.best w hlt.2.2.1 hlt.2.2.2 hsw
      have := b1.2 _ _ hww
      unfold ltR at hbet
      simp only at hbet
      omega
  have hwv : w ≠ v := fun e => by rw [e, hs] at hnot; cases hnot
  have hset : ∀ u : Int, 0 ≤ u → rkv (R.set w.toNat ⟨(rkv R v).cost + c, (rkv R v).points + 1⟩) u = if u = w then ⟨(rkv R v).cost + c, (rkv R v).points + 1⟩ else rkv R u := fun u hu => rkv_set ⟨hlt.2.2.1, by have := h.len; omega⟩ hu
  have hS : ∀ u : Int, 0 ≤ u → S u.toNat = true → rkv (R.set w.toNat ⟨(rkv R v).cost + c, (rkv R v).points + 1⟩) u = rkv R u := fun u hu hsu => by
    rw [hset u hu, if_neg (fun e => by subst e; rw [hnot] at hsu; cases hsu)]
  -- ranks get less
  have hmono : ∀ u : Int, 0 ≤ u → 1 ≤ (rkv R u).points → 1 ≤ (rkv (R.set w.toNat ⟨(rkv R v).cost + c, (rkv R v).points + 1⟩) u).points ∧ leR (rkv (R.set w.toNat ⟨(rkv R v).cost + c, (rkv R v).points + 1⟩) u) (rkv R u) := fun u hu hp => by
    rw [hset u hu]
    by_cases e : u = w
    · subst e
      rw [if_pos rfl]
      unfold ltR at hbet
      simp only [leR] at hbet ⊢
      omega
    · rw [if_neg e]; exact ⟨hp, .inr ⟨rfl, Int.le_refl _⟩⟩
  refine ⟨⟨by simpa using h.len, fun u h0 h1 => ?_, fun u h0 h1 => ?_, ?_, fun u h0 h1 hsu => ?_, fun u x d h0 h1 hsu hv => ?_, fun u h0 h1 hp hsu => ?_, fun y hy => ?_, fun u h0 h1 hsu y hy => ?_, hh, h.notFrom⟩, hwv, hnot⟩
  · rw [hset u h0]
    by_cases e : u = w
    · subst e
      rw [if_pos rfl]
      refine .inr ⟨by simp only; omega, ?_⟩
      have : (rkv R v).points - 1 + 1 = (rkv R v).points + 1 - 1 := by omega
      rw [this] at hww
      exact hww
    · rw [if_neg e]; exact h.walk u h0 h1
  · rw [hset u h0]
    by_cases e : u = w
    · rw [if_pos e]
      have := hbv.few g ht
      simp only; omega
    · rw [if_neg e]; exact h.few u h0 h1
  · rw [hset t ht.1, if_neg (fun e => ?_)]
    · exact h.src
    · subst e
      rw [h.src] at hbet
      have h0 := hbv.1.ge g
      unfold ltR at hbet
      simp only at hbet
      omega
  · rw [hS u h0 hsu]; exact h.best u h0 h1 hsu
  · rw [hS u h0 hsu]
    rcases hv with hv | ⟨rfl, rfl, rfl⟩
    · have h2 := h.relaxed u x d h0 h1 hsu hv
      have hx := (g.lt _ _ _ (hV _ _ _ hv)).2.2.1
      have h3 := hmono x hx h2.1
      refine ⟨h3.1, ?_⟩
      have h4 := h2.2
      have h5 := h3.2
      simp only [leR] at h4 h5 ⊢
      omega
    · rw [hset x hlt.2.2.1, if_pos rfl]
      exact ⟨by simp only; omega, .inr ⟨rfl, Int.le_refl _⟩⟩
  · rw [hset u h0] at hp ⊢
    by_cases e : u = w
    · rw [if_pos e]; exact (hq' _).2 (.inr (by rw [e]))
    · rw [if_neg e] at hp ⊢; exact (hq' _).2 (.inl (h.queued u h0 h1 hp hsu))
  · rcases (hq' y).1 hy with hy | rfl
    · obtain ⟨e1, e2, e3, e4, e5⟩ := h.entry y hy
      have h3 := hmono y.point e1 e4
      refine ⟨e1, e2, e3, h3.1, ?_⟩
      have h5 := h3.2
      simp only [leR] at h5 e5 ⊢
      omega
    · refine ⟨hlt.2.2.1, hlt.2.2.2, by simp only; omega, ?_⟩
      simp only
      rw [hset w hlt.2.2.1, if_pos rfl]
      exact ⟨by simp only; omega, .inr ⟨rfl, Int.le_refl _⟩⟩
  · rw [hS u h0 hsu]
    rcases (hq' y).1 hy with hy | rfl
    · exact h.low u h0 h1 hsu y hy
    · have := hlow u h0 h1 hsu
      simp only [leR] at this ⊢
      omega

/-- A link that betters nothing. -/
theorem DInv.skip {R : List S_search_rank} {q : List S_search_entry} {S : Nat → Bool} {V : Int → Int → Int → Prop} (h : DInv E t fr L R q S V) {v w c : Int}
    (hbet : ¬ ((rkv R w).points = 0 ∨ ltR ⟨(rkv R v).cost + c, (rkv R v).points + 1⟩ (rkv R w))) (hw : 0 ≤ w ∧ w < (L.length : Int)) :
    DInv E t fr L R q S (fun a b d => V a b d ∨ (a = v ∧ b = w ∧ d = c)) := by
  refine ⟨h.len, h.walk, h.few, h.src, h.best, fun u x d h0 h1 hsu hv => ?_, h.queued, h.entry, h.low, h.heap, h.notFrom⟩
  rcases hv with hv | ⟨rfl, rfl, rfl⟩
  · exact h.relaxed u x d h0 h1 hsu hv
  · have := h.walk x hw.1 hw.2
    unfold ltR at hbet
    simp only [leR] at hbet ⊢
    omega
theorem DInv.congr {R : List S_search_rank} {q : List S_search_entry} {S : Nat → Bool} {V V' : Int → Int → Int → Prop} (h : DInv E t fr L R q S V) (hv : ∀ a b d, S a.toNat = true → V' a b d → V a b d) : DInv E t fr L R q S V' :=
  ⟨h.len, h.walk, h.few, h.src, h.best, fun u x d h0 h1 hsu hv' => h.relaxed u x d h0 h1 hsu (hv _ _ _ hsu hv'), h.queued, h.entry, h.low, h.heap, h.notFrom⟩
end Go.Abs
