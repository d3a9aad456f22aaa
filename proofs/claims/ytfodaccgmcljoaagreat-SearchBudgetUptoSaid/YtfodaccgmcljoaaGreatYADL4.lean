/-
  DL4 (a part of a claim: our own text).
-/
import Derived.Test.YtfodaccgmcljoaaGreatYADL1
import Derived.Test.YtfodaccgmcljoaaGreatYADL3
import Derived.Test.YtfodaccgmcljoaaGreatYADL2
namespace Go.Abs
theorem zzs {σ τ R : Type} {f : σ → Option (Step3 σ τ R)} (I : Nat → σ → Prop) (Q : τ → Prop)
    (hr : ∀ m x, I m x → (∃ x' m', f x = some (.next x') ∧ m' < m ∧ I m' x') ∨ ∃ y, f x = some (.out y) ∧ Q y) :
    ∀ (N m : Nat) (x : σ), I m x → m < N → ∃ y, iter f N x = some (.inl y) ∧ Q y
  | 0, _, _, _, h => by omega
  | N + 1, m, x, hi, h => by
    rcases hr m x hi with ⟨x', m', h1, h2, h3⟩ | ⟨y, h1, h2⟩
    · rw [vzj h1]; exact zzs I Q hr N m' x' h3 (by omega)
    · exact ⟨y, by simp [iter, h1], h2⟩
theorem Cz4 {σ τ R : Type} {f : σ → Option (Step3 σ τ R)} (I : Nat → σ → Prop) (Q : τ ⊕ R → Prop)
    (hr : ∀ m x, I m x → (∃ x' m', f x = some (.next x') ∧ m' < m ∧ I m' x') ∨ (∃ y, f x = some (.out y) ∧ Q (.inl y)) ∨ ∃ r, f x = some (.fin r) ∧ Q (.inr r)) :
    ∀ (N m : Nat) (x : σ), I m x → m < N → ∃ y, iter f N x = some y ∧ Q y
  | 0, _, _, _, h => by omega
  | N + 1, m, x, hi, h => by
    rcases hr m x hi with ⟨x', m', h1, h2, h3⟩ | ⟨y, h1, h2⟩ | ⟨y, h1, h2⟩
    · rw [vzj h1]; exact Cz4 I Q hr N m' x' h3 (by omega)
    · exact ⟨_, by simp [iter, h1], h2⟩
    · exact ⟨_, by simp [iter, h1], h2⟩
theorem Fzm {σ τ R : Type} {f : σ → Option (Step3 σ τ R)} {k : τ → Option R} {P : R → Prop} {N : Nat} {x : σ} (I : Nat → σ → Prop) (Q : τ → Prop) (m : Nat) (h0 : I m x) (hN : m < N)
    (hr : ∀ m x, I m x → (∃ x' m', f x = some (.next x') ∧ m' < m ∧ I m' x') ∨ ∃ y, f x = some (.out y) ∧ Q y) (hk : ∀ y, Q y → ∃ r, k y = some r ∧ P r) : ∃ r, andK (iter f N x) k = some r ∧ P r := by
  obtain ⟨y, hy, hq⟩ := zzs I Q hr N m x h0 hN
  rw [pz0 hy]
  exact hk y hq
theorem Lzt {σ τ R β : Type} {f : σ → Option (Step3 σ τ R)} {k : τ → Option R} {g : β → R} {P : β → Prop} {N : Nat} {x : σ} (I : Nat → σ → Prop) (Q : τ → Prop) (m : Nat) (h0 : I m x) (hN : m < N)
    (hr : ∀ m x, I m x → (∃ x' m', f x = some (.next x') ∧ m' < m ∧ I m' x') ∨ ∃ y, f x = some (.out y) ∧ Q y) (hk : ∀ y, Q y → ∃ b, k y = some (g b) ∧ P b) : ∃ b, andK (iter f N x) k = some (g b) ∧ P b := by
  obtain ⟨y, hy, hq⟩ := zzs I Q hr N m x h0 hN
  rw [pz0 hy]
  exact hk y hq
theorem Ozc {σ τ R β : Type} {f : σ → Option (Step3 σ τ R)} {k : τ → Option R} {g : β → R} {P : β → Prop} {N : Nat} {x : σ} (I : Nat → σ → Prop) (Q : τ → Prop) (m : Nat) (h0 : I m x) (hN : m < N)
    (hr : ∀ m x, I m x → (∃ x', f x = some (.next x') ∧ ∃ m', m' < m ∧ I m' x') ∨ ∃ y, f x = some (.out y) ∧ Q y) (hk : ∀ y, Q y → ∃ b, k y = some (g b) ∧ P b) : ∃ b, andK (iter f N x) k = some (g b) ∧ P b := by
  refine Lzt I Q m h0 hN (fun m x h => ?_) hk
  rcases hr m x h with ⟨x', h1, m', h2, h3⟩ | h
  · exact .inl ⟨x', m', h1, h2, h3⟩
  · exact .inr h
theorem xz5 {σ τ R : Type} {f : σ → Option (Step3 σ τ R)} {k : τ → Option R} {P : R → Prop} {N : Nat} {x : σ} (I : Nat → σ → Prop) (Q : τ → Prop) (m : Nat) (h0 : I m x) (hN : m < N)
    (hr : ∀ m x, I m x → (∃ x' m', f x = some (.next x') ∧ m' < m ∧ I m' x') ∨ (∃ y, f x = some (.out y) ∧ Q y) ∨ ∃ r, f x = some (.fin r) ∧ P r) (hk : ∀ y, Q y → ∃ r, k y = some r ∧ P r) : ∃ r, andK (iter f N x) k = some r ∧ P r := by
  obtain ⟨y, hy, hq⟩ := Cz4 I (fun y => match y with | .inl y => Q y | .inr r => P r) hr N m x h0 hN
  cases y with
  | inl y => rw [pz0 hy]; exact hk y hq
  | inr r => rw [Izh hy]; exact ⟨r, rfl, hq⟩
theorem Mz0 (p : Nat → Prop) (h : ∃ n, p n) : ∃ n, p n ∧ ∀ m, p m → n ≤ m := by
  obtain ⟨n, hn⟩ := h
  induction n using Nat.strongRecOn with
  | _ n ih =>
    by_cases hh : ∃ m, m < n ∧ p m
    · obtain ⟨m, hm, hp⟩ := hh; exact ih m hm hp
    · refine ⟨n, hn, fun m hm => ?_⟩
      by_cases hlt : m < n
      · exact absurd ⟨m, hlt, hm⟩ hh
      · omega
theorem Pzy : ∀ (n k : Nat) (g : Nat → Nat), (∀ j, j ≤ k → ∃ v, v < n ∧ g v = j) → k < n
  | 0, k, g, h => by obtain ⟨v, hv, _⟩ := h 0 (by omega); omega
  | n + 1, k, g, h => by
    by_cases hk : k = 0
    · omega
    · have := Pzy n (k - 1) (fun v => if g v = k then g n else g v) (fun j hj => by
        by_cases hm : g n = k
        · obtain ⟨v, hv, hg⟩ := h j (by omega)
          have : v ≠ n := fun e => by subst e; omega
          exact ⟨v, by omega, by show (if _ then _ else _) = _; rw [if_neg (by omega)]; exact hg⟩
        · by_cases hj2 : j = g n
          · obtain ⟨v, hv, hg⟩ := h k (by omega)
            have : v ≠ n := fun e => by subst e; omega
            exact ⟨v, by omega, by show (if _ then _ else _) = _; rw [if_pos hg]; exact hj2.symm⟩
          · obtain ⟨v, hv, hg⟩ := h j (by omega)
            have : v ≠ n := fun e => by subst e; omega
            exact ⟨v, by omega, by show (if _ then _ else _) = _; rw [if_neg (by omega)]; exact hg⟩)
      omega
section
variable (E : Int → Int → Int → Prop) (t : Int)
inductive Walk : Int → Int → Int → Prop
  | nil : Walk t 0 0
  | cons {v u c d k : Int} : E v u c → Walk u d k → Walk v (d + c) (k + 1)
def Best (v c k : Int) : Prop := Walk E t v c k ∧ ∀ c' k', Walk E t v c' k' → c < c' ∨ c = c' ∧ k ≤ k'
structure Graph (n C : Int) : Prop where
  sym : ∀ u v c, E u v c → E v u c
  cost : ∀ u v c, E u v c → 0 ≤ c ∧ c ≤ C
  lt : ∀ u v c, E u v c → 0 ≤ u ∧ u < n ∧ 0 ≤ v ∧ v < n
end
variable {E : Int → Int → Int → Prop} {t n C : Int}
theorem Walk.ge (g : Graph E n C) {v c k : Int} (h : Walk E t v c k) : 0 ≤ c ∧ 0 ≤ k := by
  induction h with
  | nil => omega
  | cons he _ ih => have := g.cost _ _ _ he; omega
theorem Walk.le (g : Graph E n C) {v c k : Int} (h : Walk E t v c k) : c ≤ k * C := by
  induction h with
  | nil => simp
  | cons he _ ih => have := g.cost _ _ _ he; rw [Int.add_mul]; omega
theorem Walk.lt (g : Graph E n C) (ht : 0 ≤ t ∧ t < n) {v c k : Int} (h : Walk E t v c k) : 0 ≤ v ∧ v < n := by
  cases h with
  | nil => exact ht
  | cons he _ => have := g.lt _ _ _ he; omega
theorem Walk.zero (g : Graph E n C) {v c k : Int} (h : Walk E t v c k) (hk : k = 0) : v = t ∧ c = 0 := by
  cases h with
  | nil => exact ⟨rfl, rfl⟩
  | cons he hw => have := hw.ge g; omega
theorem Best.exists (g : Graph E n C) {v c k : Int} (h : Walk E t v c k) : ∃ c' k', Best E t v c' k' := by
  have h0 := h.ge g
  obtain ⟨a, ⟨k1, ha⟩, hmin⟩ := Mz0 (fun a => ∃ k, Walk E t v (a : Int) k) ⟨c.toNat, k, by rw [Int.toNat_of_nonneg h0.1]; exact h⟩
  have h1 := ha.ge g
  obtain ⟨b, hb, hmin2⟩ := Mz0 (fun b => Walk E t v (a : Int) (b : Int)) ⟨k1.toNat, by rw [Int.toNat_of_nonneg h1.2]; exact ha⟩
  refine ⟨a, b, hb, fun c' k' hw => ?_⟩
  have h2 := hw.ge g
  have h3 := hmin c'.toNat ⟨k', by rw [Int.toNat_of_nonneg h2.1]; exact hw⟩
  by_cases hc : (a : Int) = c'
  · subst hc
    have := hmin2 k'.toNat (by rw [Int.toNat_of_nonneg h2.2]; exact hw)
    omega
  · omega
theorem Best.unique {v c k c' k' : Int} (h : Best E t v c k) (h' : Best E t v c' k') : c = c' ∧ k = k' := by
  have h1 := h.2 _ _ h'.1
  have h2 := h'.2 _ _ h.1
  omega
theorem Best.self (g : Graph E n C) : Best E t t 0 0 := ⟨.nil, fun c' k' h => by have := h.ge g; omega⟩
theorem Best.step {v c k : Int} (h : Best E t v c k) (hk : k ≠ 0) : ∃ u e, E v u e ∧ Best E t u (c - e) (k - 1) := by
  obtain ⟨hw, hm⟩ := h
  cases hw with
  | nil => omega
  | cons he hw =>
    rename_i u e d j
    refine ⟨u, e, he, ?_⟩
    rw [show d + e - e = d by omega, show j + 1 - 1 = j by omega]
    refine ⟨hw, fun c' k' h => ?_⟩
    have := hm _ _ (Walk.cons he h)
    omega
theorem Best.ne (g : Graph E n C) {v c k : Int} (h : Best E t v c k) (hv : v ≠ t) : 1 ≤ k := by
  have h1 := h.1.ge g
  by_cases h0 : k = 0
  · exact absurd (h.1.zero g h0).1 hv
  · omega
theorem Best.lower (g : Graph E n C) (j : Nat) : ∀ (k : Nat) {v c : Int}, Best E t v c (k : Int) → j ≤ k → ∃ u c', Best E t u c' (j : Int)
  | 0, v, c, h, hj => ⟨v, c, by have : j = 0 := by omega
                                subst this; exact h⟩
  | k + 1, v, c, h, hj => by
    by_cases hk : j = k + 1
    · subst hk; exact ⟨v, c, h⟩
    · obtain ⟨u, e, _, hb⟩ := h.step (by omega)
      rw [show ((k + 1 : Nat) : Int) - 1 = (k : Int) by omega] at hb
      exact Best.lower g j k hb (by omega)
theorem Best.few (g : Graph E n C) (ht : 0 ≤ t ∧ t < n) {v c k : Int} (h : Best E t v c k) : k < n := by
  have h0 := h.1.ge g
  obtain ⟨k', rfl⟩ : ∃ k' : Nat, k = k' := ⟨k.toNat, by omega⟩
  have key := Pzy n.toNat k' (fun v => open Classical in if hh : ∃ k : Nat, ∃ c, Best E t (v : Int) c (k : Int) then Classical.choose hh else 0) (fun j hj => by
    obtain ⟨u, c', hb⟩ := Best.lower g j k' h hj
    have hu := hb.1.lt g ht
    refine ⟨u.toNat, by omega, ?_⟩
    have hb' : Best E t ((u.toNat : Nat) : Int) c' (j : Int) := by rw [Int.toNat_of_nonneg hu.1]; exact hb
    have hh : ∃ k : Nat, ∃ c, Best E t ((u.toNat : Nat) : Int) c (k : Int) := ⟨j, c', hb'⟩
    refine (dif_pos hh).trans ?_
    obtain ⟨c2, hc2⟩ := Classical.choose_spec hh
    have := hb'.unique hc2
    omega)
  omega
def Sz5 (E : Int → Int → Int → Prop) (t v w : Int) : Prop :=
  (∃ c k e, Best E t v c k ∧ E v w e ∧ Best E t w (c - e) (k - 1)) ∧ ∀ w', (∃ c k e, Best E t v c k ∧ E v w' e ∧ Best E t w' (c - e) (k - 1)) → w ≤ w'
inductive Rt (E : Int → Int → Int → Prop) (t : Int) : Int → List Int → Prop
  | nil : Rt E t t []
  | cons {v w : Int} {l : List Int} : v ≠ t → Sz5 E t v w → Rt E t w l → Rt E t v (w :: l)
theorem Rt.length (g : Graph E n C) {v : Int} {l : List Int} (h : Rt E t v l) : ∀ {c k : Int}, Best E t v c k → (l.length : Int) = k := by
  induction h with
  | nil => intro c k hb; have := hb.unique (Best.self g); simp; omega
  | cons hv hn _ ih =>
    intro c k hb
    obtain ⟨c', k', e, h1, _, h3⟩ := hn.1
    have := hb.unique h1
    have := ih h3
    simp; omega
theorem vzy (a0 : az6) (a1 : az6) : (dzz a0 a1).o = (kzy a0 a1).run NN := rfl
theorem Gz8 (a0 : (List aza)) (a1 : aza) : (sz1 a0 a1).o = (sz2 a0 a1).run NN := rfl
theorem Hzw (a0 : (List aza)) : (uzp a0).o = (uzq a0).run NN := rfl
def ltR (a b : az6) : Prop := a.cost < b.cost ∨ a.cost = b.cost ∧ a.points < b.points
theorem pz4 {a b : az6} (h : b.points = 0 ∨ ltR a b) : (dzz a b).o = some true := by
  simp only [vzy, kzy, T.run]; unfold ltR at*
  by_cases h0 : b.points = 0
  · rw [dzr (by simpa using h0)]
  · rw [ez8 (by simpa using h0)]
    by_cases h1 : a.cost < b.cost
    · rw [az9 h1]
    · rw [az7 h1, dzr (by simp; omega)]; simp; omega
theorem mzf {a b : az6} (h0 : b.points ≠ 0) (h : ¬ ltR a b) : (dzz a b).o = some false := by
  simp only [vzy, kzy, T.run]; unfold ltR at*
  rw [ez8 (by simpa using h0), az7 (by omega)]
  by_cases h1 : a.cost = b.cost
  · rw [dzr (by simpa using h1)]; simp; omega
  · rw [ez8 (by simpa using h1)]
section
variable {α : Type} [Inhabited α]
theorem mem_getD {l : List α} {y : α} : y ∈ l ↔ ∃ i, i < l.length ∧ l.getD i default = y := by
  rw [List.mem_iff_getElem]
  constructor
  · rintro ⟨i, hi, rfl⟩; exact ⟨i, hi, by simp [hi]⟩
  · rintro ⟨i, hi, rfl⟩; exact ⟨i, hi, by simp [hi]⟩
theorem uzi {l : List α} {i k : Nat} {x : α} (hi : i < l.length) : (l.set i x).getD k default = if k = i then x else l.getD k default := by
  rw [List.getD_eq_getElem?_getD, List.getElem?_set]
  by_cases h : k = i
  · subst h; simp [hi]
  · rw [if_neg (fun e => h e.symm), if_neg h, List.getD_eq_getElem?_getD]
theorem rzh {l : List α} {i j k : Nat} (hi : i < l.length) (hj : j < l.length) :
    ((l.set i (l.getD j default)).set j (l.getD i default)).getD k default = if k = j then l.getD i default else if k = i then l.getD j default else l.getD k default := by
  rw [uzi (by simpa using hj), uzi hi]
theorem Jz4 {l : List α} {i j : Nat} (hi : i < l.length) (hj : j < l.length) {y : α} : y ∈ (l.set i (l.getD j default)).set j (l.getD i default) ↔ y ∈ l := by
  rw [mem_getD, mem_getD]
  simp only [List.length_set]
  constructor
  · rintro ⟨k, hk, h⟩
    rw [rzh hi hj] at h
    split at h
    · exact ⟨i, hi, h⟩
    · split at h
      · exact ⟨j, hj, h⟩
      · exact ⟨k, hk, h⟩
  · rintro ⟨k, hk, h⟩
    by_cases h1 : k = i
    · exact ⟨j, hj, by rw [rzh hi hj, if_pos rfl, ← h1]; exact h⟩
    · by_cases h2 : k = j
      · refine ⟨i, hi, ?_⟩
        rw [rzh hi hj, if_neg (by omega), if_pos rfl, ← h2]; exact h
      · exact ⟨k, hk, by rw [rzh hi hj, if_neg h2, if_neg h1]; exact h⟩
end
abbrev rk (l : List aza) (i : Nat) : az6 := (l.getD i default).rank
def Heap (l : List aza) : Prop := ∀ i, 0 < i → i < l.length → ¬ ltR (rk l i) (rk l ((i - 1) / 2))
def Pts (l : List aza) : Prop := ∀ y ∈ l, 1 ≤ y.rank.points
theorem Pts.rk {l : List aza} (h : Pts l) {i : Nat} (hi : i < l.length) : (Go.Abs.rk l i).points ≠ 0 := by
  have := h _ (mem_getD.2 ⟨i, hi, rfl⟩)
  unfold Go.Abs.rk; omega
theorem sz8 {l : List aza} {i j k : Nat} (hi : i < l.length) (hj : j < l.length) :
    rk ((l.set i (l.getD j default)).set j (l.getD i default)) k = if k = j then rk l i else if k = i then rk l j else rk l k := by
  unfold rk
  rw [rzh hi hj]
  split
  · rfl
  · split <;> rfl
theorem zzz {a b : az6} (h : ltR a b) : ¬ ltR b a := by unfold ltR at *; omega
theorem Lzu {a b c : az6} (h : ltR a b) (h' : ltR b c) : ltR a c := by unfold ltR at *; omega
theorem zzu {a b c : az6} (h : ¬ ltR b a) (h' : ¬ ltR c b) : ¬ ltR c a := by unfold ltR at *; omega
theorem Nzw {l : List aza} (h : Heap l) : ∀ (i : Nat), i < l.length → ¬ ltR (rk l i) (rk l 0) := by
  intro i
  induction i using Nat.strongRecOn with
  | _ i ih =>
    intro hi
    by_cases h0 : i = 0
    · subst h0; unfold ltR; omega
    · exact zzu (ih ((i - 1) / 2) (by omega) (by omega)) (h i (by omega) hi)
theorem Qzw {i : Int} (h : 0 < i) (h2 : i < 4000000000000) : IntKind.i64.wrap ((IntKind.i64.wrap (i - 1)).tdiv 2) = (((i.toNat - 1) / 2 : Nat) : Int) := by
  rw [w64 (x := i - 1) (by omega) (by omega), Int.tdiv_eq_ediv_of_nonneg (by omega), w64 (by omega) (by omega)]
  omega
theorem Rzg (q : List aza) (x : aza) (hN : q.length + 1 < NN) (hlen : q.length < 1000000000) (hh : Heap q) (hp : Pts q) (hx : 1 ≤ x.rank.points) :
    ∃ r, (sz1 q x).o = some r ∧ Heap r ∧ r.length = q.length + 1 ∧ ∀ y, y ∈ r ↔ (y ∈ q ∨ y = x) := by
  simp only [Gz8, sz2, T.run, List.length_append, List.length_singleton]
  ((repeat (first | rw [azd (by omega)] | rw [azd (by simp only [List.length_set]; omega)] | rw [azd (by simp only [List.length_cons, List.length_nil, azc]; omega)] | rw [azd (by simp only [List.length_singleton, List.length_set, List.length_replicate, azc, and_true]; omega)])))
  have hstart : IntKind.i64.wrap (((q.length + 1 : Nat) : Int) - 1) = (q.length : Int) := by rw [w64 (by omega) (by omega)]; omega
  rw [hstart]
  refine Fzm (fun m (s : List aza × Int) => 0 ≤ s.2 ∧ s.2.toNat = m ∧ s.2.toNat < s.1.length ∧ s.1.length = q.length + 1 ∧ (∀ y, y ∈ s.1 ↔ (y ∈ q ∨ y = x)) ∧
      (∀ j, 0 < j → j < s.1.length → j ≠ s.2.toNat → ¬ ltR (rk s.1 j) (rk s.1 ((j - 1) / 2))) ∧
      (∀ j, 0 < j → j < s.1.length → (j - 1) / 2 = s.2.toNat → 0 < s.2.toNat → ¬ ltR (rk s.1 j) (rk s.1 ((s.2.toNat - 1) / 2))))
    (fun r => Heap r ∧ r.length = q.length + 1 ∧ ∀ y, y ∈ r ↔ (y ∈ q ∨ y = x)) q.length ?_ (by omega) ?_ (fun y h => ⟨y, rfl, h⟩)
  rotate_left
  · rintro m ⟨l, i⟩ ⟨i0, im, il, ll, hmem, hA, hB⟩
    simp only at i0 im il ll hmem hA hB ⊢
    have hpl : Pts l := fun y hy => by
      rcases (hmem y).1 hy with h | h
      · exact hp y h
      · rw [h]; exact hx
    by_cases hi : i > 0
    · rw [az9 hi]
      have hup := Qzw hi (by omega)
      rw [hup]
      have hupl : (i.toNat - 1) / 2 < l.length := by omega
      ((repeat (first | rw [azd (by omega)] | rw [azd (by simp only [List.length_set]; omega)] | rw [azd (by simp only [List.length_cons, List.length_nil, azc]; omega)] | rw [azd (by simp only [List.length_singleton, List.length_set, List.length_replicate, azc, and_true]; omega)])); rw [Int.toNat_natCast])
      by_cases hlt : ltR (rk l i.toNat) (rk l ((i.toNat - 1) / 2))
      · left
        (rw [pz4 (.inr hlt), Option.bind_some, ez8 (by rfl)]; (repeat (first | rw [azd (by omega)] | rw [azd (by simp only [List.length_set]; omega)] | rw [azd (by simp only [List.length_cons, List.length_nil, azc]; omega)] | rw [azd (by simp only [List.length_singleton, List.length_set, List.length_replicate, azc, and_true]; omega)])))
        refine ⟨_, (i.toNat - 1) / 2, rfl, by omega, by simp only; omega, by simp only; omega, by simp only [List.length_set, Int.toNat_natCast]; omega, by simpa using ll, fun y => ?_, fun j j0 jl hj => ?_, fun j j0 jl hj hup0 => ?_⟩
        · rw [Jz4 il hupl]; exact hmem y
        · simp only [Int.toNat_natCast, List.length_set] at jl hj ⊢
          rw [sz8 il hupl, sz8 il hupl, if_neg hj]
          by_cases hji : j = i.toNat
          · subst hji
            rw [if_pos rfl, if_pos rfl]
            exact zzz hlt
          · rw [if_neg hji]
            by_cases hp1 : (j - 1) / 2 = (i.toNat - 1) / 2
            · rw [if_pos hp1]
              intro hc
              have := hA j j0 jl hji
              rw [hp1] at this
              exact this (Lzu hc hlt)
            · rw [if_neg hp1]
              by_cases hp2 : (j - 1) / 2 = i.toNat
              · rw [if_pos hp2]
                exact hB j j0 jl hp2 (by omega)
              · rw [if_neg hp2]
                exact hA j j0 jl hji
        · simp only [Int.toNat_natCast, List.length_set] at jl hj hup0 ⊢
          rw [sz8 il hupl, sz8 il hupl, if_neg (by omega)]
          rw [if_neg (show ¬ ((i.toNat - 1) / 2 - 1) / 2 = (i.toNat - 1) / 2 by omega), if_neg (show ¬ ((i.toNat - 1) / 2 - 1) / 2 = i.toNat by omega)]
          have hu := hA ((i.toNat - 1) / 2) hup0 hupl (by omega)
          by_cases hji : j = i.toNat
          · rw [if_pos hji]; exact hu
          · rw [if_neg hji]
            have := hA j j0 jl hji
            rw [hj] at this
            exact zzu hu this
      · right
        rw [mzf (hpl.rk hupl) hlt, Option.bind_some, dzr (by rfl)]
        refine ⟨_, rfl, fun j j0 jl => ?_, ll, hmem⟩
        by_cases hji : j = i.toNat
        · subst hji; exact hlt
        · exact hA j j0 jl hji
    · right
      rw [az7 hi]
      exact ⟨_, rfl, fun j j0 jl => hA j j0 jl (by omega), ll, hmem⟩
  · refine ⟨by simp, by simp, by simp, by simp, fun y => by simp, fun j j0 jl hj => ?_, fun j j0 jl hj _ => ?_⟩
    · simp only [Int.toNat_natCast, List.length_append, List.length_cons, List.length_nil] at jl hj
      have e1 : ∀ k, k < q.length → rk (q ++ [x]) k = rk q k := fun k hk => by unfold rk; rw [getD_left hk]
      rw [e1 j (by omega), e1 _ (by omega)]
      exact hh j j0 (by omega)
    · simp only [Int.toNat_natCast, List.length_append, List.length_cons, List.length_nil] at jl hj
      omega
theorem Tza (q : List aza) (hN : q.length + 1 < NN) (hq : 0 < q.length) (hlen : q.length < 1000000000) (hh : Heap q) (hp : Pts q) :
    ∃ r, (uzp q).o = some (q.getD 0 default, r) ∧ Heap r ∧ r.length + 1 = q.length ∧ (∀ y ∈ r, y ∈ q) ∧ (∀ y ∈ q, y = q.getD 0 default ∨ y ∈ r) ∧ ∀ y ∈ q, ¬ ltR y.rank (q.getD 0 default).rank := by
  simp only [Hzw, uzq, T.run]
  have hlast : IntKind.i64.wrap (((q.length : Nat) : Int) - 1) = ((q.length - 1 : Nat) : Int) := by rw [w64 (by omega) (by omega)]; omega
  rw [hlast]
  have e0 : (0 : Int).toNat = 0 := rfl
  (rw [e0]; (repeat (first | rw [azd (by omega)] | rw [azd (by simp only [List.length_set]; omega)] | rw [azd (by simp only [List.length_cons, List.length_nil, azc]; omega)] | rw [azd (by simp only [List.length_singleton, List.length_set, List.length_replicate, azc, and_true]; omega)])); rw [Int.toNat_natCast])
  have hmin : ∀ y ∈ q, ¬ ltR y.rank (q.getD 0 default).rank := by
    intro y hy
    obtain ⟨i, hi, rfl⟩ := mem_getD.1 hy
    exact Nzw hh i hi
  have hg0 : ∀ k, k < q.length - 1 → ((q.set 0 (q.getD (q.length - 1) default)).take (q.length - 1)).getD k default = if k = 0 then q.getD (q.length - 1) default else q.getD k default := by
    intro k hk
    rw [List.getD_eq_getElem?_getD, List.getElem?_take, if_pos hk, ← List.getD_eq_getElem?_getD, uzi hq]
  have hl0 : ((q.set 0 (q.getD (q.length - 1) default)).take (q.length - 1)).length = q.length - 1 := by simp
  have hm1 : ∀ y ∈ (q.set 0 (q.getD (q.length - 1) default)).take (q.length - 1), y ∈ q := by
    intro y hy
    obtain ⟨k, hk, h⟩ := mem_getD.1 hy
    rw [hl0] at hk
    rw [hg0 k hk] at h
    split at h
    · exact mem_getD.2 ⟨_, by omega, h⟩
    · exact mem_getD.2 ⟨k, by omega, h⟩
  have hm2 : ∀ y ∈ q, y = q.getD 0 default ∨ y ∈ (q.set 0 (q.getD (q.length - 1) default)).take (q.length - 1) := by
    intro y hy
    obtain ⟨k, hk, h⟩ := mem_getD.1 hy
    by_cases hk0 : k = 0
    · subst hk0; exact .inl h.symm
    · right
      by_cases hkl : k = q.length - 1
      · exact mem_getD.2 ⟨0, by rw [hl0]; omega, by rw [hg0 0 (by omega), if_pos rfl, ← hkl]; exact h⟩
      · exact mem_getD.2 ⟨k, by rw [hl0]; omega, by rw [hg0 k (by omega), if_neg hk0]; exact h⟩
  generalize (q.set 0 (q.getD (q.length - 1) default)).take (q.length - 1) = l0 at hg0 hl0 hm1 hm2 ⊢
  refine Lzt (fun m (s : List aza × Int) => 0 ≤ s.2 ∧ s.2.toNat + m = q.length ∧ s.1.length = q.length - 1 ∧ (∀ y, y ∈ s.1 ↔ y ∈ l0) ∧
      (∀ j, 0 < j → j < s.1.length → (j - 1) / 2 ≠ s.2.toNat → ¬ ltR (rk s.1 j) (rk s.1 ((j - 1) / 2))) ∧
      (∀ j, 0 < j → j < s.1.length → (j - 1) / 2 = s.2.toNat → 0 < s.2.toNat → ¬ ltR (rk s.1 j) (rk s.1 ((s.2.toNat - 1) / 2))))
    (fun r => Heap r ∧ r.length = q.length - 1 ∧ ∀ y, y ∈ r ↔ y ∈ l0) q.length ?_ (by omega) ?_ (fun y ⟨h1, h2, h3⟩ => ⟨y, rfl, h1, by omega, fun z hz => hm1 z ((h3 z).1 hz), fun z hz => (hm2 z hz).imp (fun h => h) (fun h => (h3 z).2 h), hmin⟩)
  rotate_left
  · rintro m ⟨l, i⟩ ⟨i0, im, ll, hmem, hA, hB⟩
    simp only at i0 im ll hmem hA hB ⊢
    have hpl : Pts l := fun y hy => hp y (hm1 y ((hmem y).1 hy))
    have w1 : IntKind.i64.wrap ((IntKind.i64.wrap (2 * i)) + 1) = ((2 * i.toNat + 1 : Nat) : Int) := by
      rw [w64 (x := 2 * i) (by omega) (by omega), w64 (by omega) (by omega)]; omega
    have w2 : IntKind.i64.wrap (((2 * i.toNat + 1 : Nat) : Int) + 1) = ((2 * i.toNat + 2 : Nat) : Int) := by
      rw [w64 (by omega) (by omega)]; omega
    rw [w1, w2]
    by_cases hin : 2 * i.toNat + 1 < q.length - 1
    · rw [az9 (by omega)]
      obtain ⟨d, hd, hdl, hdm, hX⟩ : ∃ d : Nat, (d = 2 * i.toNat + 1 ∨ d = 2 * i.toNat + 2) ∧ d < l.length ∧ (∀ c, c < l.length → (c = 2 * i.toNat + 1 ∨ c = 2 * i.toNat + 2) → ¬ ltR (rk l c) (rk l d)) ∧
          (andC (bif (decide (((2 * i.toNat + 2 : Nat) : Int) < ((q.length - 1 : Nat) : Int))) then
             grd (0 ≤ ((2 * i.toNat + 2 : Nat) : Int) ∧ ((2 * i.toNat + 2 : Nat) : Int) < ((l.length : Nat) : Int)) <|
             grd ((((2 * i.toNat + 2 : Nat) : Int)).toNat < l.length) <|
             grd (0 ≤ ((2 * i.toNat + 1 : Nat) : Int) ∧ ((2 * i.toNat + 1 : Nat) : Int) < ((l.length : Nat) : Int)) <|
             grd ((((2 * i.toNat + 1 : Nat) : Int)).toNat < l.length) <|
             ((dzz ((l.getD ((((2 * i.toNat + 2 : Nat) : Int)).toNat) default).rank) ((l.getD ((((2 * i.toNat + 1 : Nat) : Int)).toNat) default).rank)).o).bind fun y104 =>
             some (.out y104)
            else
             some (.out false) : Option (Step3 Unit Bool (Step3 Unit Int (Step3 (List aza × Int) (List aza) (aza × List aza))))) fun y103 =>
           bif y103 then some (.out ((2 * i.toNat + 2 : Nat) : Int)) else some (.out ((2 * i.toNat + 1 : Nat) : Int))) = some (.out (d : Int)) := by
        by_cases hin2 : 2 * i.toNat + 2 < q.length - 1
        · (rw [az9 (by omega)]; (repeat (first | rw [azd (by omega)] | rw [azd (by simp only [List.length_set]; omega)] | rw [azd (by simp only [List.length_cons, List.length_nil, azc]; omega)] | rw [azd (by simp only [List.length_singleton, List.length_set, List.length_replicate, azc, and_true]; omega)])); rw [Int.toNat_natCast, Int.toNat_natCast])
          by_cases hlt : ltR (rk l (2 * i.toNat + 2)) (rk l (2 * i.toNat + 1))
          · rw [pz4 (.inr hlt)]
            refine ⟨2 * i.toNat + 2, .inr rfl, by omega, fun c hc h => ?_, rfl⟩
            rcases h with rfl | rfl
            · exact zzz hlt
            · unfold ltR; omega
          · rw [mzf (hpl.rk (by omega)) hlt]
            refine ⟨2 * i.toNat + 1, .inl rfl, by omega, fun c hc h => ?_, rfl⟩
            rcases h with rfl | rfl
            · unfold ltR; omega
            · exact hlt
        · rw [az7 (by omega)]
          refine ⟨2 * i.toNat + 1, .inl rfl, by omega, fun c hc h => ?_, rfl⟩
          rcases h with rfl | rfl
          · unfold ltR; omega
          · omega
      (rw [hX, azb]; (repeat (first | rw [azd (by omega)] | rw [azd (by simp only [List.length_set]; omega)] | rw [azd (by simp only [List.length_cons, List.length_nil, azc]; omega)] | rw [azd (by simp only [List.length_singleton, List.length_set, List.length_replicate, azc, and_true]; omega)])); rw [Int.toNat_natCast])
      have il : i.toNat < l.length := by omega
      by_cases hlt : ltR (rk l d) (rk l i.toNat)
      · left
        (rw [pz4 (.inr hlt), Option.bind_some, ez8 (by rfl)]; (repeat (first | rw [azd (by omega)] | rw [azd (by simp only [List.length_set]; omega)] | rw [azd (by simp only [List.length_cons, List.length_nil, azc]; omega)] | rw [azd (by simp only [List.length_singleton, List.length_set, List.length_replicate, azc, and_true]; omega)])))
        refine ⟨_, q.length - d, rfl, by omega, by simp only; omega, by simp only [Int.toNat_natCast]; omega, by simpa using ll, fun y => ?_, fun j j0 jl hj => ?_, fun j j0 jl hj hup0 => ?_⟩
        · rw [Jz4 il hdl]; exact hmem y
        · simp only [Int.toNat_natCast, List.length_set] at jl hj ⊢
          rw [sz8 il hdl, sz8 il hdl, if_neg hj]
          by_cases hjd : j = d
          · subst hjd
            rw [if_pos rfl, if_pos (by omega)]
            exact zzz hlt
          · rw [if_neg hjd]
            by_cases hji : j = i.toNat
            · rw [if_pos hji, if_neg (by omega)]
              have := hB d (by omega) hdl (by omega) (by omega)
              rw [hji]; exact this
            · rw [if_neg hji]
              by_cases hp2 : (j - 1) / 2 = i.toNat
              · rw [if_pos hp2]
                exact hdm j jl (by omega)
              · rw [if_neg hp2]
                exact hA j j0 jl hp2
        · simp only [Int.toNat_natCast, List.length_set] at jl hj hup0 ⊢
          rw [sz8 il hdl, sz8 il hdl, if_neg (by omega), if_neg (by omega), if_neg (by omega), if_pos (by omega)]
          have := hA j j0 jl (by omega)
          rw [hj] at this
          exact this
      · right
        rw [mzf (hpl.rk il) hlt, Option.bind_some, dzr (by rfl)]
        refine ⟨_, rfl, fun j j0 jl => ?_, ll, hmem⟩
        by_cases hp2 : (j - 1) / 2 = i.toNat
        · rw [hp2]
          exact zzu hlt (hdm j jl (by omega))
        · exact hA j j0 jl hp2
    · right
      rw [az7 (by omega)]
      exact ⟨_, rfl, fun j j0 jl => hA j j0 jl (by omega), ll, hmem⟩
  · refine ⟨by simp, by simp, hl0, fun y => Iff.rfl, fun j j0 jl hj => ?_, fun j j0 jl hj h => by simp at h⟩
    simp only [Int.toNat_zero] at hj jl ⊢
    have e1 : rk l0 j = rk q j := by unfold rk; rw [hg0 j (by omega), if_neg (by omega)]
    have e2 : rk l0 ((j - 1) / 2) = rk q ((j - 1) / 2) := by unfold rk; rw [hg0 _ (by omega), if_neg (by omega)]
    rw [e1, e2]
    exact hh j j0 (by omega)
theorem wzu (a0 : Int) (a1 : Int) : (fzi a0 a1).o = (iz4 a0 a1).run NN := rfl
theorem Ezr (a0 : (List Int)) : (rz7 a0).o = (rz8 a0).run NN := rfl
theorem tz8 (a0 : az1) (a1 : (Int × Int)) : (dz8 a0 a1).o = (fzy a0 a1).run NN := rfl
theorem yzs (a0 : aze) (a1 : Int) : (czm a0 a1).o = (kzj a0 a1).run NN := rfl
theorem vz1 (a0 : aze) : (ezo a0).o = (gzj a0).run NN := rfl
theorem Azs (a0 : Int) (a1 : Int) : (mz1 a0 a1).o = (mz2 a0 a1).run NN := rfl
theorem Bzq (a0 : aze) (a1 : Int) : (gz8 a0 a1).o = (oz5 a0 a1).run NN := rfl
theorem zz7 (a0 : Int) : (lzc a0).o = (lzd a0).run NN := rfl
def Ezf (n : Nat) (e : az1) : Prop := 0 ≤ e.U ∧ e.U < e.V ∧ e.V < (n : Int) ∧ 0 ≤ e.Cost ∧ e.Cost ≤ 1099511627776
def eLt (a b : az1) : Prop := a.U < b.U ∨ a.U = b.U ∧ a.V < b.V
def Pre (m : aze) (k : Nat) : Prop := ∀ j, j < k → Ezf m.Points.length (m.Edges.getD j default) ∧ (0 < j → eLt (m.Edges.getD (j - 1) default) (m.Edges.getD j default))
def WF (m : aze) : Prop := Pre m m.Edges.length
def zz0 (m : aze) : Prop := m.Points.length ≤ 100 ∧ m.Edges.length ≤ 200
theorem Bzx (a b : Int) : (fzi a b).o = some (if a < b then -1 else if a > b then 1 else 0) := by
  simp only [wzu, iz4, zz7, lzd, T.run]
  simp only [Option.bind_some, bne_self_eq_false, cond_false]
  by_cases h : a < b
  · rw [az9 h, if_pos h]
  · rw [az7 h, if_neg h]
    by_cases h2 : a > b
    · rw [az9 h2, if_pos h2]
    · rw [az7 h2, if_neg h2]
theorem Uz1 (hN : 3 ≤ NN) (a b : Int) : (rz7 [a, b]).o = some (if a ≠ 0 then a else b) := by
  obtain ⟨M, hM⟩ : ∃ M, NN = M + 3 := ⟨NN - 3, by omega⟩
  have w1 : IntKind.i64.wrap (1 : Int) = 1 := by decide
  have w2 : IntKind.i64.wrap (2 : Int) = 2 := by decide
  simp only [Ezr, rz8, T.run]; rw [hM]
  by_cases ha : a = 0
  · subst ha
    by_cases hb : b = 0
    · subst hb; simp [iter, andK, grd, w1, w2]
    · have : (b != 0) = true := by simpa using hb
      simp [iter, andK, grd, w1, this]
  · have : (a != 0) = true := by simpa using ha
    simp [iter, andK, grd, this, ha]
theorem nz6 (hN : 3 ≤ NN) (e : az1) (u v : Int) : ∃ c, (dz8 e (u, v)).o = some c ∧ (c < 0 ↔ e.U < u ∨ e.U = u ∧ e.V < v) ∧ (c = 0 ↔ e.U = u ∧ e.V = v) := by
  simp only [tz8, fzy, T.run]
  ((repeat (first | rw [azd (by omega)] | rw [azd (by simp only [List.length_set]; omega)] | rw [azd (by simp only [List.length_cons, List.length_nil, azc]; omega)] | rw [azd (by simp only [List.length_singleton, List.length_set, List.length_replicate, azc, and_true]; omega)])); rw [Bzx, Option.bind_some]; (repeat (first | rw [azd (by omega)] | rw [azd (by simp only [List.length_set]; omega)] | rw [azd (by simp only [List.length_cons, List.length_nil, azc]; omega)] | rw [azd (by simp only [List.length_singleton, List.length_set, List.length_replicate, azc, and_true]; omega)])); rw [Bzx, Option.bind_some, Uz1 hN, Option.bind_some])
  refine ⟨_, rfl, ?_⟩
  by_cases h1 : e.U < u
  · rw [if_pos h1]; simp; omega
  · rw [if_neg h1]
    by_cases h2 : e.U > u
    · rw [if_pos h2]; simp; omega
    · rw [if_neg h2, if_neg (by omega)]
      by_cases h3 : e.V < v
      · rw [if_pos h3]; omega
      · rw [if_neg h3]
        by_cases h4 : e.V > v
        · rw [if_pos h4]; omega
        · rw [if_neg h4]; omega
theorem lz1 (m : aze) (v : Int) : (czm m v).o = some (decide (0 ≤ v ∧ v < (m.Points.length : Int))) := by
  simp only [yzs, kzj, T.run]
  by_cases h : v ≥ 0
  · rw [az9 h]; simp [show 0 ≤ v from h]
  · rw [az7 h]; simp; omega
theorem Ezd (m : aze) (hs : zz0 m) (hN : 1000 ≤ NN) : ∃ b, (ezo m).o = some b ∧ (b = true ↔ WF m) := by
  obtain ⟨hs1, hs2⟩ := hs
  simp only [vz1, gzj, T.run]
  rw [az7 (by omega), azb, az7 (by omega)]
  refine xz5 (fun k (x : Int) => ∃ i : Nat, x = (i : Int) ∧ i + k = m.Edges.length ∧ Pre m i) (fun _ => WF m) m.Edges.length ⟨0, rfl, by omega, fun j hj => by omega⟩ (by omega) ?_ (fun _ h => ⟨true, rfl, by simp [h]⟩)
  rintro k x ⟨i, rfl, hi, hpre⟩
  by_cases hlt : i < m.Edges.length
  · (rw [az9 (by omega)]; (repeat (first | rw [azd (by omega)] | rw [azd (by simp only [List.length_set]; omega)] | rw [azd (by simp only [List.length_cons, List.length_nil, azc]; omega)] | rw [azd (by simp only [List.length_singleton, List.length_set, List.length_replicate, azc, and_true]; omega)])); rw [Int.toNat_natCast])
    have hno : ¬ Ezf m.Points.length (m.Edges.getD i default) → ¬ WF m := fun h hw => h (hw i hlt).1
    by_cases hok : Ezf m.Points.length (m.Edges.getD i default)
    · obtain ⟨o1, o2, o3, o4, o5⟩ := hok
      rw [lz1, Option.bind_some, szu (by simp only; omega), lz1, Option.bind_some, szu (by simp only; omega), az7 (by omega), az7 (by omega), azb, az7 (by omega)]
      by_cases h0 : i = 0
      · subst h0
        rw [az7 (by simp), azb, ez8 (by rfl), w64n (by omega)]
        refine .inl ⟨_, k - 1, rfl, by omega, 1, rfl, by omega, fun j hj => ?_⟩
        have hj0 : j = 0 := by omega
        subst hj0
        exact ⟨⟨o1, o2, o3, o4, o5⟩, fun h => absurd h (by omega)⟩
      · have hw : IntKind.i64.wrap ((i : Int) - 1) = ((i - 1 : Nat) : Int) := by rw [w64 (by omega) (by omega)]; omega
        (rw [az9 (by omega), hw]; (repeat (first | rw [azd (by omega)] | rw [azd (by simp only [List.length_set]; omega)] | rw [azd (by simp only [List.length_cons, List.length_nil, azc]; omega)] | rw [azd (by simp only [List.length_singleton, List.length_set, List.length_replicate, azc, and_true]; omega)])); rw [Int.toNat_natCast])
        obtain ⟨c, hc, hc1, hc2⟩ := nz6 (by omega) (m.Edges.getD (i - 1) default) (m.Edges.getD i default).U (m.Edges.getD i default).V
        rw [hc, Option.bind_some, azb]
        by_cases hcl : c < 0
        · rw [az7 (by omega), w64n (by omega)]
          refine .inl ⟨_, k - 1, rfl, by omega, i + 1, rfl, by omega, fun j hj => ?_⟩
          by_cases hji : j = i
          · subst hji; exact ⟨⟨o1, o2, o3, o4, o5⟩, fun _ => hc1.1 hcl⟩
          · exact hpre j (by omega)
        · rw [az9 (by omega)]
          refine .inr (.inr ⟨_, rfl, ?_⟩)
          simp only [Bool.false_eq_true, false_iff]
          intro hw
          exact hcl (hc1.2 ((hw i hlt).2 (by omega)))
    · have hnw := hno hok
      refine .inr (.inr ⟨false, ?_, by simp [hnw]⟩)
      unfold Ezf at hok
      rw [lz1, Option.bind_some]
      by_cases h1 : 0 ≤ (m.Edges.getD i default).U ∧ (m.Edges.getD i default).U < (m.Points.length : Int)
      · rw [szu h1, lz1, Option.bind_some]
        by_cases h2 : 0 ≤ (m.Edges.getD i default).V ∧ (m.Edges.getD i default).V < (m.Points.length : Int)
        · rw [szu h2]
          by_cases h3 : (m.Edges.getD i default).U ≥ (m.Edges.getD i default).V
          · rw [az9 h3, azb, dzr (by rfl)]
          · rw [az7 h3]
            by_cases h4 : (m.Edges.getD i default).Cost < 0
            · rw [az9 h4, azb, dzr (by rfl)]
            · rw [az7 h4, azb, az9 (by omega)]
        · rw [yzv h2, azb, dzr (by rfl)]
      · rw [yzv h1, azb, dzr (by rfl)]
  · rw [az7 (by omega)]
    refine .inr (.inl ⟨_, rfl, ?_⟩)
    have : i = m.Edges.length := by omega
    subst this; exact hpre
def Bz0 (s mode : Int) : Bool := if mode = 0 then s == 1 else if mode = 1 then (s == 1 || s == 0) else if mode = 2 then s != 2 else false
theorem Nz3 (s mode : Int) : (mz1 s mode).o = some (Bz0 s mode) := by
  simp only [Azs, mz2, T.run]; unfold Bz0
  by_cases h0 : mode = 0
  · rw [dzr (by simpa using h0), if_pos h0]
  · rw [ez8 (by simpa using h0), if_neg h0]
    by_cases h1 : mode = 1
    · rw [dzr (by simpa using h1), if_pos h1]
      cases s == 1 <;> rfl
    · rw [ez8 (by simpa using h1), if_neg h1]
      by_cases h2 : mode = 2
      · rw [dzr (by simpa using h2), if_pos h2]
      · rw [ez8 (by simpa using h2), if_neg h2]
def Eg (m : aze) (mode u v c : Int) : Prop := ∃ i, i < m.Edges.length ∧ Bz0 (m.Edges.getD i default).State mode = true ∧ (m.Edges.getD i default).Cost = c ∧ ((m.Edges.getD i default).U = u ∧ (m.Edges.getD i default).V = v ∨ (m.Edges.getD i default).U = v ∧ (m.Edges.getD i default).V = u)
theorem Eg.graph {m : aze} (h : WF m) (mode : Int) : Graph (Eg m mode) m.Points.length 1099511627776 := by
  refine ⟨fun u v c ⟨i, h1, h2, h3, h4⟩ => ⟨i, h1, h2, h3, h4.symm⟩, fun u v c ⟨i, h1, h2, h3, h4⟩ => ?_, fun u v c ⟨i, h1, h2, h3, h4⟩ => ?_⟩
  · obtain ⟨_, _, _, h5, h6⟩ := (h i h1).1; omega
  · obtain ⟨_, _, _, h5, h6⟩ := (h i h1).1; omega
theorem WF.lt {m : aze} (h : WF m) {i j : Nat} (hij : i < j) (hj : j < m.Edges.length) : eLt (m.Edges.getD i default) (m.Edges.getD j default) := by
  induction j with
  | zero => omega
  | succ j ih =>
    have h1 := (h (j + 1) hj).2 (by omega)
    rw [show j + 1 - 1 = j by omega] at h1
    by_cases he : i = j
    · subst he; exact h1
    · have := ih (by omega) (by omega)
      unfold eLt at *; omega
theorem WF.one {m : aze} (h : WF m) {i j : Nat} (hi : i < m.Edges.length) (hj : j < m.Edges.length) (hu : (m.Edges.getD i default).U = (m.Edges.getD j default).U) (hv : (m.Edges.getD i default).V = (m.Edges.getD j default).V) : i = j := by
  rcases Nat.lt_trichotomy i j with hlt | he | hlt
  · have := h.lt hlt hj; unfold eLt at this; omega
  · exact he
  · have := h.lt hlt hi; unfold eLt at this; omega
def lk (mode v : Int) (e : az1) : List az8 := if Bz0 e.State mode = true then (if e.U = v then [⟨e.V, e.Cost⟩] else if e.V = v then [⟨e.U, e.Cost⟩] else []) else []
def uzk (es : List az1) (mode v : Int) : List az8 := es.flatMap (lk mode v)
theorem Cz6 (es : List az1) (e : az1) (mode v : Int) : uzk (es ++ [e]) mode v = uzk es mode v ++ lk mode v e := by simp [uzk]
theorem zzw (es : List az1) (mode v : Int) : (uzk es mode v).length ≤ es.length := by
  induction es with
  | nil => simp [uzk]
  | cons e es ih =>
    have : (lk mode v e).length ≤ 1 := by
      unfold lk; split
      · split
        · simp
        · split <;> simp
      · simp
    simp only [uzk, List.flatMap_cons, List.length_append, List.length_cons] at ih ⊢
    omega
theorem Oza (m : aze) (mode : Int) (hs : zz0 m) (hw : WF m) (hN : 1000 ≤ NN) :
    ∃ L, (gz8 m mode).o = some L ∧ L.length = m.Points.length ∧ ∀ v, v < m.Points.length → L.getD v default = uzk m.Edges mode v := by
  obtain ⟨hs1, hs2⟩ := hs
  simp only [Bzq, oz5, T.run]
  ((repeat (first | rw [azd (by omega)] | rw [azd (by simp only [List.length_set]; omega)] | rw [azd (by simp only [List.length_cons, List.length_nil, azc]; omega)] | rw [azd (by simp only [List.length_singleton, List.length_set, List.length_replicate, azc, and_true]; omega)])))
  refine Fzm (fun k (x : List (List az8) × Int) => ∃ i : Nat, x.2 = (i : Int) ∧ i + k = m.Edges.length ∧ x.1.length = m.Points.length ∧ ∀ v, v < m.Points.length → x.1.getD v default = uzk (m.Edges.take i) mode v)
    (fun L => L.length = m.Points.length ∧ ∀ v, v < m.Points.length → L.getD v default = uzk m.Edges mode v) m.Edges.length ⟨0, rfl, by omega, by simp, fun v hv => ?_⟩ (by omega) ?_ (fun L h => ⟨L, rfl, h⟩)
  · simp [List.getD_eq_getElem?_getD, hv, uzk, nl]
  · rintro k ⟨L, x⟩ ⟨i, hx, hi, hL, hlk⟩
    simp only at hx hL hlk
    subst hx
    simp only
    by_cases hlt : i < m.Edges.length
    · (rw [az9 (by omega)]; (repeat (first | rw [azd (by omega)] | rw [azd (by simp only [List.length_set]; omega)] | rw [azd (by simp only [List.length_cons, List.length_nil, azc]; omega)] | rw [azd (by simp only [List.length_singleton, List.length_set, List.length_replicate, azc, and_true]; omega)])); rw [Int.toNat_natCast, Nz3, Option.bind_some])
      obtain ⟨o1, o2, o3, o4, o5⟩ := (hw i hlt).1
      have htake := Azx hlt
      left
      by_cases hu : Bz0 (m.Edges.getD i default).State mode = true
      · rw [dzr hu]
        have hlenU : (L.getD (m.Edges.getD i default).U.toNat default).length ≤ m.Edges.length := by
          rw [hlk _ (by omega)]; have := zzw (m.Edges.take i) mode (((m.Edges.getD i default).U.toNat : Nat) : Int); simp at this ⊢; omega
        have hlenV : (L.getD (m.Edges.getD i default).V.toNat default).length ≤ m.Edges.length := by
          rw [hlk _ (by omega)]; have := zzw (m.Edges.take i) mode (((m.Edges.getD i default).V.toNat : Nat) : Int); simp at this ⊢; omega
        ((repeat (first | rw [azd (by omega)] | rw [azd (by simp only [List.length_set]; omega)] | rw [azd (by simp only [List.length_cons, List.length_nil, azc]; omega)] | rw [azd (by simp only [List.length_singleton, List.length_set, List.length_replicate, azc, and_true]; omega)])))
        rw [uzi (i := (m.Edges.getD i default).U.toNat) (k := (m.Edges.getD i default).V.toNat) (by omega), if_neg (by omega)]
        (rw [List.length_set]; (repeat (first | rw [azd (by omega)] | rw [azd (by simp only [List.length_set]; omega)] | rw [azd (by simp only [List.length_cons, List.length_nil, azc]; omega)] | rw [azd (by simp only [List.length_singleton, List.length_set, List.length_replicate, azc, and_true]; omega)])); rw [azb, w64n (by omega)])
        refine ⟨_, k - 1, rfl, by omega, i + 1, rfl, by omega, by simpa using hL, fun v hv => ?_⟩
        simp only
        rw [uzi (by rw [List.length_set]; omega), uzi (by omega), htake, Cz6, ← hlk v hv]
        by_cases h1 : v = (m.Edges.getD i default).V.toNat
        · rw [if_pos h1]
          unfold lk
          rw [if_pos hu, if_neg (by omega), if_pos (by omega), h1]
        · rw [if_neg h1]
          by_cases h2 : v = (m.Edges.getD i default).U.toNat
          · rw [if_pos h2]
            unfold lk
            rw [if_pos hu, if_pos (by omega), h2]
          · rw [if_neg h2]
            unfold lk
            rw [if_pos hu, if_neg (by omega), if_neg (by omega), List.append_nil]
      · rw [ez8 (by simpa using hu), azb, w64n (by omega)]
        refine ⟨_, k - 1, rfl, by omega, i + 1, rfl, by omega, hL, fun v hv => ?_⟩
        simp only
        rw [htake, Cz6, ← hlk v hv]
        unfold lk
        rw [if_neg hu, List.append_nil]
    · right
      rw [az7 (by omega)]
      refine ⟨_, rfl, hL, fun v hv => ?_⟩
      rw [hlk v hv, Pzd (by omega)]
theorem Lzz {m : aze} (h : WF m) {mode v w c : Int} : (⟨w, c⟩ : az8) ∈ uzk m.Edges mode v ↔ Eg m mode v w c := by
  unfold uzk
  rw [List.mem_flatMap]
  constructor
  · rintro ⟨e, he, hl⟩
    obtain ⟨i, hi, rfl⟩ := mem_getD.1 he
    obtain ⟨o1, o2, o3, o4, o5⟩ := (h i hi).1
    unfold lk at hl
    split at hl
    · rename_i hu
      split at hl
      · rename_i h1
        simp at hl
        exact ⟨i, hi, hu, hl.2.symm, .inl ⟨h1, hl.1.symm⟩⟩
      · split at hl
        · rename_i h1 h2
          simp at hl
          exact ⟨i, hi, hu, hl.2.symm, .inr ⟨hl.1.symm, h2⟩⟩
        · simp at hl
    · simp at hl
  · rintro ⟨i, hi, hu, hc, huv⟩
    obtain ⟨o1, o2, o3, o4, o5⟩ := (h i hi).1
    refine ⟨(m.Edges.getD i default), mem_getD.2 ⟨i, hi, rfl⟩, ?_⟩
    unfold lk
    rw [if_pos hu]
    rcases huv with ⟨h1, h2⟩ | ⟨h1, h2⟩
    · rw [if_pos h1, h2, hc]; exact List.mem_singleton.2 rfl
    · rw [if_neg (by omega), if_pos h2, h1, hc]; exact List.mem_singleton.2 rfl
theorem Fzk {m : aze} (h : WF m) (mode v : Int) : (uzk m.Edges mode v).Pairwise (fun a b => a.to < b.to) := by
  have hp : m.Edges.Pairwise (fun a b => eLt a b ∧ a.U < a.V ∧ b.U < b.V) := by
    rw [List.pairwise_iff_getElem]
    intro i j hi hj hij
    have h1 := h.lt hij hj
    have h2 := (h i hi).1
    have h3 := (h j hj).1
    simp only [List.getD_eq_getElem?_getD, List.getElem?_eq_getElem hi, List.getElem?_eq_getElem hj, Option.getD_some] at h1 h2 h3
    exact ⟨h1, h2.2.1, h3.2.1⟩
  unfold uzk
  generalize m.Edges = es at hp
  induction es with
  | nil => simp
  | cons e es ih =>
    rw [List.pairwise_cons] at hp
    rw [List.flatMap_cons, List.pairwise_append]
    refine ⟨?_, ih hp.2, fun a ha b hb => ?_⟩
    · unfold lk; split
      · split
        · simp
        · split <;> simp
      · simp
    · rw [List.mem_flatMap] at hb
      obtain ⟨e', he', hb⟩ := hb
      obtain ⟨h1, h2, h3⟩ := hp.1 e' he'
      unfold eLt at h1
      unfold lk at ha hb
      split at ha
      · split at hb
        · split at ha
          · split at hb
            · simp at ha hb; subst ha; subst hb; simp only; omega
            · split at hb
              · simp at ha hb; subst ha; subst hb; simp only; omega
              · simp at hb
          · split at ha
            · split at hb
              · simp at ha hb; subst ha; subst hb; simp only; omega
              · split at hb
                · simp at ha hb; subst ha; subst hb; simp only; omega
                · simp at hb
            · simp at ha
        · simp at hb
      · simp at ha
abbrev rkv (R : List az6) (v : Int) : az6 := R.getD v.toNat default
abbrev leR (a b : az6) : Prop := a.cost < b.cost ∨ a.cost = b.cost ∧ a.points ≤ b.points
theorem Iz1 {R : List az6} {q v : Int} {x : az6} (hq : 0 ≤ q ∧ q < (R.length : Int)) (hv : 0 ≤ v) : rkv (R.set q.toNat x) v = if v = q then x else rkv R v := by
  unfold rkv
  rw [uzi (by omega)]
  by_cases h : v = q
  · subst h; rw [if_pos rfl, if_pos rfl]
  · rw [if_neg (by omega), if_neg h]
def rest (d : Nat → Nat) (S : Nat → Bool) : Nat → Nat
  | 0 => 0
  | n + 1 => rest d S n + if S n = true then 0 else d n
theorem Azm {d : Nat → Nat} {S S' : Nat → Bool} : ∀ {n : Nat}, (∀ i, i < n → S' i = S i) → rest d S' n = rest d S n
  | 0, _ => rfl
  | n + 1, h => by simp only [rest]; rw [Azm (fun i hi => h i (by omega)), h n (by omega)]
theorem Jze {d : Nat → Nat} {S : Nat → Bool} {v : Nat} (hv : S v = false) : ∀ {n : Nat}, v < n → rest d (fun i => i == v || S i) n + d v = rest d S n
  | 0, h => by omega
  | n + 1, h => by
    simp only [rest]
    by_cases e : n = v
    · subst e
      rw [Azm (S := S) (fun i hi => by have : (i == n) = false := by simp; omega
                                       simp [this])]
      simp [hv]
    · have := Jze (d := d) hv (n := n) (by omega)
      have h2 : (n == v) = false := by simpa using e
      simp only [h2, Bool.false_or]
      omega
theorem Hzz {d : Nat → Nat} {S : Nat → Bool} {B : Nat} (h : ∀ i, d i ≤ B) : ∀ (n : Nat), rest d S n ≤ n * B
  | 0 => by simp [rest]
  | n + 1 => by
    have := Hzz (S := S) h n
    have := h n
    simp only [rest, Nat.succ_mul]
    split <;> omega
section
variable (E : Int → Int → Int → Prop) (t fr : Int) (L : List (List az8))
structure DInv (R : List az6) (q : List aza) (S : Nat → Bool) (V : Int → Int → Int → Prop) : Prop where
  len : R.length = L.length
  walk : ∀ v : Int, 0 ≤ v → v < (L.length : Int) → (rkv R v).points = 0 ∨ (1 ≤ (rkv R v).points ∧ Walk E t v (rkv R v).cost ((rkv R v).points - 1))
  few : ∀ v : Int, 0 ≤ v → v < (L.length : Int) → (rkv R v).points ≤ L.length + 1
  src : rkv R t = ⟨0, 1⟩
  best : ∀ v : Int, 0 ≤ v → v < (L.length : Int) → S v.toNat = true → Best E t v (rkv R v).cost ((rkv R v).points - 1) ∧ 1 ≤ (rkv R v).points
  relaxed : ∀ v w c : Int, 0 ≤ v → v < (L.length : Int) → S v.toNat = true → V v w c → 1 ≤ (rkv R w).points ∧ leR (rkv R w) ⟨(rkv R v).cost + c, (rkv R v).points + 1⟩
  queued : ∀ v : Int, 0 ≤ v → v < (L.length : Int) → 1 ≤ (rkv R v).points → S v.toNat = false → (⟨rkv R v, v⟩ : aza) ∈ q
  entry : ∀ e ∈ q, 0 ≤ e.point ∧ e.point < (L.length : Int) ∧ 1 ≤ e.rank.points ∧ 1 ≤ (rkv R e.point).points ∧ leR (rkv R e.point) e.rank
  low : ∀ v : Int, 0 ≤ v → v < (L.length : Int) → S v.toNat = true → ∀ e ∈ q, leR (rkv R v) e.rank
  heap : Heap q
  notFrom : S fr.toNat = false
end
variable {E : Int → Int → Int → Prop} {t fr C : Int} {L : List (List az8)}
theorem DInv.pts {R : List az6} {q : List aza} {S : Nat → Bool} {V : Int → Int → Int → Prop} (h : DInv E t fr L R q S V) : Pts q := fun y hy => (h.entry y hy).2.2.1
theorem DInv.key (g : Graph E L.length C) (ht : 0 ≤ t ∧ t < (L.length : Int)) {R : List az6} {q : List aza} {S : Nat → Bool} (h : DInv E t fr L R q S E) :
    ∀ (k : Nat) (w c : Int), Best E t w c (k : Int) → S w.toNat = true ∨ ∃ e ∈ q, leR e.rank ⟨c, k + 1⟩ := by
  intro k
  induction k with
  | zero =>
    intro w c hb
    obtain ⟨rfl, rfl⟩ := hb.1.zero g (by omega)
    cases hs : S w.toNat with
    | true => exact .inl rfl
    | false =>
      have hp : 1 ≤ (rkv R w).points := by rw [h.src]; decide
      refine .inr ⟨_, h.queued w ht.1 ht.2 hp hs, ?_⟩
      rw [h.src]; exact .inr ⟨rfl, by simp⟩
  | succ k ih =>
    intro w c hb
    obtain ⟨u, e, he, hbu⟩ := hb.step (by omega)
    have hlt := g.lt _ _ _ he
    have hce := g.cost _ _ _ he
    rw [show ((k + 1 : Nat) : Int) - 1 = (k : Int) by omega] at hbu
    rcases ih u (c - e) hbu with hs | ⟨y, hy, hle⟩
    · have h1 := h.relaxed u w e hlt.2.2.1 hlt.2.2.2 hs (g.sym _ _ _ he)
      have h2 := h.best u hlt.2.2.1 hlt.2.2.2 hs
      have h3 := h2.1.unique hbu
      cases hsw : S w.toNat with
      | true => exact .inl rfl
      | false =>
        refine .inr ⟨_, h.queued w hlt.1 hlt.2.1 h1.1 hsw, ?_⟩
        simp only [leR] at h1 ⊢
        omega
    · refine .inr ⟨y, hy, ?_⟩
      simp only [leR] at hle ⊢
      omega
theorem DInv.first (g : Graph E L.length C) (ht : 0 ≤ t ∧ t < (L.length : Int)) {R : List az6} {q : List aza} {S : Nat → Bool} (h : DInv E t fr L R q S E) {v : Int} (hv : 0 ≤ v ∧ v < (L.length : Int))
    {r : az6} (hr : rkv R v = r) (hset : 1 ≤ r.points) (hmin : ∀ y ∈ q, ¬ ltR y.rank r) : Best E t v r.cost (r.points - 1) := by
  obtain ⟨hp, hw⟩ := (h.walk v hv.1 hv.2).resolve_left (by rw [hr]; omega)
  rw [hr] at hw
  obtain ⟨c, k, hb⟩ := Best.exists g hw
  have h0 := hb.1.ge g
  have h1 := hb.2 _ _ hw
  obtain ⟨k', rfl⟩ : ∃ k' : Nat, k = k' := ⟨k.toNat, by omega⟩
  rcases h.key g ht k' v c hb with hs | ⟨y, hy, hle⟩
  · have := (h.best v hv.1 hv.2 hs).1
    rw [hr] at this; exact this
  · have h2 := hmin y hy
    unfold ltR at h2
    simp only [leR] at hle
    have e1 : r.cost = c := by omega
    have e2 : r.points - 1 = k' := by omega
    rw [e1, e2]; exact hb
theorem DInv.settled (g : Graph E L.length C) (ht : 0 ≤ t ∧ t < (L.length : Int)) {R : List az6} {q : List aza} {S : Nat → Bool} (h : DInv E t fr L R q S E) {w c k : Int} (hb : Best E t w c k)
    (hmin : ∀ y ∈ q, ltR ⟨c, k + 1⟩ y.rank) : rkv R w = ⟨c, k + 1⟩ := by
  have h0 := hb.1.ge g
  have hw := hb.1.lt g ht
  obtain ⟨k', rfl⟩ : ∃ k' : Nat, k = k' := ⟨k.toNat, by omega⟩
  rcases h.key g ht k' w c hb with hs | ⟨y, hy, hle⟩
  · obtain ⟨h1, h2⟩ := h.best w hw.1 hw.2 hs
    have := h1.unique hb
    generalize rkv R w = z at this
    obtain ⟨z1, z2⟩ := z
    simp only at this
    rw [this.1, show z2 = (k' : Int) + 1 by omega]
  · have := hmin y hy
    unfold ltR at this
    simp only [leR] at this hle
    omega
theorem DInv.relax (g : Graph E L.length C) {R : List az6} {q q' : List aza} {S : Nat → Bool} {V : Int → Int → Int → Prop} (hV : ∀ v w c, V v w c → E v w c) (h : DInv E t fr L R q S V) {v w c : Int}
    (ht : 0 ≤ t ∧ t < (L.length : Int)) (hs : S v.toNat = true) (he : E v w c) (hbet : (rkv R w).points = 0 ∨ ltR ⟨(rkv R v).cost + c, (rkv R v).points + 1⟩ (rkv R w)) (hh : Heap q')
    (hq' : ∀ y, y ∈ q' ↔ (y ∈ q ∨ y = ⟨⟨(rkv R v).cost + c, (rkv R v).points + 1⟩, w⟩)) (hlow : ∀ u : Int, 0 ≤ u → u < (L.length : Int) → S u.toNat = true → leR (rkv R u) (rkv R v)) :
    DInv E t fr L (R.set w.toNat ⟨(rkv R v).cost + c, (rkv R v).points + 1⟩) q' S (fun a b d => V a b d ∨ (a = v ∧ b = w ∧ d = c)) ∧ w ≠ v ∧ S w.toNat = false := by
  have hlt := g.lt _ _ _ he
  have hce := g.cost _ _ _ he
  obtain ⟨hbv, hpv⟩ := h.best v hlt.1 hlt.2.1 hs
  have hww : Walk E t w ((rkv R v).cost + c) ((rkv R v).points - 1 + 1) := .cons (g.sym _ _ _ he) hbv.1
  have hnot : S w.toNat = false := by
    cases hsw : S w.toNat with
    | false => rfl
    | true =>
      obtain ⟨b1, b2⟩ := h.best w hlt.2.2.1 hlt.2.2.2 hsw
      have := b1.2 _ _ hww
      unfold ltR at hbet
      simp only at hbet
      omega
  have hwv : w ≠ v := fun e => by rw [e, hs] at hnot; cases hnot
  have hset : ∀ u : Int, 0 ≤ u → rkv (R.set w.toNat ⟨(rkv R v).cost + c, (rkv R v).points + 1⟩) u = if u = w then ⟨(rkv R v).cost + c, (rkv R v).points + 1⟩ else rkv R u := fun u hu => Iz1 ⟨hlt.2.2.1, by have := h.len; omega⟩ hu
  have hS : ∀ u : Int, 0 ≤ u → S u.toNat = true → rkv (R.set w.toNat ⟨(rkv R v).cost + c, (rkv R v).points + 1⟩) u = rkv R u := fun u hu hsu => by
    rw [hset u hu, if_neg (fun e => by subst e; rw [hnot] at hsu; cases hsu)]
  have hmono : ∀ u : Int, 0 ≤ u → 1 ≤ (rkv R u).points → 1 ≤ (rkv (R.set w.toNat ⟨(rkv R v).cost + c, (rkv R v).points + 1⟩) u).points ∧ leR (rkv (R.set w.toNat ⟨(rkv R v).cost + c, (rkv R v).points + 1⟩) u) (rkv R u) := fun u hu hp => by
    rw [hset u hu]
    by_cases e : u = w
    · subst e
      rw [if_pos rfl]
      unfold ltR at hbet
      simp only [leR] at hbet ⊢
      omega
    · rw [if_neg e]; exact ⟨hp, .inr ⟨rfl, Int.le_refl _⟩⟩
  refine ⟨⟨by simpa using h.len, fun u h0 h1 => ?_, fun u h0 h1 => ?_, ?_, fun u h0 h1 hsu => ?_, fun u x d h0 h1 hsu hv => ?_, fun u h0 h1 hp hsu => ?_, fun y hy => ?_, fun u h0 h1 hsu y hy => ?_, hh, h.notFrom⟩, hwv, hnot⟩
  · rw [hset u h0]
    by_cases e : u = w
    · subst e
      rw [if_pos rfl]
      refine .inr ⟨by simp only; omega, ?_⟩
      have : (rkv R v).points - 1 + 1 = (rkv R v).points + 1 - 1 := by omega
      rw [this] at hww
      exact hww
    · rw [if_neg e]; exact h.walk u h0 h1
  · rw [hset u h0]
    by_cases e : u = w
    · rw [if_pos e]
      have := hbv.few g ht
      simp only; omega
    · rw [if_neg e]; exact h.few u h0 h1
  · rw [hset t ht.1, if_neg (fun e => ?_)]
    · exact h.src
    · subst e
      rw [h.src] at hbet
      have h0 := hbv.1.ge g
      unfold ltR at hbet
      simp only at hbet
      omega
  · rw [hS u h0 hsu]; exact h.best u h0 h1 hsu
  · rw [hS u h0 hsu]
    rcases hv with hv | ⟨rfl, rfl, rfl⟩
    · have h2 := h.relaxed u x d h0 h1 hsu hv
      have hx := (g.lt _ _ _ (hV _ _ _ hv)).2.2.1
      have h3 := hmono x hx h2.1
      refine ⟨h3.1, ?_⟩
      have h4 := h2.2
      have h5 := h3.2
      simp only [leR] at h4 h5 ⊢
      omega
    · rw [hset x hlt.2.2.1, if_pos rfl]
      exact ⟨by simp only; omega, .inr ⟨rfl, Int.le_refl _⟩⟩
  · rw [hset u h0] at hp ⊢
    by_cases e : u = w
    · rw [if_pos e]; exact (hq' _).2 (.inr (by rw [e]))
    · rw [if_neg e] at hp ⊢; exact (hq' _).2 (.inl (h.queued u h0 h1 hp hsu))
  · rcases (hq' y).1 hy with hy | rfl
    · obtain ⟨e1, e2, e3, e4, e5⟩ := h.entry y hy
      have h3 := hmono y.point e1 e4
      refine ⟨e1, e2, e3, h3.1, ?_⟩
      have h5 := h3.2
      simp only [leR] at h5 e5 ⊢
      omega
    · refine ⟨hlt.2.2.1, hlt.2.2.2, by simp only; omega, ?_⟩
      simp only
      rw [hset w hlt.2.2.1, if_pos rfl]
      exact ⟨by simp only; omega, .inr ⟨rfl, Int.le_refl _⟩⟩
  · rw [hS u h0 hsu]
    rcases (hq' y).1 hy with hy | rfl
    · exact h.low u h0 h1 hsu y hy
    · have := hlow u h0 h1 hsu
      simp only [leR] at this ⊢
      omega
theorem DInv.skip {R : List az6} {q : List aza} {S : Nat → Bool} {V : Int → Int → Int → Prop} (h : DInv E t fr L R q S V) {v w c : Int}
    (hbet : ¬ ((rkv R w).points = 0 ∨ ltR ⟨(rkv R v).cost + c, (rkv R v).points + 1⟩ (rkv R w))) (hw : 0 ≤ w ∧ w < (L.length : Int)) :
    DInv E t fr L R q S (fun a b d => V a b d ∨ (a = v ∧ b = w ∧ d = c)) := by
  refine ⟨h.len, h.walk, h.few, h.src, h.best, fun u x d h0 h1 hsu hv => ?_, h.queued, h.entry, h.low, h.heap, h.notFrom⟩
  rcases hv with hv | ⟨rfl, rfl, rfl⟩
  · exact h.relaxed u x d h0 h1 hsu hv
  · have := h.walk x hw.1 hw.2
    unfold ltR at hbet
    simp only [leR] at hbet ⊢
    omega
theorem DInv.congr {R : List az6} {q : List aza} {S : Nat → Bool} {V V' : Int → Int → Int → Prop} (h : DInv E t fr L R q S V) (hv : ∀ a b d, S a.toNat = true → V' a b d → V a b d) : DInv E t fr L R q S V' :=
  ⟨h.len, h.walk, h.few, h.src, h.best, fun u x d h0 h1 hsu hv' => h.relaxed u x d h0 h1 hsu (hv _ _ _ hsu hv'), h.queued, h.entry, h.low, h.heap, h.notFrom⟩
theorem vz0 (a0 : az8) (a1 : (List az6)) (a2 : Int) : (dzo a0 a1 a2).o = (gzi a0 a1 a2).run NN := rfl
theorem ezw (a0 : (List az8)) (a1 : (List az6)) (a2 : Int) : (bz6 a0 a1 a2).o = (bzl a0 a1 a2).run NN := rfl
theorem xzo (a0 : (List (List az8))) (a1 : Int) (a2 : Int) : (dzk a0 a1 a2).o = (izs a0 a1 a2).run NN := rfl
structure Lks (E : Int → Int → Int → Prop) (L : List (List az8)) : Prop where
  graph : Graph E L.length 1099511627776
  mem : ∀ v w c : Int, 0 ≤ v → v < (L.length : Int) → ((⟨w, c⟩ : az8) ∈ L.getD v.toNat default ↔ E v w c)
  few : ∀ i, (L.getD i default).length ≤ 200
  len : L.length ≤ 100
  sorted : ∀ i, i < L.length → (L.getD i default).Pairwise (fun a b => a.to < b.to)
def Tzq (E : Int → Int → Int → Prop) (t fr : Int) (L : List (List az8)) (R : List az6) : Prop :=
  R.length = L.length ∧ (∀ v : Int, 0 ≤ v → v < (L.length : Int) → (rkv R v).points = 0 ∨ (1 ≤ (rkv R v).points ∧ Walk E t v (rkv R v).cost ((rkv R v).points - 1))) ∧
  (∀ v : Int, 0 ≤ v → v < (L.length : Int) → (rkv R v).points ≤ L.length + 1) ∧
  ∀ c k, Best E t fr c k → rkv R fr = ⟨c, k + 1⟩ ∧ ∀ w c' k', Best E t w c' k' → (c' < c ∨ c' = c ∧ k' < k) → rkv R w = ⟨c', k' + 1⟩
variable {E : Int → Int → Int → Prop} {t fr : Int} {L : List (List az8)}
theorem DInv.drop {R : List az6} {q q1 : List aza} {S : Nat → Bool} {V : Int → Int → Int → Prop} {x : aza} (h : DInv E t fr L R q S V) (h1 : ∀ y ∈ q1, y ∈ q) (h2 : ∀ y ∈ q, y = x ∨ y ∈ q1) (hh : Heap q1)
    (hx : rkv R x.point ≠ x.rank) : DInv E t fr L R q1 S V :=
  ⟨h.len, h.walk, h.few, h.src, h.best, h.relaxed, fun v h0 hl hp hs => (h2 _ (h.queued v h0 hl hp hs)).resolve_left (fun e => hx (by rw [← e])), fun y hy => h.entry y (h1 y hy), fun v h0 hl hs y hy => h.low v h0 hl hs y (h1 y hy), hh, h.notFrom⟩
theorem DInv.settle (g : Graph E L.length 1099511627776) (ht : 0 ≤ t ∧ t < (L.length : Int)) (hf : 0 ≤ fr) {R : List az6} {q q1 : List aza} {S : Nat → Bool} {x : aza} (h : DInv E t fr L R q S E) (hxq : x ∈ q) (h1 : ∀ y ∈ q1, y ∈ q) (h2 : ∀ y ∈ q, y = x ∨ y ∈ q1) (hh : Heap q1)
    (hx : rkv R x.point = x.rank) (hmin : ∀ y ∈ q, ¬ ltR y.rank x.rank) (hxf : x.point ≠ fr) :
    DInv E t fr L R q1 (fun i => i == x.point.toNat || S i) (fun a b d => S a.toNat = true ∧ E a b d) := by
  obtain ⟨e1, e2, e3, e4, e5⟩ := h.entry x hxq
  have hb := h.first g ht ⟨e1, e2⟩ hx e3 hmin
  have hS : ∀ u : Int, 0 ≤ u → (u.toNat == x.point.toNat || S u.toNat) = true → u = x.point ∨ S u.toNat = true := by
    intro u hu h
    rw [Bool.or_eq_true] at h
    rcases h with h | h
    · left; have := eq_of_beq h; omega
    · exact .inr h
  refine ⟨h.len, h.walk, h.few, h.src, fun v h0 hl hs => ?_, fun v w c h0 hl hs hv => h.relaxed v w c h0 hl hv.1 hv.2, fun v h0 hl hp hs => ?_, fun y hy => h.entry y (h1 y hy), fun v h0 hl hs y hy => ?_, hh, ?_⟩
  · rcases hS v h0 hs with rfl | hs
    · rw [hx]; exact ⟨hb, e3⟩
    · exact h.best v h0 hl hs
  · simp only [Bool.or_eq_false_iff] at hs
    refine (h2 _ (h.queued v h0 hl hp hs.2)).resolve_left (fun e => ?_)
    have : v = x.point := by rw [← e]
    rw [this] at hs
    simp at hs
  · rcases hS v h0 hs with rfl | hs
    · rw [hx]
      have := hmin y (h1 y hy)
      unfold ltR at this
      simp only [leR]; omega
    · exact h.low v h0 hl hs y (h1 y hy)
  · simp only [Bool.or_eq_false_iff]
    refine ⟨?_, h.notFrom⟩
    rw [beq_eq_false_iff_ne]; omega
theorem Qzg {l : az8} {R : List az6} {v : Int} (h1 : 0 ≤ l.to ∧ l.to < (R.length : Int)) (h2 : 0 ≤ v ∧ v < (R.length : Int)) (h3 : 1 ≤ (rkv R v).points ∧ (rkv R v).points ≤ 1000000) (h4 : 0 ≤ l.cost ∧ l.cost ≤ 1099511627776)
    (h5 : (rkv R l.to).points = (rkv R v).points - 1 → 0 ≤ (rkv R l.to).cost ∧ (rkv R l.to).cost ≤ 4000000000000000000) :
    (dzo l R v).o = some (decide ((rkv R l.to).points = (rkv R v).points - 1 ∧ (rkv R l.to).cost + l.cost = (rkv R v).cost), R, v) := by
  simp only [vz0, gzi, T.run]
  ((repeat (first | rw [azd (by omega)] | rw [azd (by simp only [List.length_set]; omega)] | rw [azd (by simp only [List.length_cons, List.length_nil, azc]; omega)] | rw [azd (by simp only [List.length_singleton, List.length_set, List.length_replicate, azc, and_true]; omega)])); rw [w64 (x := (rkv R v).points - 1) (by omega) (by omega)])
  by_cases hp : (rkv R l.to).points = (rkv R v).points - 1
  · have := h5 hp
    (rw [dzg hp]; (repeat (first | rw [azd (by omega)] | rw [azd (by simp only [List.length_set]; omega)] | rw [azd (by simp only [List.length_cons, List.length_nil, azc]; omega)] | rw [azd (by simp only [List.length_singleton, List.length_set, List.length_replicate, azc, and_true]; omega)])); rw [w64 (x := (rkv R l.to).cost + l.cost) (by omega) (by omega)])
    by_cases hc : (rkv R l.to).cost + l.cost = (rkv R v).cost
    · rw [decide_eq_true ⟨hp, hc⟩, beq_iff_eq.2 hc]
    · rw [decide_eq_false (fun h => hc h.2), beq_eq_false_iff_ne.2 hc]
  · rw [dzx hp, decide_eq_false (fun h => hp h.1)]
theorem Nzy {l : List az8} {R : List az6} {v : Int} (M : az8 → Prop) [DecidablePred M] (hN : l.length + 1 < NN) (hl : l.length < 1000000) (h : ∀ x ∈ l, (dzo x R v).o = some (decide (M x), R, v)) (hex : ∃ x ∈ l, M x) :
    ∃ i : Nat, (bz6 l R v).o = some ((i : Int), R, v) ∧ i < l.length ∧ M (l.getD i default) ∧ ∀ j, j < i → ¬ M (l.getD j default) := by
  have key : ∃ r, (bz6 l R v).o = some r ∧ ∃ i : Nat, r = ((i : Int), R, v) ∧ i < l.length ∧ M (l.getD i default) ∧ ∀ j, j < i → ¬ M (l.getD j default) := by
    simp only [ezw, bzl, T.run]
    refine xz5 (fun k (x : List az6 × Int × Int) => ∃ i : Nat, x = (R, v, (i : Int)) ∧ i + k = l.length ∧ ∀ j, j < i → ¬ M (l.getD j default)) (fun _ => False) l.length ⟨0, rfl, by omega, fun j hj => by omega⟩ (by omega) ?_ (fun _ h => h.elim)
    rintro k x ⟨i, rfl, hi, hpre⟩
    dsimp only
    by_cases hlt : i < l.length
    · (rw [az9 (by omega)]; (repeat (first | rw [azd (by omega)] | rw [azd (by simp only [List.length_set]; omega)] | rw [azd (by simp only [List.length_cons, List.length_nil, azc]; omega)] | rw [azd (by simp only [List.length_singleton, List.length_set, List.length_replicate, azc, and_true]; omega)])); rw [Int.toNat_natCast, h _ (mem_getD.2 ⟨i, hlt, rfl⟩), Option.bind_some])
      dsimp only
      by_cases hM : M (l.getD i default)
      · rw [az9 hM]
        exact .inr (.inr ⟨_, rfl, i, rfl, hlt, hM, hpre⟩)
      · rw [az7 hM, w64n (by omega)]
        refine .inl ⟨_, k - 1, rfl, by omega, i + 1, rfl, by omega, fun j hj => ?_⟩
        by_cases hji : j = i
        · subst hji; exact hM
        · exact hpre j (by omega)
    · exfalso
      obtain ⟨x, hx, hMx⟩ := hex
      obtain ⟨j, hj, rfl⟩ := mem_getD.1 hx
      exact hpre j (by omega) hMx
  obtain ⟨r, h1, i, rfl, h2⟩ := key
  exact ⟨i, h1, h2⟩
theorem Gzl (hk : Lks E L) (ht : 0 ≤ t ∧ t < (L.length : Int)) (hfr : 0 ≤ fr ∧ fr < (L.length : Int)) (hN : 100000 ≤ NN) :
    ∃ r : List Int × Int × Bool, (dzk L fr t).o = some r ∧ ((r.2.2 = false ∧ r.1 = nl ∧ r.2.1 = 0 ∧ ∀ c k, ¬ Walk E t fr c k) ∨ (r.2.2 = true ∧ ∃ c k l, Best E t fr c k ∧ Rt E t fr l ∧ r.1 = fr :: l ∧ r.2.1 = c)) := by
  have g := hk.graph
  have hlen := hk.len
  simp only [xzo, izs, T.run]
  ((repeat (first | rw [azd (by omega)] | rw [azd (by simp only [List.length_set]; omega)] | rw [azd (by simp only [List.length_cons, List.length_nil, azc]; omega)] | rw [azd (by simp only [List.length_singleton, List.length_set, List.length_replicate, azc, and_true]; omega)])); rw [Int.toNat_natCast]; (repeat (first | rw [azd (by omega)] | rw [azd (by simp only [List.length_set]; omega)] | rw [azd (by simp only [List.length_cons, List.length_nil, azc]; omega)] | rw [azd (by simp only [List.length_singleton, List.length_set, List.length_replicate, azc, and_true]; omega)])))
  have hset : ∀ v : Int, 0 ≤ v → rkv ((List.replicate L.length (⟨0, 0⟩ : az6)).set t.toNat ⟨0, 1⟩) v = if v = t then ⟨0, 1⟩ else rkv (List.replicate L.length ⟨0, 0⟩) v := fun v hv => Iz1 ⟨ht.1, by simpa using ht.2⟩ hv
  have hrep : ∀ v : Int, rkv (List.replicate L.length (⟨0, 0⟩ : az6)) v = ⟨0, 0⟩ := fun v => by
    unfold rkv
    rw [List.getD_eq_getElem?_getD, List.getElem?_replicate]
    split <;> rfl
  have hl0 : ((List.replicate L.length (⟨0, 0⟩ : az6)).set t.toNat ⟨0, 1⟩).length = L.length := by simp
  generalize (List.replicate L.length (⟨0, 0⟩ : az6)).set t.toNat ⟨0, 1⟩ = R0 at hset hl0
  have hR0t : rkv R0 t = ⟨0, 1⟩ := by rw [hset t ht.1, if_pos rfl]
  ((repeat (first | rw [azd (by omega)] | rw [azd (by simp only [List.length_set]; omega)] | rw [azd (by simp only [List.length_cons, List.length_nil, azc]; omega)] | rw [azd (by simp only [List.length_singleton, List.length_set, List.length_replicate, azc, and_true]; omega)])))
  rw [show R0.getD t.toNat default = ⟨0, 1⟩ from hR0t]
  refine Ozc (g := fun r => r) (fun m (x : List az6 × List aza) => ∃ S, DInv E t fr L x.1 x.2 S E ∧ x.2.length + rest (fun i => (L.getD i default).length) S L.length ≤ m ∧ m ≤ 20001)
    (Tzq E t fr L) (1 + rest (fun i => (L.getD i default).length) (fun _ => false) L.length) ⟨fun _ => false, ⟨hl0, fun v h0 h1 => ?_, fun v h0 h1 => ?_, hR0t, by simp, by simp, fun v h0 h1 hp _ => ?_, fun e he => ?_, by simp, ?_, rfl⟩, by simp, ?_⟩ ?_ ?_ ?_
  · rw [hset v h0]
    by_cases e : v = t
    · rw [if_pos e]; subst e; exact .inr ⟨by decide, .nil⟩
    · rw [if_neg e, hrep]; exact .inl rfl
  · rw [hset v h0]
    by_cases e : v = t
    · rw [if_pos e]; simp only; omega
    · rw [if_neg e, hrep]; simp only; omega
  · rw [hset v h0] at hp ⊢
    by_cases e : v = t
    · rw [if_pos e, e]; simp
    · rw [if_neg e, hrep] at hp; exact absurd hp (by decide)
  · simp only [List.mem_singleton] at he
    subst he
    refine ⟨ht.1, ht.2, Int.le_refl 1, ?_⟩
    simp only
    rw [hR0t]
    exact ⟨by decide, .inr ⟨rfl, Int.le_refl _⟩⟩
  · intro i h0 h1; simp at h1; omega
  · have := Hzz (S := fun _ => false) (fun i => hk.few i) L.length
    have : L.length * 200 ≤ 100 * 200 := Nat.mul_le_mul_right _ hlen
    omega
  · have := Hzz (S := fun _ => false) (fun i => hk.few i) L.length
    have : L.length * 200 ≤ 100 * 200 := Nat.mul_le_mul_right _ hlen
    omega
  · rintro m ⟨R, q⟩ ⟨S, hI, hm, hm2⟩
    simp only at hI hm
    dsimp only
    by_cases hq : 0 < q.length
    · rw [az9 (by omega)]
      obtain ⟨q1, hpop, hheap1, hlen1, hsub, hsup, hmin⟩ := Tza q (by omega) hq (by omega) hI.heap hI.pts
      have hxq : q.getD 0 default ∈ q := mem_getD.2 ⟨0, hq, rfl⟩
      rw [hpop, Option.bind_some]
      generalize q.getD 0 default = x at hsup hmin hxq
      dsimp only
      obtain ⟨e1, e2, e3, e4, e5⟩ := hI.entry x hxq
      have hRl := hI.len
      by_cases hxf : x.point = fr
      · right
        rw [dzg hxf]
        refine ⟨_, rfl, hI.len, hI.walk, hI.few, fun c k hb => ?_⟩
        rw [hxf] at e4 e5
        have hb0 := hb.1.ge g
        have hw := (hI.walk fr hfr.1 hfr.2).resolve_left (by omega)
        have h1 := hb.2 _ _ hw.2
        obtain ⟨k', rfl⟩ : ∃ k' : Nat, k = k' := ⟨k.toNat, by omega⟩
        obtain ⟨y, hy, hle⟩ := (hI.key g ht k' fr c hb).resolve_left (by rw [hI.notFrom]; simp)
        have h2 := hmin y hy
        unfold ltR at h2
        simp only [leR] at hle e5
        have a1 : (rkv R fr).cost = c := by omega
        have a2 : (rkv R fr).points = k' + 1 := by omega
        have a3 : x.rank.cost = c ∧ x.rank.points = k' + 1 := by omega
        refine ⟨?_, fun w c' k2 hb' hlt => hI.settled g ht hb' fun y' hy' => ?_⟩
        · generalize rkv R fr = z at a1 a2
          obtain ⟨z1, z2⟩ := z
          simp only at a1 a2
          rw [a1, a2]
        · have h3 := hmin y' hy'
          unfold ltR at h3 ⊢
          simp only
          omega
      · left
        (rw [dzx hxf]; (repeat (first | rw [azd (by omega)] | rw [azd (by simp only [List.length_set]; omega)] | rw [azd (by simp only [List.length_cons, List.length_nil, azc]; omega)] | rw [azd (by simp only [List.length_singleton, List.length_set, List.length_replicate, azc, and_true]; omega)])))
        by_cases hst : x.rank.cost = (rkv R x.point).cost ∧ x.rank.points = (rkv R x.point).points
        · have hx : rkv R x.point = x.rank := by
            obtain ⟨s1, s2⟩ := hst
            generalize rkv R x.point = z at s1 s2
            generalize x.rank = z' at s1 s2
            obtain ⟨z1, z2⟩ := z
            obtain ⟨z3, z4⟩ := z'
            simp only at s1 s2
            rw [s1, s2]
          (rw [ez8 (by rw [beq_iff_eq.2 hst.1, beq_iff_eq.2 hst.2]; rfl)]; (repeat (first | rw [azd (by omega)] | rw [azd (by simp only [List.length_set]; omega)] | rw [azd (by simp only [List.length_cons, List.length_nil, azc]; omega)] | rw [azd (by simp only [List.length_singleton, List.length_set, List.length_replicate, azc, and_true]; omega)])))
          have hb := hI.first g ht ⟨e1, e2⟩ hx e3 hmin
          have hb0 := hb.1.ge g
          have hbn := hb.few g ht
          have hbc := hb.1.le g
          have hbc2 : (x.rank.points - 1) * 1099511627776 ≤ 100 * 1099511627776 := Int.mul_le_mul_of_nonneg_right (by omega) (by omega)
          have hS0 := hI.settle g ht hfr.1 hxq hsub hsup hheap1 hx hmin hxf
          have hfew := hk.few x.point.toNat
          refine Ozc (g := Step3.next) (fun k' (z : List az6 × List aza × Int) => ∃ j : Nat, z.2.2 = (j : Int) ∧ j + k' = (L.getD x.point.toNat default).length ∧
              DInv E t fr L z.1 z.2.1 (fun i => i == x.point.toNat || S i) (fun a b d => (S a.toNat = true ∧ E a b d) ∨ (a = x.point ∧ ∃ i, i < j ∧ (L.getD x.point.toNat default).getD i default = ⟨b, d⟩)) ∧ rkv z.1 x.point = x.rank ∧
              (∀ u : Int, 0 ≤ u → u < (L.length : Int) → (u.toNat == x.point.toNat || S u.toNat) = true → leR (rkv z.1 u) x.rank) ∧ z.2.1.length ≤ q1.length + j ∧ (S x.point.toNat = true → z.2.1 = q1))
            (fun z => DInv E t fr L z.1 z.2 (fun i => i == x.point.toNat || S i) (fun a b d => (S a.toNat = true ∧ E a b d) ∨ (a = x.point ∧ ∃ i, i < (L.getD x.point.toNat default).length ∧ (L.getD x.point.toNat default).getD i default = ⟨b, d⟩)) ∧
              z.2.length ≤ q1.length + (L.getD x.point.toNat default).length ∧ (S x.point.toNat = true → z.2 = q1))
            (L.getD x.point.toNat default).length ⟨0, rfl, by omega, hS0.congr (fun a b d _ hv => ?_), hx, fun u h0 h1 hsu => ?_, by simp, fun _ => rfl⟩ (by omega) ?_ ?_
          · rcases hv with hv | ⟨_, i, hi, _⟩
            · exact hv
            · omega
          · rw [Bool.or_eq_true] at hsu
            rcases hsu with hsu | hsu
            · have : u = x.point := by have := eq_of_beq hsu; omega
              rw [this, hx]; exact .inr ⟨rfl, Int.le_refl _⟩
            · exact hI.low u h0 h1 hsu x hxq
          · rintro k' ⟨R', q', jj⟩ ⟨j, hj, hjk, hD, hrx, hlow, hql, hsame⟩
            simp only at hj hD hrx hlow hql hsame
            subst hj
            dsimp only
            by_cases hlt : j < (L.getD x.point.toNat default).length
            · left
              (rw [az9 (by omega)]; (repeat (first | rw [azd (by omega)] | rw [azd (by simp only [List.length_set]; omega)] | rw [azd (by simp only [List.length_cons, List.length_nil, azc]; omega)] | rw [azd (by simp only [List.length_singleton, List.length_set, List.length_replicate, azc, and_true]; omega)])); rw [Int.toNat_natCast])
              have hmem : (L.getD x.point.toNat default).getD j default ∈ L.getD x.point.toNat default := mem_getD.2 ⟨j, hlt, rfl⟩
              have he := (hk.mem x.point _ _ e1 e2).1 (show (⟨((L.getD x.point.toNat default).getD j default).to, ((L.getD x.point.toNat default).getD j default).cost⟩ : az8) ∈ _ from hmem)
              have hlj : (L.getD x.point.toNat default).getD j default = ⟨((L.getD x.point.toNat default).getD j default).to, ((L.getD x.point.toNat default).getD j default).cost⟩ := rfl
              generalize hw : ((L.getD x.point.toNat default).getD j default).to = w at he hlj
              generalize hc : ((L.getD x.point.toNat default).getD j default).cost = c at he hlj
              have hwl := g.lt _ _ _ he
              have hce := g.cost _ _ _ he
              have hDl := hD.len
              ((repeat (first | rw [azd (by omega)] | rw [azd (by simp only [List.length_set]; omega)] | rw [azd (by simp only [List.length_cons, List.length_nil, azc]; omega)] | rw [azd (by simp only [List.length_singleton, List.length_set, List.length_replicate, azc, and_true]; omega)])); rw [w64 (x := x.rank.cost + c) (by omega) (by omega), w64 (x := x.rank.points + 1) (by omega) (by omega)])
              have hV : ∀ a b d, ((S a.toNat = true ∧ E a b d) ∨ (a = x.point ∧ ∃ i, i < j ∧ (L.getD x.point.toNat default).getD i default = ⟨b, d⟩)) → E a b d := by
                rintro a b d (h | ⟨rfl, i, hi, he'⟩)
                · exact h.2
                · exact (hk.mem x.point _ _ e1 e2).1 (he' ▸ mem_getD.2 ⟨i, by omega, rfl⟩)
              have hsv : (x.point.toNat == x.point.toNat || S x.point.toNat) = true := by simp
              by_cases hbet : (rkv R' w).points = 0 ∨ ltR ⟨x.rank.cost + c, x.rank.points + 1⟩ (rkv R' w)
              · (rw [pz4 hbet, Option.bind_some, dzr (by rfl)]; (repeat (first | rw [azd (by omega)] | rw [azd (by simp only [List.length_set]; omega)] | rw [azd (by simp only [List.length_cons, List.length_nil, azc]; omega)] | rw [azd (by simp only [List.length_singleton, List.length_set, List.length_replicate, azc, and_true]; omega)])))
                obtain ⟨q2, hpush, hh2, hl2, hm2'⟩ := Rzg q' ⟨⟨x.rank.cost + c, x.rank.points + 1⟩, w⟩ (by omega) (by omega) hD.heap hD.pts (by simp only; omega)
                rw [hpush, Option.bind_some, azb, w64n (by omega)]
                obtain ⟨hD2, hwv, hsw⟩ := hD.relax g hV ht hsv he (by rw [hrx]; exact hbet) hh2 (by rw [hrx]; exact hm2') (by rw [hrx]; exact hlow)
                rw [hrx] at hD2
                have hset2 : ∀ u : Int, 0 ≤ u → rkv (R'.set w.toNat ⟨x.rank.cost + c, x.rank.points + 1⟩) u = if u = w then ⟨x.rank.cost + c, x.rank.points + 1⟩ else rkv R' u := fun u hu => Iz1 ⟨hwl.2.2.1, by omega⟩ hu
                refine ⟨_, rfl, k' - 1, by omega, j + 1, rfl, by omega, hD2.congr (fun a b d _ hv => ?_), ?_, fun u h0 h1 hsu => ?_, by dsimp only; omega, fun hsx => ?_⟩
                · rcases hv with hv | ⟨rfl, i, hi, he'⟩
                  · exact .inl (.inl hv)
                  · by_cases hij : i = j
                    · subst hij
                      rw [hlj] at he'
                      cases he'
                      exact .inr ⟨rfl, rfl, rfl⟩
                    · exact .inl (.inr ⟨rfl, i, by omega, he'⟩)
                · dsimp only; rw [hset2 _ e1, if_neg (fun e => hwv e.symm)]; exact hrx
                · dsimp only
                  rw [hset2 u h0, if_neg (fun e => by subst e; rw [hsw] at hsu; cases hsu)]
                  exact hlow u h0 h1 hsu
                · exfalso
                  have h3 := hD.relaxed x.point w c e1 e2 hsv (.inl ⟨hsx, he⟩)
                  rw [hrx] at h3
                  unfold ltR at hbet
                  simp only [leR] at h3 hbet
                  omega
              · rw [mzf (fun h => hbet (.inl h)) (fun h => hbet (.inr h)), Option.bind_some, ez8 (by rfl), azb, w64n (by omega)]
                have hD2 := hD.skip (v := x.point) (w := w) (c := c) (by rw [hrx]; exact hbet) ⟨hwl.2.2.1, hwl.2.2.2⟩
                refine ⟨_, rfl, k' - 1, by omega, j + 1, rfl, by omega, hD2.congr (fun a b d _ hv => ?_), hrx, hlow, by dsimp only; omega, hsame⟩
                rcases hv with hv | ⟨rfl, i, hi, he'⟩
                · exact .inl (.inl hv)
                · by_cases hij : i = j
                  · subst hij
                    rw [hlj] at he'
                    cases he'
                    exact .inr ⟨rfl, rfl, rfl⟩
                  · exact .inl (.inr ⟨rfl, i, by omega, he'⟩)
            · right
              rw [az7 (by omega)]
              have hje : j = (L.getD x.point.toNat default).length := by omega
              subst hje
              exact ⟨_, rfl, hD, hql, hsame⟩
          · rintro ⟨R', q'⟩ ⟨hD, hql, hsame⟩
            simp only at hD hql hsame
            have hm' : q'.length + rest (fun i => (L.getD i default).length) (fun i => i == x.point.toNat || S i) L.length < m := by
              cases hsx : S x.point.toNat with
              | true =>
                have := hsame hsx
                subst this
                rw [Azm (S := S) (fun i hi => by
                  by_cases hix : i = x.point.toNat
                  · subst hix; simp [hsx]
                  · have : (i == x.point.toNat) = false := by simpa using hix
                    simp [this])]
                omega
              | false =>
                have := Jze (d := fun i => (L.getD i default).length) hsx (n := L.length) (by omega)
                omega
            refine ⟨_, rfl, _, hm', _, hD.congr (fun a b d hsa hv => ?_), Nat.le_refl _, by omega⟩
            rw [Bool.or_eq_true] at hsa
            rcases hsa with hsa | hsa
            · have hab := g.lt _ _ _ hv
              have : a = x.point := by have := eq_of_beq hsa; omega
              subst this
              obtain ⟨i, hi, he'⟩ := mem_getD.1 ((hk.mem x.point _ _ e1 e2).2 hv)
              exact .inr ⟨rfl, i, hi, he'⟩
            · exact .inl ⟨hsa, hv⟩
        · rw [dzr (by
            rw [Bool.not_eq_true', Bool.and_eq_false_iff]
            by_cases h1 : x.rank.cost = (rkv R x.point).cost
            · right
              rw [Bool.and_true]
              exact beq_eq_false_iff_ne.2 (fun h2 => hst ⟨h1, h2⟩)
            · exact .inl (beq_eq_false_iff_ne.2 h1))]
          refine ⟨_, rfl, q1.length + rest (fun i => (L.getD i default).length) S L.length, by omega, S, hI.drop hsub hsup hheap1 (fun e => hst ?_), Nat.le_refl _, by omega⟩
          rw [e]; exact ⟨rfl, rfl⟩
    · right
      rw [az7 (by omega)]
      have hnil : q = [] := List.eq_nil_of_length_eq_zero (by omega)
      subst hnil
      exact ⟨_, rfl, hI.len, hI.walk, hI.few, fun c k hb => ⟨hI.settled g ht hb (by simp), fun w c' k' hb' _ => hI.settled g ht hb' (by simp)⟩⟩
  · rintro R ⟨hRl, hwalk, hfew, hfound⟩
    ((repeat (first | rw [azd (by omega)] | rw [azd (by simp only [List.length_set]; omega)] | rw [azd (by simp only [List.length_cons, List.length_nil, azc]; omega)] | rw [azd (by simp only [List.length_singleton, List.length_set, List.length_replicate, azc, and_true]; omega)])))
    by_cases hp : (rkv R fr).points = 0
    · rw [dzg hp]
      refine ⟨_, rfl, .inl ⟨rfl, rfl, rfl, fun c k hw => ?_⟩⟩
      obtain ⟨c', k', hb⟩ := Best.exists g hw
      have h0 := hb.1.ge g
      have := (hfound _ _ hb).1
      rw [this] at hp
      simp only at hp
      omega
    · (rw [dzx hp]; (repeat (first | rw [azd (by omega)] | rw [azd (by simp only [List.length_set]; omega)] | rw [azd (by simp only [List.length_cons, List.length_nil, azc]; omega)] | rw [azd (by simp only [List.length_singleton, List.length_set, List.length_replicate, azc, and_true]; omega)])))
      obtain ⟨c, k, hb⟩ := Best.exists g ((hwalk fr hfr.1 hfr.2).resolve_left hp).2
      have hb0 := hb.1.ge g
      have hbn := hb.few g ht
      obtain ⟨hf1, hf2⟩ := hfound c k hb
      rw [show R.getD fr.toNat default = ⟨c, k + 1⟩ from hf1]
      refine Ozc (g := fun r => r) (fun m (z : List az6 × List Int × Int) => ∃ c', z.1 = R ∧ Best E t z.2.2 c' (m : Int) ∧ (c' < c ∨ c' = c ∧ (m : Int) ≤ k) ∧ rkv R z.2.2 = ⟨c', m + 1⟩ ∧
          ∃ pre, z.2.1 = fr :: pre ∧ (pre.length + m : Int) ≤ k ∧ ∀ l, Rt E t z.2.2 l → Rt E t fr (pre ++ l))
        (fun acc => ∃ l, acc = fr :: l ∧ Rt E t fr l) k.toNat ⟨c, rfl, ?_, ?_, ?_, [], rfl, by simp; omega, fun l h => h⟩ (by omega) ?_ ?_
      · dsimp only; rw [Int.toNat_of_nonneg hb0.2]; exact hb
      · right; exact ⟨rfl, by omega⟩
      · dsimp only; rw [Int.toNat_of_nonneg hb0.2]; exact hf1
      · rintro m ⟨R', acc, v⟩ ⟨c', hR', hbv, hle, hrv, pre, hacc, hpl, hrt⟩
        simp only at hR' hbv hle hrv hacc hpl hrt
        subst hR'
        subst hacc
        dsimp only
        by_cases hvt : v = t
        · right
          rw [bzy hvt]
          refine ⟨_, rfl, pre, rfl, ?_⟩
          have := hrt [] (by rw [hvt]; exact .nil)
          simpa using this
        · left
          have hvl := hbv.1.lt g ht
          have hbv0 := hbv.1.ge g
          have hm1 := hbv.ne g hvt
          have hmn := hbv.few g ht
          (rw [dzm hvt]; (repeat (first | rw [azd (by omega)] | rw [azd (by simp only [List.length_set]; omega)] | rw [azd (by simp only [List.length_cons, List.length_nil, azc]; omega)] | rw [azd (by simp only [List.length_singleton, List.length_set, List.length_replicate, azc, and_true]; omega)])))
          have hE : ∀ x ∈ L.getD v.toNat default, E v x.to x.cost := fun x hx => (hk.mem v _ _ hvl.1 hvl.2).1 hx
          have hM : ∀ x : az8, E v x.to x.cost → (((rkv R' x.to).points = (rkv R' v).points - 1 ∧ (rkv R' x.to).cost + x.cost = (rkv R' v).cost) ↔ Best E t x.to (c' - x.cost) (m - 1)) := by
            intro x hx
            have hxl := g.lt _ _ _ hx
            have hxc := g.cost _ _ _ hx
            rw [hrv]
            simp only
            constructor
            · rintro ⟨h1, h2⟩
              have hw := ((hwalk x.to hxl.2.2.1 hxl.2.2.2).resolve_left (by omega)).2
              have a1 : (rkv R' x.to).cost = c' - x.cost := by omega
              have a2 : (rkv R' x.to).points - 1 = (m : Int) - 1 := by omega
              rw [a1, a2] at hw
              refine ⟨hw, fun c2 k2 hw2 => ?_⟩
              have := hbv.2 _ _ (Walk.cons hx hw2)
              omega
            · intro hbx
              have := hf2 _ _ _ hbx (by omega)
              rw [this]
              simp only
              omega
          have hcond : ∀ x ∈ L.getD v.toNat default, (dzo x R' v).o = some (decide ((rkv R' x.to).points = (rkv R' v).points - 1 ∧ (rkv R' x.to).cost + x.cost = (rkv R' v).cost), R', v) := by
            intro x hx
            have hxE := hE x hx
            have hxl := g.lt _ _ _ hxE
            have hxc := g.cost _ _ _ hxE
            refine Qzg ⟨hxl.2.2.1, by omega⟩ ⟨hvl.1, by omega⟩ (by rw [hrv]; simp only; omega) hxc (fun hpp => ?_)
            rw [hrv] at hpp
            simp only at hpp
            have hw := ((hwalk x.to hxl.2.2.1 hxl.2.2.2).resolve_left (by omega)).2
            have h1 := hw.ge g
            have h2 := hw.le g
            have : ((rkv R' x.to).points - 1) * 1099511627776 ≤ 100 * 1099511627776 := Int.mul_le_mul_of_nonneg_right (by omega) (by omega)
            omega
          obtain ⟨u0, e0, he0, hbu0⟩ := hbv.step (by omega)
          have hfew2 := hk.few v.toNat
          obtain ⟨i, hidx, hil, hMi, hno⟩ := Nzy (fun x => (rkv R' x.to).points = (rkv R' v).points - 1 ∧ (rkv R' x.to).cost + x.cost = (rkv R' v).cost) (by omega) (by omega) hcond ⟨⟨u0, e0⟩, (hk.mem v _ _ hvl.1 hvl.2).2 he0, (hM ⟨u0, e0⟩ he0).2 hbu0⟩
          rw [hidx, Option.bind_some]
          dsimp only
          ((repeat (first | rw [azd (by omega)] | rw [azd (by simp only [List.length_set]; omega)] | rw [azd (by simp only [List.length_cons, List.length_nil, azc]; omega)] | rw [azd (by simp only [List.length_singleton, List.length_set, List.length_replicate, azc, and_true]; omega)] | rw [azd (by rw [azc]; simp only [List.length_cons]; omega)])); rw [Int.toNat_natCast])
          have hmem : (L.getD v.toNat default).getD i default ∈ L.getD v.toNat default := mem_getD.2 ⟨i, hil, rfl⟩
          have hxE := hE _ hmem
          have hbi := (hM _ hxE).1 hMi
          have hsort := hk.sorted v.toNat (by omega)
          generalize hx : (L.getD v.toNat default).getD i default = x at hmem hxE hbi
          have hxc := g.cost _ _ _ hxE
          have hb1 := hbi.1.ge g
          have hnext : Sz5 E t v x.to := by
            refine ⟨⟨c', m, x.cost, hbv, hxE, hbi⟩, ?_⟩
            rintro w' ⟨c2, k2, e2, hbv2, he2, hbw2⟩
            obtain ⟨rfl, rfl⟩ := hbv.unique hbv2
            have hmem2 := (hk.mem v _ _ hvl.1 hvl.2).2 he2
            obtain ⟨j, hj, hje⟩ := mem_getD.1 hmem2
            have hMj := (hM ⟨w', e2⟩ he2).2 hbw2
            by_cases hji : j < i
            · exact absurd (by rw [hje]; exact hMj) (hno j hji)
            · by_cases hij : i = j
              · subst hij; rw [hx] at hje; rw [hje]; exact Int.le_refl _
              · have := (List.pairwise_iff_getElem.1 hsort) i j hil hj (by omega)
                have a1 : (L.getD v.toNat default)[i] = x := by rw [← hx, List.getD_eq_getElem?_getD (l := L.getD v.toNat default), List.getElem?_eq_getElem hil]; rfl
                have a2 : (L.getD v.toNat default)[j] = ⟨w', e2⟩ := by rw [← hje, List.getD_eq_getElem?_getD (l := L.getD v.toNat default), List.getElem?_eq_getElem hj]; rfl
                rw [a1, a2] at this
                simp only at this
                omega
          have hmm : ((m - 1 : Nat) : Int) = (m : Int) - 1 := by omega
          refine ⟨_, rfl, m - 1, by omega, c' - x.cost, rfl, by dsimp only; rw [hmm]; exact hbi, by omega, ?_, pre ++ [x.to], by simp, by simp; omega, fun l hl => ?_⟩
          · dsimp only
            have := hf2 _ _ _ hbi (by omega)
            rw [this, hmm]
          · have := hrt (x.to :: l) (.cons hvt hnext hl)
            simpa using this
      · rintro acc ⟨l, rfl, hl⟩
        exact ⟨_, rfl, .inr ⟨rfl, c, k, l, hb, hl, rfl, rfl⟩⟩
theorem Iza (hk : Lks E L) (ht : 0 ≤ t ∧ t < (L.length : Int)) (hfr : 0 ≤ fr ∧ fr < (L.length : Int)) (hN : 100000 ≤ NN) :
    ∃ r : bzx × Bool, (dzk L fr t).o = some (r.1.Vertices, r.1.Cost, r.2) ∧ ((r.2 = false ∧ r.1 = ⟨nl, 0⟩ ∧ ∀ c k, ¬ Walk E t fr c k) ∨ (r.2 = true ∧ ∃ c k l, Best E t fr c k ∧ Rt E t fr l ∧ r.1 = ⟨fr :: l, c⟩)) := by
  obtain ⟨⟨v, c, b⟩, h1, h2⟩ := Gzl hk ht hfr hN
  dsimp only at h2
  refine ⟨(⟨v, c⟩, b), h1, h2.imp (fun h => ⟨h.1, by dsimp only; rw [h.2.1, h.2.2.1], h.2.2.2⟩) (fun ⟨a, c', k, l, a1, a2, a3, a4⟩ => ⟨a, c', k, l, a1, a2, by dsimp only; rw [a3, a4]⟩)⟩
def Jzh (m : aze) (fr t : Int) : Prop := WF m ∧ (0 ≤ fr ∧ fr < (m.Points.length : Int)) ∧ (0 ≤ t ∧ t < (m.Points.length : Int))
def Routed (m : aze) (fr t mode : Int) (r : bzx × Bool) : Prop :=
  (r.2 = false ∧ r.1 = ⟨nl, 0⟩ ∧ ∀ c k, ¬ Walk (Eg m mode) t fr c k) ∨ (r.2 = true ∧ ∃ c k l, Best (Eg m mode) t fr c k ∧ Rt (Eg m mode) t fr l ∧ r.1 = ⟨fr :: l, c⟩)
theorem Tz0 {m : aze} {mode : Int} (hs : zz0 m) (hw : WF m) {L : List (List az8)} (hl : L.length = m.Points.length) (hL : ∀ v, v < m.Points.length → L.getD v default = uzk m.Edges mode v) : Lks (Eg m mode) L := by
  refine ⟨by rw [hl]; exact Eg.graph hw mode, fun v w c h0 h1 => ?_, fun i => ?_, by rw [hl]; exact hs.1, fun i hi => ?_⟩
  · rw [hL v.toNat (by omega), Int.toNat_of_nonneg h0]; exact Lzz hw
  · by_cases h : i < m.Points.length
    · rw [hL i h]; exact Nat.le_trans (zzw _ _ _) hs.2
    · rw [List.getD_eq_getElem?_getD, List.getElem?_eq_none (by omega)]; exact Nat.zero_le _
  · rw [hL i (by omega)]; exact Fzk hw mode i
theorem Hzv (m : aze) (fr t mode : Int) (hs : zz0 m) (h : Jzh m fr t) (hN : 100000 ≤ NN) : ∃ L r, (gz8 m mode).o = some L ∧ (dzk L fr t).o = some (r.1.Vertices, r.1.Cost, r.2) ∧ Routed m fr t mode r := by
  obtain ⟨hw, hf, ht⟩ := h
  obtain ⟨L, h1, h2, h3⟩ := Oza m mode hs hw (by omega)
  obtain ⟨r, h4, h5⟩ := Iza (E := Eg m mode) (t := t) (fr := fr) (Tz0 hs hw h2 h3) (by omega) (by omega) hN
  exact ⟨L, r, h1, h4, h5⟩
theorem Az1 (a0 : (List Int)) (a1 : (List Int)) : (lzp a0 a1).o = (lzq a0 a1).run NN := rfl
theorem yzk (a0 : bzx) (a1 : bzx) : (ezs a0 a1).o = (kz5 a0 a1).run NN := rfl
theorem Mzu (a : List Int) (h : a.length < NN) (h2 : a.length < 1000000000000) : (lzp a a).o = some true := by
  simp only [Az1, lzq, T.run]
  rw [bzy rfl]
  refine pz0 (y := .u) (Jz0 (fun i => (i : Int)) rfl a.length h (fun i hi => ?_) ?_)
  · try dsimp only
    (rw [az9 (by omega)]; (repeat (first | rw [azd (by omega)] | rw [azd (by simp only [List.length_set]; omega)] | rw [azd (by simp only [List.length_cons, List.length_nil, azc]; omega)] | rw [azd (by simp only [List.length_singleton, List.length_set, List.length_replicate, azc, and_true]; omega)])); rw [bzy rfl, w64n (by omega)])
  · try dsimp only
    rw [az7 (by omega)]
theorem Kzc (a : bzx) (h : a.Vertices.length < NN) (h2 : a.Vertices.length < 1000000000000) : (ezs a a).o = some true := by
  simp only [yzk, kz5, T.run]
  rw [dzg rfl, Mzu _ h h2]; rfl
theorem Routed.len {m : aze} {fr t mode : Int} {r : bzx × Bool} (hs : zz0 m) (ha : Jzh m fr t) (h : Routed m fr t mode r) : r.1.Vertices.length ≤ 101 := by
  rcases h with ⟨_, h2, _⟩ | ⟨_, c, k, l, h2, h3, h4⟩
  · rw [h2]; simp [nl]
  · have g := Eg.graph ha.1 mode
    have e1 := h3.length g h2
    have e2 := h2.few g ha.2.2
    have := hs.1
    rw [h4]; simp; omega
theorem czi (a0 : (List az1)) (a1 : (Int × Int)) : (azt a0 a1).o = (azy a0 a1).run NN := rfl
theorem yzr (a0 : aze) (a1 : Int) (a2 : Int) : (kzh a0 a1 a2).o = (kzi a0 a1 a2).run NN := rfl
theorem Ez7 (a0 : aze) (a1 : Int) (a2 : Int) : (ezn a0 a1 a2).o = (qz2 a0 a1 a2).run NN := rfl
theorem Tzu {x : Int} (h : 0 ≤ x) (h2 : x < 4000000000000) : IntKind.i64.wrap ((IntKind.u64.wrap (IntKind.i64.wrap x)).fdiv (2 ^ (min (1 : Int).toNat 64))) = x / 2 := by
  have e1 : IntKind.u64.wrap x = x := by
    simp only [IntKind.wrap, IntKind.bits, IntKind.signed, Bool.false_and, Bool.false_eq_true, if_false]
    omega
  have e2 : (2 : Int) ^ (min (1 : Int).toNat 64) = 2 := by decide
  rw [w64 (x := x) (by omega) (by omega), e1, e2, Int.fdiv_eq_ediv_of_nonneg _ (by omega), w64 (by omega) (by omega)]
theorem Jzl {m : aze} (hs : zz0 m) (hw : WF m) {u v : Int} {e : Nat} (he : e < m.Edges.length) (hu : (m.Edges.getD e default).U = u) (hv : (m.Edges.getD e default).V = v) (hN : 100000 ≤ NN) :
    (azt m.Edges (u, v)).o = some ((e : Int), true) := by
  have hs2 := hs.2
  have key : ∃ r, (azt m.Edges (u, v)).o = some r ∧ r = ((e : Int), true) := by
    simp only [czi, azy, T.run]
    refine Ozc (g := fun r => r) (fun k (x : Int × Int) => ∃ a b : Nat, x = ((a : Int), (b : Int)) ∧ a + k = b ∧ b ≤ m.Edges.length ∧ a ≤ e ∧ e ≤ b) (fun y => y = (e : Int)) m.Edges.length ⟨0, m.Edges.length, rfl, by omega, by omega, by omega, by omega⟩ (by omega) ?_ ?_
    · rintro k x ⟨a, b, rfl, hab, hb, h1, h2⟩
      dsimp only
      by_cases hlt : a < b
      · left
        (rw [az9 (by omega)]; (repeat (first | rw [azd (by omega)] | rw [azd (by simp only [List.length_set]; omega)] | rw [azd (by simp only [List.length_cons, List.length_nil, azc]; omega)] | rw [azd (by simp only [List.length_singleton, List.length_set, List.length_replicate, azc, and_true]; omega)])); rw [Tzu (by omega) (by omega)])
        obtain ⟨h, hh⟩ : ∃ h : Nat, ((a : Int) + (b : Int)) / 2 = (h : Int) := ⟨(a + b) / 2, by omega⟩
        have hah : a ≤ h ∧ h < b := by omega
        (rw [hh]; (repeat (first | rw [azd (by omega)] | rw [azd (by simp only [List.length_set]; omega)] | rw [azd (by simp only [List.length_cons, List.length_nil, azc]; omega)] | rw [azd (by simp only [List.length_singleton, List.length_set, List.length_replicate, azc, and_true]; omega)])); rw [Int.toNat_natCast])
        obtain ⟨c, hc, hc1, hc2⟩ := nz6 (by omega) (m.Edges.getD h default) u v
        rw [hc, Option.bind_some]
        by_cases hcl : c < 0
        · rw [az9 hcl, w64n (by omega)]
          refine ⟨_, rfl, b - (h + 1), by omega, h + 1, b, rfl, by omega, hb, ?_, h2⟩
          have := hc1.1 hcl
          rcases Nat.lt_or_ge h e with hhe | hhe
          · omega
          · exfalso
            by_cases hee : h = e
            · subst hee; omega
            · have := hw.lt (i := e) (j := h) (by omega) (by omega); unfold eLt at this; omega
        · rw [az7 hcl]
          refine ⟨_, rfl, h - a, by omega, a, h, rfl, by omega, by omega, h1, ?_⟩
          rcases Nat.lt_or_ge h e with hhe | hhe
          · exfalso
            have := hw.lt (i := h) (j := e) hhe he
            unfold eLt at this
            exact hcl (hc1.2 (by omega))
          · exact hhe
      · right
        rw [az7 (by omega)]
        exact ⟨_, rfl, by omega⟩
    · rintro y rfl
      (rw [az9 (by omega)]; (repeat (first | rw [azd (by omega)] | rw [azd (by simp only [List.length_set]; omega)] | rw [azd (by simp only [List.length_cons, List.length_nil, azc]; omega)] | rw [azd (by simp only [List.length_singleton, List.length_set, List.length_replicate, azc, and_true]; omega)])); rw [Int.toNat_natCast])
      obtain ⟨c, hc, hc1, hc2⟩ := nz6 (by omega) (m.Edges.getD e default) u v
      rw [hc, Option.bind_some]
      have := hc2.2 ⟨hu, hv⟩
      exact ⟨_, rfl, by rw [this]; rfl⟩
  obtain ⟨r, h1, rfl⟩ := key
  exact h1
def EI (m : aze) (vs : List Int) (i e : Nat) : Prop := e < m.Edges.length ∧ (m.Edges.getD e default).U = min (vs.getD i default) (vs.getD (i + 1) default) ∧ (m.Edges.getD e default).V = max (vs.getD i default) (vs.getD (i + 1) default)
theorem Jzk {m : aze} (hs : zz0 m) (hw : WF m) {x y : Int} {e : Nat} (he : e < m.Edges.length) (hu : (m.Edges.getD e default).U = min x y) (hv : (m.Edges.getD e default).V = max x y) (hN : 100000 ≤ NN) : (kzh m x y).o = some ((e : Int), true) := by
  simp only [yzr, kzi, T.run]
  rw [Jzl hs hw he hu hv hN]; rfl
theorem Rt.adj {E : Int → Int → Int → Prop} {t : Int} {v : Int} {l : List Int} (h : Rt E t v l) : ∀ i, i < l.length → ∃ c, E ((v :: l).getD i default) ((v :: l).getD (i + 1) default) c := by
  induction h with
  | nil => intro i hi; simp at hi
  | cons hv hn _ ih =>
    intro i hi
    cases i with
    | zero =>
      obtain ⟨_, _, e, _, he, _⟩ := hn.1
      exact ⟨e, by simpa using he⟩
    | succ i =>
      obtain ⟨c, hc⟩ := ih i (by simpa using hi)
      exact ⟨c, by simpa using hc⟩
theorem EI.exists {m : aze} (hw : WF m) {mode fr t : Int} {l : List Int} (h : Rt (Eg m mode) t fr l) {i : Nat} (hi : i < l.length) : ∃ e, EI m (fr :: l) i e := by
  obtain ⟨c, e, he, hu, hc, hpq⟩ := h.adj i hi
  obtain ⟨o1, o2, o3, o4, o5⟩ := (hw e he).1
  exact ⟨e, he, by omega, by omega⟩
theorem EI.unique {m : aze} (hw : WF m) {vs : List Int} {i e e' : Nat} (h : EI m vs i e) (h' : EI m vs i e') : e = e' := hw.one h.1 h'.1 (by rw [h.2.1, h'.2.1]) (by rw [h.2.2, h'.2.2])
def NextQ (m : aze) (rt : bzx) (r : Int × bzx × Int) : Prop :=
  (r = (-1, rt, 1) ∧ ∀ i, i + 1 < rt.Vertices.length → ∀ e, EI m rt.Vertices i e → (m.Edges.getD e default).State ≠ 0) ∨
  ∃ i e : Nat, i + 1 < rt.Vertices.length ∧ EI m rt.Vertices i e ∧ (m.Edges.getD e default).State = 0 ∧ r = ((e : Int), rt, 3) ∧ ∀ j, j < i → ∀ e', EI m rt.Vertices j e' → (m.Edges.getD e' default).State ≠ 0
theorem NextQ.route {m : aze} {rt : bzx} {r : Int × bzx × Int} (h : NextQ m rt r) : r.2.1 = rt := by
  rcases h with ⟨h1, _⟩ | ⟨i, e, _, _, _, h4, _⟩
  · rw [h1]
  · rw [h4]
def NextP (m : aze) (fr t : Int) (r : Int × bzx × Int) : Prop :=
  (¬ Jzh m fr t ∧ r = (-1, ⟨nl, 0⟩, 0)) ∨ (Jzh m fr t ∧ ∃ rt, Routed m fr t 1 rt ∧ ((rt.2 = false ∧ r = (-1, ⟨nl, 0⟩, 2)) ∨ (rt.2 = true ∧ NextQ m rt.1 r)))
theorem NextP.len {m : aze} {fr t : Int} {r : Int × bzx × Int} (hs : zz0 m) (h : NextP m fr t r) : r.2.1.Vertices.length ≤ 101 := by
  rcases h with ⟨_, h2⟩ | ⟨h1, rt, h2, ⟨_, h3⟩ | ⟨_, h3⟩⟩
  · rw [h2]; simp [nl]
  · rw [h3]; simp [nl]
  · rw [h3.route]; exact h2.len hs h1
theorem Qz7 (m : aze) (fr t : Int) (hs : zz0 m) (hN : 100000 ≤ NN) : ∃ r : Int × bzx × Int, (ezn m fr t).o = some (r.1, r.2.1.Vertices, r.2.1.Cost, r.2.2) ∧ NextP m fr t r := by
  suffices h : ∃ r : Int × List Int × Int × Int, (ezn m fr t).o = some r ∧ NextP m fr t (r.1, ⟨r.2.1, r.2.2.1⟩, r.2.2.2) from h.elim fun r h => ⟨(r.1, ⟨r.2.1, r.2.2.1⟩, r.2.2.2), h⟩
  simp only [Ez7, qz2, T.run]
  obtain ⟨b, hb, hbw⟩ := Ezd m hs (by omega)
  rw [hb, Option.bind_some]
  have none : ¬ Jzh m fr t → ∃ r : Int × List Int × Int × Int, (some ((-1 : Int), (nl : List Int), (0 : Int), (0 : Int)) : Option (Int × List Int × Int × Int)) = some r ∧ NextP m fr t (r.1, ⟨r.2.1, r.2.2.1⟩, r.2.2.2) := fun h => ⟨_, rfl, .inl ⟨h, rfl⟩⟩
  cases b with
  | false =>
    rw [dzr (by rfl), azb, dzr (by rfl)]
    exact none (fun h => by have := hbw.2 h.1; cases this)
  | true =>
    have hw := hbw.1 rfl
    rw [ez8 (by rfl), lz1, Option.bind_some]
    by_cases h1 : 0 ≤ fr ∧ fr < (m.Points.length : Int)
    · rw [szu h1, lz1, Option.bind_some, azb]
      by_cases h2 : 0 ≤ t ∧ t < (m.Points.length : Int)
      · rw [szu h2]
        have ha : Jzh m fr t := ⟨hw, h1, h2⟩
        obtain ⟨L, rt, e1, e2, e3⟩ := Hzv m fr t 1 hs ha hN
        have hrl := e3.len hs ha
        rw [e1, Option.bind_some, e2, Option.bind_some]
        rcases e3 with ⟨q1, q2, q3⟩ | ⟨q1, c, k, l, q2, q3, q4⟩
        · rw [q1, dzr (by rfl)]
          exact ⟨_, rfl, .inr ⟨ha, rt, .inl ⟨q1, q2, q3⟩, .inl ⟨q1, rfl⟩⟩⟩
        · have hP : ∀ r, NextQ m rt.1 r → NextP m fr t r := fun r h => .inr ⟨ha, rt, .inr ⟨q1, c, k, l, q2, q3, q4⟩, .inr ⟨q1, h⟩⟩
          rw [q1, ez8 (by rfl)]
          rw [q4] at hP hrl ⊢
          simp only [List.length_cons] at hrl
          dsimp only
          have e0 : (1 : Int).toNat = 1 := rfl
          have e9 : (((((fr :: l).length : Nat) : Int)).toNat - 1) = l.length := by simp
          (repeat (first | rw [azd (by omega)] | rw [azd (by simp only [List.length_cons]; omega)] | rw [azd (by simp only [List.length_cons, List.length_nil]; omega)]))
          rw [e0, e9]
          refine (xz5 (P := fun r : Int × List Int × Int × Int => NextQ m ⟨fr :: l, c⟩ (r.1, ⟨r.2.1, r.2.2.1⟩, r.2.2.2)) (fun k (x : Int) => ∃ i : Nat, x = (i : Int) ∧ i + k = l.length ∧ ∀ j, j < i → ∀ e, EI m (fr :: l) j e → (m.Edges.getD e default).State ≠ 0)
            (fun _ => ∀ j, j < l.length → ∀ e, EI m (fr :: l) j e → (m.Edges.getD e default).State ≠ 0) l.length ⟨0, rfl, by omega, fun j hj => by omega⟩ (by omega) ?_ ?_).imp (fun r h => ⟨h.1, hP _ h.2⟩)
          · rintro k' x ⟨i, rfl, hi, hpre⟩
            by_cases hlt : i < l.length
            · rw [az9 (by omega)]
              (repeat (first | rw [azd (by omega)] | rw [azd (by simp only [List.length_cons]; omega)] | rw [azd (by simp only [List.length_cons, List.length_nil]; omega)]))
              rw [Int.toNat_natCast]
              (repeat (first | rw [azd (by omega)] | rw [azd (by simp only [List.length_cons]; omega)] | rw [azd (by simp only [List.length_cons, List.length_nil]; omega)]))
              rw [show (fr :: l).getD (1 + i) default = l.getD i default by rw [Nat.add_comm]; rfl]
              obtain ⟨e, he⟩ := EI.exists hw q3 hlt
              have hbt := Jzk hs hw (x := (fr :: l).getD i default) (y := l.getD i default) he.1 (by have := he.2.1; simpa using this) (by have := he.2.2; simpa using this) hN
              rw [hbt, Option.bind_some]
              dsimp only
              have hel := he.1
              ((repeat (first | rw [azd (by omega)] | rw [azd (by simp only [List.length_set]; omega)] | rw [azd (by simp only [List.length_cons, List.length_nil, azc]; omega)] | rw [azd (by simp only [List.length_singleton, List.length_set, List.length_replicate, azc, and_true]; omega)])); rw [Int.toNat_natCast])
              by_cases hst : (m.Edges.getD e default).State = 0
              · rw [dzg hst]
                exact .inr (.inr ⟨_, rfl, .inr ⟨i, e, by simp only [List.length_cons]; omega, he, hst, rfl, hpre⟩⟩)
              · rw [dzx hst, w64n (by omega)]
                refine .inl ⟨_, k' - 1, rfl, by omega, i + 1, rfl, by omega, fun j hj e' he' => ?_⟩
                by_cases hji : j = i
                · subst hji; rw [he'.unique hw he]; exact hst
                · exact hpre j (by omega) e' he'
            · rw [az7 (by omega)]
              exact .inr (.inl ⟨_, rfl, fun j hj => hpre j (by omega)⟩)
          · intro _ h
            exact ⟨_, rfl, .inl ⟨rfl, fun i hi => h i (by simp only [List.length_cons] at hi; omega)⟩⟩
      · rw [yzv h2]; exact none (fun h => h2 h.2.2)
    · rw [yzv h1, azb, dzr (by rfl)]; exact none (fun h => h1 h.2.1)
open Go.Proofs
theorem Mzs (a : List Int) (h : a.length < 4294967296) : (fzn a a).o = some true := by
  show (izc a a).run NN = _
  simp only [izc, T.run]
  rw [bzy rfl]
  refine (gzp (fun _ => none) a.length h (fun j hj => ?_) (by rw [az7 (by omega)])).trans ?_
  · rw [az9 (by omega), azg (by omega), azg (by omega), wn (by omega), bzy rfl]
  · rw [(ezh _ _).2 (fun _ _ _ => rfl)]
theorem Mzt (a : List (List Int)) (h : a.length < 4294967296) (hn : ∀ c ∈ a, c.length < 4294967296) : (iz0 a a).o = some true := by
  show (ezz a a).run NN = _
  simp only [ezz, T.run]
  rw [bzy rfl]
  refine (gzp (fun _ => none) a.length h (fun j hj => ?_) (by rw [az7 (by omega)])).trans ?_
  · rw [az9 (by omega), azg (by omega), azg (by omega), wn (by omega), Int.toNat_natCast, Mzs _ (hn _ (cz6 hj))]; rfl
  · rw [(ezh _ _).2 (fun _ _ _ => rfl)]
theorem Pza (a : List (Int × Int × Int)) (h : a.length < 4294967296) : (lzo a a).o = some true := by
  show (gzg a a).run NN = _
  simp only [gzg, T.run]
  rw [bzy rfl]
  refine (gzp (fun _ => none) a.length h (fun j hj => ?_) (by rw [az7 (by omega)])).trans ?_
  · rw [az9 (by omega), azg (by omega), azg (by omega), wn (by omega)]; simp
  · rw [(ezh _ _).2 (fun _ _ _ => rfl)]
def PieB (x : azq) : Prop := x.Normals.length < 4294967296
theorem Gzj (x : azq) (h : PieB x) : (kz3 x x).o = some true := by
  show (kz4 x x).run NN = _
  simp only [kz4, T.run, Pza _ h]
  rw [dzg rfl, dzg rfl]; rfl
theorem Kzb (a : List azq) (h : a.length < 4294967296) (hn : ∀ c ∈ a, PieB c) : (ozm a a).o = some true := by
  show (izb a a).run NN = _
  simp only [izb, T.run]
  rw [bzy rfl]
  refine (gzp (fun _ => none) a.length h (fun j hj => ?_) (by rw [az7 (by omega)])).trans ?_
  · rw [az9 (by omega), azg (by omega), azg (by omega), wn (by omega), Int.toNat_natCast, Gzj _ (hn _ (cz6 hj))]; rfl
  · rw [(ezh _ _).2 (fun _ _ _ => rfl)]
def ResM (x : azj) : Prop := (x.Pieces.length < 4294967296 ∧ ∀ c ∈ x.Pieces, PieB c) ∧ PieB x.At ∧ x.Witness.Left.length < 4294967296 ∧ x.Witness.Right.length < 4294967296
theorem Pz9 (x : azj) (h : ResM x) : (rzp x x).o = some true := by
  obtain ⟨⟨h1, h2⟩, h3, h4, h5⟩ := h
  have hw : (mzm x.Witness x.Witness).o = some true := by
    show (hz5 x.Witness x.Witness).run NN = _
    simp only [hz5, T.run, Mzs _ h4, Mzs _ h5, Option.bind_some, cond_true]
    rw [dzg rfl]
  show (lzn x x).run NN = _
  simp only [lzn, T.run, Kzb _ h1 h2, Gzj _ h3, hw, Option.bind_some, cond_true]
  rw [dzg rfl]
theorem Rzx (m : aze) (h1 : m.Points.length < 4294967296) (h2 : ∀ c ∈ m.Points, c.length < 4294967296) (h3 : m.Edges.length < 4294967296) (h4 : ∀ e ∈ m.Edges, ResM e.Proof) : (gz2 m m).o = some true := by
  show (nzl m m).run NN = _
  simp only [nzl, T.run, Mzt _ h1 h2, Option.bind_some, Bool.not_true, cond_false]
  have hb : ((m.Edges.length : Int) != (m.Edges.length : Int)) = false := by simp
  rw [hb, azb]
  simp only [cond_false]
  refine (gzp (fun _ => none) m.Edges.length h3 (fun j hj => ?_) (by rw [az7 (by omega)])).trans ?_
  · rw [az9 (by omega), azg (by omega), azg (by omega), wn (by omega), Int.toNat_natCast, bzy rfl, bzy rfl, bzy rfl, bzy rfl, Pz9 _ (h4 _ (cz6 hj))]; rfl
  · rw [(ezh _ _).2 (fun _ _ _ => rfl)]
theorem Tz5 (r : azo) (P : List (List Int)) (a b : Int) : ResM (newE r P a b).Proof :=
  ⟨⟨(by show (0 : Nat) < 4294967296; decide), fun c hc => (by cases hc)⟩, (by show (0 : Nat) < 4294967296; decide), (by show (0 : Nat) < 4294967296; decide), (by show (0 : Nat) < 4294967296; decide)⟩
theorem Kzq (l : List (List Int)) (h : l.length < 4294967296) : (fzr l).o = some l := by
  show (dzs l).run NN = _
  cases l with
  | nil => rfl
  | cons a l =>
    simp only [dzs, T.run]
    simp only [List.length_cons] at h
    rw [azg (by simp), azg ⟨by simp only [List.length_nil, List.length_cons]; omega, by simp only [List.length_nil, List.length_cons, azc]; omega⟩]; rfl
theorem Hz4 (l : List az1) (h : l.length < 100000) : (cz7 l).o = some l := by
  show (bzd l).run NN = _
  cases l with
  | nil => rfl
  | cons a l =>
    simp only [bzd, T.run]
    simp only [List.length_cons] at h
    rw [azg (by simp), azg ⟨by simp only [List.length_nil, List.length_cons]; omega, by simp only [List.length_nil, List.length_cons, azc]; omega⟩]; rfl
theorem Ezp (l : List azq) (h : l.length < 4294967296) : (dzq l).o = some l := by
  show (czc l).run NN = _
  cases l with
  | nil => rfl
  | cons a l =>
    simp only [czc, T.run]
    simp only [List.length_cons] at h
    rw [azg (by simp), azg ⟨by simp only [List.length_nil, List.length_cons]; omega, by simp only [List.length_nil, List.length_cons, azc]; omega⟩]; rfl
theorem Bzw (l : List (Int × Int × Int)) (h : l.length < 4294967296) : (dz0 l).o = some l := by
  show (dz1 l).run NN = _
  cases l with
  | nil => rfl
  | cons a l =>
    simp only [dz1, T.run]
    simp only [List.length_cons] at h
    rw [azg (by simp), azg ⟨by simp only [List.length_nil, List.length_cons]; omega, by simp only [List.length_nil, List.length_cons, azc]; omega⟩]; rfl
theorem wz9 {α : Type} [Inhabited α] (l : List α) {i : Nat} (h : i < l.length) : l.set i (l.getD i default) = l := by
  refine Izv (by simp) fun j hj => ?_
  rw [List.length_set] at hj
  rw [Nzp h]
  split
  · rename_i e; rw [e]
  · rfl
theorem pz6 (x : azj) (h : ResM x) : (czz x).o = some x := by
  obtain ⟨⟨h1, h2⟩, h3, h4, h5⟩ := h
  show (fzc x).run NN = _
  simp only [fzc, T.run, Ezp _ h1, Option.bind_some]
  refine (ezg (fun j => (x.Pieces, (j : Int))) x.Pieces x.Pieces.length rfl h1 (fun j hj => ?_) (by dsimp only; rw [az7 (by omega)])).trans ?_
  · dsimp only
    have hp := h2 _ (cz6 hj)
    rw [az9 (by omega), azg (by omega), azg (by omega), Int.toNat_natCast, Bzw _ hp]
    simp only [Option.bind_some]
    rw [azg (by omega), azg (by omega), wn (by omega)]
    have : (⟨(x.Pieces.getD j default).Depth, (x.Pieces.getD j default).Index, (x.Pieces.getD j default).Normals⟩ : azq) = x.Pieces.getD j default := rfl
    rw [this, wz9 _ hj]
  · rw [Bzw _ h3, szx _ h4, szx _ h5]; rfl
theorem Qzd (m : aze) (h1 : m.Points.length < 4294967296) (h2 : ∀ c ∈ m.Points, c.length < 4294967296) (h3 : m.Edges.length < 100000) (h4 : ∀ e ∈ m.Edges, ResM e.Proof) : (sz9 m).o = some (m.Points, m.Edges) := by
  show (lzx m).run NN = _
  simp only [lzx, T.run, Kzq _ h1, Hz4 _ h3, Option.bind_some]
  refine (ezg (fun j => (m.Points, (j : Int))) m.Points m.Points.length rfl h1 (fun j hj => ?_) (by dsimp only; rw [az7 (by omega)])).trans ?_
  · dsimp only
    rw [az9 (by omega), azg (by omega), azg (by omega), Int.toNat_natCast, szx _ (h2 _ (cz6 hj))]
    simp only [Option.bind_some]
    rw [azg (by omega), azg (by omega), wn (by omega), wz9 _ hj]
  · refine (ezg (fun j => (m.Edges, (j : Int))) m.Edges m.Edges.length rfl (by show _ < 4294967296; omega) (fun j hj => ?_) (by dsimp only; rw [az7 (by omega)])).trans rfl
    dsimp only
    rw [az9 (by omega), azg (by omega), azg (by omega), Int.toNat_natCast, pz6 _ (h4 _ (cz6 hj))]
    simp only [Option.bind_some]
    rw [azg (by omega), azg (by omega), wn (by omega)]
    have : (⟨(m.Edges.getD j default).U, (m.Edges.getD j default).V, (m.Edges.getD j default).Cost, (m.Edges.getD j default).State, (m.Edges.getD j default).Proof⟩ : az1) = m.Edges.getD j default := rfl
    rw [this, wz9 _ hj]
open Go.Proofs
theorem Jzm (l : List (List Int)) (h : l.length < 4294967296) : (fz4 l).o = some l := by
  show (dzd l).run NN = _
  cases l with
  | nil => rfl
  | cons a l =>
    simp only [dzd, T.run]
    simp only [List.length_cons] at h
    rw [azg (by simp), azg ⟨by simp only [List.length_nil, List.length_cons]; omega, by simp only [List.length_nil, List.length_cons, azc]; omega⟩]; rfl
theorem Ezo (E : List az1) (i n : Nat) (h0 : 0 < E.length) (hl : E.length < 100000) (hn : i + n ≤ E.length) : (cz0 E i n).o = some ((E.drop i).take n) := by
  show (bzb E i n).run NN = _
  simp only [bzb, T.run]
  rw [azg h0, azg ⟨by simp only [List.length_nil]; omega, by simp only [List.length_nil, azc]; omega, hn⟩]; rfl
theorem Jzq {E : List az1} {i : Nat} (h : i < E.length) : (E.drop i).take 1 = [E.getD i default] := by
  rw [List.drop_eq_getElem_cons h, List.take_succ_cons, List.take_zero, List.getD_eq_getElem?_getD, List.getElem?_eq_getElem h]; rfl
theorem Nzf (P : List (List Int)) (E : List az1) (i : Nat) (h1 : P.length < 4294967296) (h2 : ∀ c ∈ P, c.length < 4294967296) (hi : i < E.length) (h3 : E.length < 100000) (h4 : ∀ e ∈ E, ResM e.Proof) :
    (ozr P E i 1).o = some (P, [E.getD i default]) := by
  show (izq P E i 1).run NN = _
  simp only [izq, T.run, Jzm _ h1, Ezo E i 1 (by omega) h3 (by omega), Option.bind_some, Jzq hi]
  have h5 : ResM (E.getD i default).Proof := h4 _ (cz6 hi)
  generalize E.getD i default = x at h5 ⊢
  refine (ezg (fun j => (P, (j : Int))) P P.length rfl h1 (fun j hj => ?_) (by dsimp only; rw [az7 (by omega)])).trans ?_
  · dsimp only
    rw [az9 (by omega), azg (by omega), azg (by omega), Int.toNat_natCast, szx _ (h2 _ (cz6 hj))]
    simp only [Option.bind_some]
    rw [azg (by omega), azg (by omega), wn (by omega), wz9 _ hj]
  · have hl : [x].length = 1 := rfl
    refine (ezg (fun j => ([x], (j : Int))) [x] [x].length rfl (by rw [hl]; decide) (fun j hj => ?_) (by dsimp only; rw [az7 (by omega)])).trans rfl
    dsimp only
    obtain rfl : j = 0 := by rw [hl] at hj; omega
    have hx : [x].getD 0 default = x := rfl
    rw [az9 (by omega), azg (by omega), azg (by omega), Int.toNat_natCast, hx, pz6 _ h5]
    simp only [Option.bind_some]
    rw [azg (by omega), azg (by omega), wn (by omega)]
    rfl
def stV (k : Int) : Int := if k = 1 then 1 else if k = 2 then 2 else 3
def Jzw (x : az1) (r : azj) : az1 := ⟨x.U, x.V, x.Cost, stV r.Kind, r⟩
theorem Rz9 (P : List (List Int)) (E : List az1) (i : Nat) (h1 : P.length < 4294967296) (h2 : ∀ c ∈ P, c.length < 4294967296) (hi : i < E.length) (h3 : E.length < 100000) (h4 : ∀ e ∈ E, ResM e.Proof)
    (hs : (E.getD i default).State = 0) {r : azj} (hr : ResM r) (hk : r.Kind = 0 ∨ r.Kind = 1 ∨ r.Kind = 2) :
    (kze P E i 1 0 r).o = some (P, [Jzw (E.getD i default) r], true) := by
  suffices h : ∃ y, (kzf P E i 1 0 r).run NN = some y ∧ y = (P, [Jzw (E.getD i default) r], true) by
    obtain ⟨y, a, b⟩ := h
    rw [← b]; exact a
  have e0 : (0 : Int).toNat = 0 := rfl
  simp only [kzf, T.run, Nzf P E i h1 h2 hi h3 h4, Option.bind_some, e0, Nat.add_zero]
  rw [az7 (by omega), azb, decide_eq_false (by omega)]
  simp only [cond_false]
  have b1 : ((E.getD i default).State == 1) = false := by rw [hs]; rfl
  have b2 : ((E.getD i default).State == 2) = false := by rw [hs]; rfl
  rw [azg (by omega), azg hi, b1, b2]
  simp only [cond_false, azb, pz6 r hr, Option.bind_some]
  generalize E.getD i default = x
  have k1 : (gz7 1).o = some 1 := rfl
  have k2 : (gz7 2).o = some 2 := rfl
  have k3 : (gz7 3).o = some 0 := rfl
  have hl : ([1, 2, 3] : List Int).length = 3 := rfl
  refine dza (P := fun y : List (List Int) × List az1 × Bool => y = (P, [Jzw x r], true)) (fun mm (y : Int) => ∃ t : Nat, y = (t : Int) ∧ t + mm = 3 ∧ t ≤ 2 ∧ (1 ≤ t → r.Kind ≠ 1) ∧ (2 ≤ t → r.Kind ≠ 2)) (fun _ => False) 3 ⟨0, rfl, rfl, by omega, by omega, by omega⟩ (by decide) ?_ (fun _ h => h.elim)
  rintro mm y ⟨t, rfl, t1, t2, t3, t4⟩
  rw [az9 (by rw [hl]; omega), azg (by rw [hl]; omega), Int.toNat_natCast, azg (by rw [hl]; omega), wn (by omega)]
  have fin : ∀ s : Int, s = stV r.Kind → (P, ([x].set 0 ⟨([x].getD 0 default).U, ([x].getD 0 default).V, ([x].getD 0 default).Cost, s, ([x].getD 0 default).Proof⟩).set 0 ⟨(([x].set 0 ⟨([x].getD 0 default).U, ([x].getD 0 default).V, ([x].getD 0 default).Cost, s, ([x].getD 0 default).Proof⟩).getD 0 default).U, (([x].set 0 ⟨([x].getD 0 default).U, ([x].getD 0 default).V, ([x].getD 0 default).Cost, s, ([x].getD 0 default).Proof⟩).getD 0 default).V, (([x].set 0 ⟨([x].getD 0 default).U, ([x].getD 0 default).V, ([x].getD 0 default).Cost, s, ([x].getD 0 default).Proof⟩).getD 0 default).Cost, (([x].set 0 ⟨([x].getD 0 default).U, ([x].getD 0 default).V, ([x].getD 0 default).Cost, s, ([x].getD 0 default).Proof⟩).getD 0 default).State, r⟩, true) = (P, [Jzw x r], true) := fun s h => by
    subst h; rfl
  have ht3 : t = 0 ∨ t = 1 ∨ t = 2 := by omega
  have g1 : [x].length = 1 := rfl
  rcases ht3 with rfl | rfl | rfl
  · have g : ([1, 2, 3] : List Int).getD 0 default = 1 := rfl
    rw [g, k1]
    simp only [Option.bind_some]
    by_cases c1 : r.Kind = 1
    · rw [dzg c1.symm, azg (by rw [g1]; omega), azg (by rw [g1]; omega), azg (by rw [List.length_set, g1]; omega), azg (by rw [List.length_set, g1]; omega)]
      exact .inr (.inr ⟨_, rfl, fin 1 (by rw [c1]; rfl)⟩)
    · rw [dzx (Ne.symm c1)]
      exact .inl ⟨_, mm - 1, rfl, by omega, 1, rfl, by omega, by omega, fun _ => c1, fun h => by omega⟩
  · have g : ([1, 2, 3] : List Int).getD 1 default = 2 := rfl
    rw [g, k2]
    simp only [Option.bind_some]
    by_cases c1 : r.Kind = 2
    · rw [dzg c1.symm, azg (by rw [g1]; omega), azg (by rw [g1]; omega), azg (by rw [List.length_set, g1]; omega), azg (by rw [List.length_set, g1]; omega)]
      exact .inr (.inr ⟨_, rfl, fin 2 (by rw [c1]; rfl)⟩)
    · rw [dzx (Ne.symm c1)]
      exact .inl ⟨_, mm - 1, rfl, by omega, 2, rfl, by omega, by omega, fun _ => t3 (by omega), fun _ => c1⟩
  · have g : ([1, 2, 3] : List Int).getD 2 default = 3 := rfl
    have c1 : r.Kind = 0 := by
      have := t3 (by omega)
      have := t4 (by omega)
      omega
    rw [g, k3]
    simp only [Option.bind_some]
    rw [dzg c1.symm, azg (by rw [g1]; omega), azg (by rw [g1]; omega), azg (by rw [List.length_set, g1]; omega), azg (by rw [List.length_set, g1]; omega)]
    exact .inr (.inr ⟨_, rfl, fin 3 (by rw [c1]; rfl)⟩)
theorem Cz3 (P : List (List Int)) (E : List az1) (i n : Nat) {v : Int} (h0 : 0 ≤ v) (h1 : v < (P.length : Int)) : (hzt P E i n v).o = some true := by
  show (hzu P E i n v).run NN = _
  simp only [hzu, T.run]
  rw [az9 h0, decide_eq_true h1]
theorem Pzz {s : azn} {p q : List Int} {d : Int} {r : azj} (h : ProveOk s p q d r) : ResM r := by
  obtain ⟨b1, b2⟩ := h.bd
  obtain ⟨l1, l2⟩ := h.lens
  refine ⟨⟨by omega, fun c hc => ?_⟩, ?_, by omega, by omega⟩
  · have := b2 c hc
    show c.Normals.length < 4294967296
    omega
  · show r.At.Normals.length < 4294967296
    rw [h.norm]; decide
noncomputable def pvR (s : azn) (p q : List Int) (d : Int) : azj := match (jzf s p q d).o with | some r => r | none => default
theorem Tzc (s : azn) (p q : List Int) (hp : p.length < 4294967296) (hq : q.length < 4294967296) {d : Int} (h0 : 0 ≤ d) (h20 : d ≤ 20) : (jzf s p q d).o = some (pvR s p q d) ∧ ProveOk s p q d (pvR s p q d) := by
  obtain ⟨r, h1, h2⟩ := Mza s p q hp hq h0 h20
  have : pvR s p q d = r := by unfold pvR; rw [h1]
  rw [this]; exact ⟨h1, h2⟩
noncomputable def tstE (s : azn) (P : List (List Int)) (d : Int) (x : az1) : az1 := Jzw x (pvR s (P.getD x.U.toNat default) (P.getD x.V.toNat default) d)
theorem Tzl (s : azn) (P : List (List Int)) (E : List az1) (i : Nat) (h1 : P.length < 4294967296) (h2 : ∀ c ∈ P, c.length < 4294967296) (hi : i < E.length) (h3 : E.length < 100000) (h4 : ∀ e ∈ E, ResM e.Proof)
    (hs : (E.getD i default).State = 0) (hU : 0 ≤ (E.getD i default).U ∧ (E.getD i default).U < (P.length : Int)) (hV : 0 ≤ (E.getD i default).V ∧ (E.getD i default).V < (P.length : Int)) {d : Int} (h0 : 0 ≤ d) (h20 : d ≤ 20) :
    (wz8 s P E i 1 0 d).o = some (P, [tstE s P d (E.getD i default)], true) := by
  show (qz3 s P E i 1 0 d).run NN = _
  have es : (⟨s.Robot, s.Shapes, s.Skips⟩ : azn) = s := rfl
  have e0 : (0 : Int).toNat = 0 := rfl
  simp only [qz3, T.run, es, e0, Nat.add_zero, Cz3 P E i 1 hU.1 hU.2, Cz3 P E i 1 hV.1 hV.2, Option.bind_some]
  rw [az7 (by omega), azb, decide_eq_false (by omega)]
  simp only [cond_false, Bool.not_true]
  have b1 : ((E.getD i default).State == 1) = false := by rw [hs]; rfl
  have b2 : ((E.getD i default).State == 2) = false := by rw [hs]; rfl
  obtain ⟨p1, p2⟩ := Tzc s (P.getD (E.getD i default).U.toNat default) (P.getD (E.getD i default).V.toNat default) (h2 _ (cz6 (by omega))) (h2 _ (cz6 (by omega))) h0 h20
  rw [azg (by omega), azg hi, b1, b2]
  simp only [cond_false, azb]
  rw [azg hU, azg (by omega), azg hV, azg (by omega), p1]
  simp only [Option.bind_some]
  rw [Rz9 P E i h1 h2 hi h3 h4 hs (Pzz p2) p2.kind]
  rfl
open Go.Proofs
noncomputable def nxV (P : List (List Int)) (x y : Int) (E : List az1) : Int × List Int × Int × Int := match (ezn ⟨P, E⟩ x y).o with | some r => r | none => default
structure NxOk (P : List (List Int)) (E : List az1) (r : Int × List Int × Int × Int) : Prop where
  st : r.2.2.2 = 0 ∨ r.2.2.2 = 1 ∨ r.2.2.2 = 2 ∨ r.2.2.2 = 3
  ed : r.2.2.2 = 3 → 0 ≤ r.1 ∧ r.1 < (E.length : Int) ∧ (E.getD r.1.toNat default).State = 0 ∧ Ezf P.length (E.getD r.1.toNat default)
  len : r.2.1.length ≤ 101
theorem Ozj {P : List (List Int)} (x y : Int) {E : List az1} (hs : zz0 ⟨P, E⟩) : (ezn ⟨P, E⟩ x y).o = some (nxV P x y E) ∧ NxOk P E (nxV P x y E) ∧ NextP ⟨P, E⟩ x y ((nxV P x y E).1, ⟨(nxV P x y E).2.1, (nxV P x y E).2.2.1⟩, (nxV P x y E).2.2.2) := by
  obtain ⟨⟨e, ⟨vs, c⟩, st⟩, h1, h2⟩ := Qz7 ⟨P, E⟩ x y hs (by decide)
  have hn : nxV P x y E = (e, vs, c, st) := by unfold nxV; rw [h1]
  have hl := h2.len hs
  rw [hn]
  refine ⟨h1, ⟨?_, fun h => ?_, hl⟩, h2⟩
  · rcases h2 with ⟨_, h⟩ | ⟨_, rt, _, ⟨_, h⟩ | ⟨_, h⟩⟩
    · cases h; exact .inl rfl
    · cases h; exact .inr (.inr (.inl rfl))
    · rcases h with ⟨h, _⟩ | ⟨_, _, _, _, _, h, _⟩ <;> simp only [Prod.mk.injEq] at h
      · exact .inr (.inl h.2.2)
      · exact .inr (.inr (.inr h.2.2))
  · simp only at h
    subst h
    rcases h2 with ⟨_, h⟩ | ⟨ha, rt, _, ⟨_, h⟩ | ⟨_, h⟩⟩
    · cases h
    · cases h
    · rcases h with ⟨h, _⟩ | ⟨i, e', hi, he, hst, h, _⟩ <;> simp only [Prod.mk.injEq] at h
      · exact absurd h.2.2 (by decide)
      · obtain ⟨rfl, -, -⟩ := h
        have hl : e' < E.length := he.1
        refine ⟨by simp only; omega, by simp only; omega, hst, ?_⟩
        exact (ha.1 e' hl).1
noncomputable def stE (s : azn) (P : List (List Int)) (x y d : Int) (E : List az1) : List az1 :=
  E.set (nxV P x y E).1.toNat (tstE s P d (E.getD (nxV P x y E).1.toNat default))
noncomputable def itE (s : azn) (P : List (List Int)) (x y d : Int) (E : List az1) : Nat → List az1
  | 0 => E
  | n + 1 => stE s P x y d (itE s P x y d E n)
theorem Hze (s : azn) (P : List (List Int)) (x y d : Int) (E : List az1) (a : Nat) : ∀ b, itE s P x y d (itE s P x y d E a) b = itE s P x y d E (a + b)
  | 0 => rfl
  | b + 1 => by
    show stE s P x y d (itE s P x y d (itE s P x y d E a) b) = stE s P x y d (itE s P x y d E (a + b))
    rw [Hze s P x y d E a b]
structure LzOk (P : List (List Int)) (n : Nat) (E : List az1) : Prop where
  len : E.length = n
  n200 : n ≤ 200
  p100 : P.length ≤ 100
  pts : ∀ c ∈ P, c.length < 4294967296
  prf : ∀ e ∈ E, ResM e.Proof
theorem LzOk.small {P : List (List Int)} {n : Nat} {E : List az1} (h : LzOk P n E) : zz0 ⟨P, E⟩ := ⟨h.p100, by show E.length ≤ 200; rw [h.len]; exact h.n200⟩
def untE (E : List az1) : Nat := E.countP fun e => e.State == 0
section
variable {s : azn} {P : List (List Int)} {x y d : Int} (h0 : 0 ≤ d) (h20 : d ≤ 20)
include h0 h20
theorem Mzx {n : Nat} {E : List az1} (h : LzOk P n E) (ht : (nxV P x y E).2.2.2 = 3) : LzOk P n (stE s P x y d E) ∧ untE (stE s P x y d E) + 1 = untE E := by
  obtain ⟨-, hn, -⟩ := Ozj x y h.small
  obtain ⟨e0, e1, e2, e3⟩ := hn.ed ht
  have hi : (nxV P x y E).1.toNat < E.length := by omega
  have hp : ProveOk s _ _ d _ := (Tzc s (P.getD (E.getD (nxV P x y E).1.toNat default).U.toNat default) (P.getD (E.getD (nxV P x y E).1.toNat default).V.toNat default) (h.pts _ (cz6 (by have := e3.1; have := e3.2.1; have := e3.2.2.1; omega))) (h.pts _ (cz6 (by have := e3.1; have := e3.2.1; have := e3.2.2.1; omega))) h0 h20).2
  refine ⟨⟨by unfold stE; rw [List.length_set, h.len], h.n200, h.p100, h.pts, fun e he => ?_⟩, ?_⟩
  · unfold stE at he
    rcases List.mem_or_eq_of_mem_set he with he | he
    · exact h.prf e he
    · subst he; exact Pzz hp
  · unfold stE untE
    rw [List.countP_set hi]
    have hg : E[(nxV P x y E).1.toNat] = E.getD (nxV P x y E).1.toNat default := by rw [List.getD_eq_getElem?_getD, List.getElem?_eq_getElem hi]; rfl
    have hs0 : (E[(nxV P x y E).1.toNat].State == 0) = true := by rw [hg, e2]; rfl
    have hs1 : ((tstE s P d (E.getD (nxV P x y E).1.toNat default)).State == 0) = false := by
      unfold tstE Jzw stV
      simp only
      split
      · rfl
      · split <;> rfl
    have hpos : 0 < E.countP fun e => e.State == 0 := List.countP_pos_iff.2 ⟨_, List.getElem_mem hi, hs0⟩
    simp only [hs0, hs1, if_true]
    simp
    omega
theorem stops {n : Nat} : ∀ (u : Nat) (E : List az1), LzOk P n E → untE E ≤ u → ∃ K, K ≤ u ∧ (∀ i, i < K → (nxV P x y (itE s P x y d E i)).2.2.2 = 3) ∧ (nxV P x y (itE s P x y d E K)).2.2.2 ≠ 3 := by
  intro u
  induction u with
  | zero =>
    intro E h hu
    refine ⟨0, Nat.le_refl _, fun i hi => by omega, fun ht => ?_⟩
    have := (Mzx (s := s) h0 h20 h ht).2
    omega
  | succ u ih =>
    intro E h hu
    by_cases ht : (nxV P x y E).2.2.2 = 3
    · obtain ⟨h1, h2⟩ := Mzx (s := s) h0 h20 h ht
      obtain ⟨K, k1, k2, k3⟩ := ih _ h1 (by omega)
      have e1 : ∀ i, itE s P x y d (stE s P x y d E) i = itE s P x y d E (i + 1) := fun i => by
        have := Hze s P x y d E 1 i
        rw [Nat.add_comm 1 i] at this
        exact this
      refine ⟨K + 1, by omega, fun i hi => ?_, by rw [← e1]; exact k3⟩
      cases i with
      | zero => exact ht
      | succ i => rw [← e1]; exact k2 i (by omega)
    · exact ⟨0, by omega, fun i hi => by omega, ht⟩
theorem Lzg {n : Nat} {E : List az1} (h : LzOk P n E) {K : Nat} (hk : ∀ i, i < K → (nxV P x y (itE s P x y d E i)).2.2.2 = 3) : ∀ i, i ≤ K → LzOk P n (itE s P x y d E i)
  | 0, _ => h
  | i + 1, hi => (Mzx h0 h20 (Lzg h hk i (by omega)) (hk i (by omega))).1
end
noncomputable def lzR (P : List (List Int)) (x y : Int) (E : List az1) (st : Int) (i : Nat) : aze × bzx × Int × Int := (⟨P, E⟩, ⟨(nxV P x y E).2.1, (nxV P x y E).2.2.1⟩, st, (i : Int))
theorem Azz (m : aze) (h1 : m.Points.length < 4294967296) (h2 : ∀ c ∈ m.Points, c.length < 4294967296) (h3 : m.Edges.length < 100000) (h4 : ∀ e ∈ m.Edges, ResM e.Proof) : (mzw m).o = some (m.Points, m.Edges) := by
  have em : (⟨m.Points, m.Edges⟩ : aze) = m := rfl
  have hm : (tzz m (-1) (⟨0, nl, (⟨0, 0, nl⟩ : azq), (⟨0, nl, nl⟩ : azz)⟩ : azj)).o = some (m.Points, m.Edges, false) := by
    show (oz1 m (-1) _).run NN = _
    simp only [oz1, T.run, em, Qzd m h1 h2 h3 h4, Option.bind_some]
    rw [az9 (by decide), azb]; rfl
  show (hzw m).run NN = _
  simp only [hzw, T.run, em, hm, Option.bind_some]
theorem Jz2 (s : azn) (m : aze) (x y : Int) {d : Int} (h0 : 0 ≤ d) (h20 : d ≤ 20) {n : Nat} (h : LzOk m.Points n m.Edges) (hs : (dzb s).o = some 0) {K : Nat}
    (hk : ∀ i, i < K → (nxV m.Points x y (itE s m.Points x y d m.Edges i)).2.2.2 = 3) (hK : (nxV m.Points x y (itE s m.Points x y d m.Edges K)).2.2.2 ≠ 3) (hK2 : K ≤ 200) (t : Nat) :
    (ez0 s m x y d (t : Int)).o = some (if K ≤ t then lzR m.Points x y (itE s m.Points x y d m.Edges K) (nxV m.Points x y (itE s m.Points x y d m.Edges K)).2.2.2 K else lzR m.Points x y (itE s m.Points x y d m.Edges t) 4 t) := by
  have em : (⟨m.Points, m.Edges⟩ : aze) = m := rfl
  have es : (⟨s.Robot, s.Shapes, s.Skips⟩ : azn) = s := rfl
  have hP := h.p100
  suffices hh : ∃ r, (hzr s m x y d (t : Int)).run NN = some r ∧ r = (if K ≤ t then lzR m.Points x y (itE s m.Points x y d m.Edges K) (nxV m.Points x y (itE s m.Points x y d m.Edges K)).2.2.2 K else lzR m.Points x y (itE s m.Points x y d m.Edges t) 4 t) by
    obtain ⟨r, a, b⟩ := hh
    rw [← b]; exact a
  simp only [hzr, T.run, em, es, Azz m (by omega) h.pts (by rw [h.len]; have := h.n200; omega) h.prf, hs, Option.bind_some]
  rw [bzy rfl]
  refine dza (fun mm (z : List az1 × Int) => ∃ i : Nat, i ≤ K ∧ i ≤ t ∧ mm + i = K ∧ z = (itE s m.Points x y d m.Edges i, (i : Int))) (fun _ => False) K ⟨0, by omega, by omega, by omega, rfl⟩ (by omega) ?_ (fun _ h => h.elim)
  rintro mm z ⟨i, ik, it, im, rfl⟩
  have hi := Lzg h0 h20 h hk i ik
  obtain ⟨q1, q2, -⟩ := Ozj x y hi.small
  have q1' : (szg m.Points (itE s m.Points x y d m.Edges i) x y).o = some (nxV m.Points x y (itE s m.Points x y d m.Edges i)) := q1
  simp only [q1', Option.bind_some]
  by_cases hKi : i = K
  · subst hKi
    rw [dzm hK]
    refine .inr (.inr ⟨_, rfl, ?_⟩)
    rw [if_pos it]; rfl
  · have ht := hk i (by omega)
    rw [bzy ht]
    by_cases hti : i = t
    · subst hti
      rw [az9 (by omega)]
      refine .inr (.inr ⟨_, rfl, ?_⟩)
      rw [if_neg (by omega)]; rfl
    · rw [az7 (by omega)]
      obtain ⟨e0, e1, e2, e3⟩ := q2.ed ht
      have hl := hi.len
      have hn := h.n200
      obtain ⟨w0, w1, w2, -, -⟩ := e3
      have hit : itE s m.Points x y d m.Edges (i + 1) = stE s m.Points x y d (itE s m.Points x y d m.Edges i) := rfl
      unfold stE at hit
      generalize itE s m.Points x y d m.Edges i = E at hi q1 q1' q2 ht e0 e1 e2 w0 w1 w2 hl hit ⊢
      generalize nxV m.Points x y E = r at q1 q1' q2 ht e0 e1 e2 w0 w1 w2 hit ⊢
      obtain ⟨j, hj⟩ : ∃ j : Nat, r.1 = (j : Int) := ⟨r.1.toNat, by omega⟩
      rw [hj] at e0 e1 e2 w0 w1 w2 hit ⊢
      simp only [Int.toNat_natCast] at e2 w0 w1 w2 hit ⊢
      have hw : IntKind.i64.wrap ((j : Int) + 1) = ((j + 1 : Nat) : Int) := wn (by omega)
      rw [hw, azg (by omega)]
      have h11 : ((j + 1 : Nat) : Int).toNat - j = 1 := by omega
      rw [h11, Tzl s m.Points E j (by omega) h.pts (by omega) (by omega) hi.prf e2 ⟨w0, by omega⟩ ⟨by omega, w2⟩ h0 h20]
      simp only [Option.bind_some, cond_true]
      have l1 : [tstE s m.Points d (E.getD j default)].length = 1 := rfl
      rw [azg (by rw [l1]; omega), azg (by rw [l1]; decide), azg (by omega), azg (by omega), azb, wn (by omega)]
      refine .inl ⟨_, mm - 1, rfl, by omega, i + 1, by omega, by omega, by omega, ?_⟩
      rw [hit]; rfl
theorem Oz8 (s : azn) (m : aze) (x y : Int) (d t : Int) {n : Nat} (h : LzOk m.Points n m.Edges) {z : Int} (hs : (dzb s).o = some z) (hz : z ≠ 0) :
    (ez0 s m x y d t).o = some (m, ⟨nl, 0⟩, 0, 0) := by
  have em : (⟨m.Points, m.Edges⟩ : aze) = m := rfl
  have hP := h.p100
  show (hzr s m x y d t).run NN = _
  simp only [hzr, T.run, em, Azz m (by omega) h.pts (by rw [h.len]; have := h.n200; omega) h.prf, hs, Option.bind_some]
  rw [dzm hz]
open Go.Proofs
theorem Cze (x : Int) (k : Nat) (h0 : 0 < k) (hk : k < 4294967296) : ∃ z, (czy x (k : Int)).o = some z := ⟨_, jzh (by omega) (by omega)⟩
theorem Qz9 : (pzg).o = some true := by kernel_rfl
theorem Tz1 (r : azo) (pts : List (List Int)) (k : Int) (hp : pts.length ≤ 7) (h0 : 0 < pts.length) (hr : dz5 r = 0) (hi : ∀ c ∈ pts, cza r c = true) :
    ∃ m, (nzx r pts k).o = some m ∧ LzOk m.Points m.Edges.length m.Edges ∧ 0 < m.Points.length ∧ m.Points.length ≤ 7 ∧ m.Edges.length ≤ 49 ∧ ∃ S es, m.Edges = es.take 8192 ∧ MapE r m.Points S es := by
  obtain ⟨m, p1, p2, p3⟩ := Ozf r pts k (by omega) (fun c hc => by have := szy (hi c hc); omega)
  refine ⟨m, p1, ?_⟩
  obtain ⟨a1, es, a2, a3, a4⟩ := p3 hr
  have hl := vzc r pts pts.length
  have h7 : m.Points.length ≤ 7 := by rw [a1]; omega
  have h49 : m.Edges.length ≤ 49 := by
    rw [a2, List.length_take]
    have : m.Points.length * m.Points.length ≤ 7 * 7 := Nat.mul_le_mul h7 h7
    omega
  refine ⟨⟨rfl, by omega, by omega, fun c hc => ?_, fun e he => ?_⟩, by rw [a1]; exact Nzj h0 hi, h7, h49, _, es, a2, a4⟩
  · rw [a1] at hc
    have := szy (zzb r pts _ c hc)
    omega
  · rw [a2] at he
    obtain ⟨a, b, -, -, -, h⟩ := (a4.2 e).1 (List.mem_of_mem_take he)
    rw [h]; exact Tz5 r _ _ _
theorem xzk {P : List (List Int)} {n : Nat} {E : List az1} (h : LzOk P n E) : (gz2 ⟨P, E⟩ ⟨P, E⟩).o = some true := by
  have := h.p100
  have := h.n200
  have := h.len
  exact Rzx ⟨P, E⟩ (by simp only; omega) h.pts (by simp only; omega) h.prf
theorem Sz4 (E : List az1) : untE E ≤ E.length := List.countP_le_length
theorem xzl (l m : List Int) (n k fr t lim : Int) (hl : l.length < 4294967296) (hm : m.length < 4294967296) : (czl l m n k fr t lim).o = some true := by
  have es : ∀ s : azn, (⟨s.Robot, s.Shapes, s.Skips⟩ : azn) = s := fun _ => rfl
  have em : ∀ m : aze, (⟨m.Points, m.Edges⟩ : aze) = m := fun _ => rfl
  have er : ∀ m : bzx, (⟨m.Vertices, m.Cost⟩ : bzx) = m := fun _ => rfl
  show (fzv l m n k fr t lim).run NN = _
  obtain ⟨s, e1, hr, hv⟩ := Fzo l hl
  have e2 : (czy n 6).o = some (n % 6) := jzh (by decide) (by decide)
  have e3 : (czy k 3).o = some (k % 3) := jzh (by decide) (by decide)
  have e4 : (czy lim 9).o = some (lim % 9) := jzh (by decide) (by decide)
  obtain ⟨cn, hcn⟩ : ∃ cn : Nat, n % 6 = (cn : Int) := ⟨(n % 6).toNat, by omega⟩
  obtain ⟨c, hc⟩ : ∃ c : Nat, lim % 9 = (c : Int) := ⟨(lim % 9).toNat, by omega⟩
  have w2 : IntKind.i64.wrap (2 + (cn : Int)) = ((2 + cn : Nat) : Int) := by rw [w64 (by omega) (by omega)]; omega
  obtain ⟨pts, e5, lp, hp⟩ := Bzg s.Robot (2 + cn) (by omega) m hm hr hv
  obtain ⟨a, e6, ha, a0, a7, a49, -⟩ := Tz1 s.Robot pts (IntKind.i64.wrap (1 + k % 3)) (by omega) (by omega) hv hp
  obtain ⟨x, e7⟩ := Cze fr a.Points.length a0 (by omega)
  obtain ⟨y, e8⟩ := Cze t a.Points.length a0 (by omega)
  simp only [fzv, T.run, es, em, er, e1, e2, e3, e4, hcn, hc, w2, e5, e6, e7, e8, Option.bind_some, Qz9]
  have hsc := hzp s
  by_cases hz : ezk s = 0
  · rw [hz] at hsc
    obtain ⟨K, k1, k2, k3⟩ := stops (s := s) (d := 2) (x := x) (y := y) (by decide) (by decide) _ _ ha (Nat.le_refl _)
    have hu := Sz4 a.Edges
    have hok := Lzg (s := s) (d := 2) (x := x) (y := y) (by decide) (by decide) ha k2
    have z1 := Jz2 s a x y (d := 2) (by decide) (by decide) ha hsc k2 k3 (by omega) 100
    have z2 := Jz2 s a x y (d := 2) (by decide) (by decide) ha hsc k2 k3 (by omega) c
    have z1' : (ez0 s a x y 2 100).o = _ := z1
    rw [if_pos (by omega)] at z1'
    simp only [z1', z2, Option.bind_some]
    have hst : (nxV a.Points x y (itE s a.Points x y 2 a.Edges K)).2.2.2 ≠ 4 := by
      obtain ⟨-, q, -⟩ := Ozj x y (hok K (Nat.le_refl _)).small
      have := q.st
      omega
    by_cases hKc : K ≤ c
    · rw [if_pos hKc]
      have z3 := Jz2 s ⟨a.Points, itE s a.Points x y 2 a.Edges K⟩ x y (d := 2) (by decide) (by decide) (hok K (Nat.le_refl _)) hsc (K := 0) (fun i hi => by omega) k3 (by omega) 100
      have z3' : (ez0 s (lzR a.Points x y (itE s a.Points x y 2 a.Edges K) (nxV a.Points x y (itE s a.Points x y 2 a.Edges K)).2.2.2 K).1 x y 2 100).o = _ := z3
      simp only [z3', Option.bind_some]
      have hs1 := xzk (hok K (Nat.le_refl _))
      simp only [lzR]
      rw [dzm hst]
      simp only [cond_true, beq_self_eq_true, hs1, Option.bind_some]
    · rw [if_neg hKc]
      have e0 : ∀ i, itE s a.Points x y 2 (itE s a.Points x y 2 a.Edges c) i = itE s a.Points x y 2 a.Edges (c + i) := Hze s a.Points x y 2 a.Edges c
      have hck : c + (K - c) = K := by omega
      have z3 := Jz2 s ⟨a.Points, itE s a.Points x y 2 a.Edges c⟩ x y (d := 2) (by decide) (by decide) (hok c (by omega)) hsc (K := K - c) (fun i hi => by
        simp only [e0]; exact k2 _ (by omega)) (by simp only [e0, hck]; exact k3) (by omega) 100
      have z3' : (ez0 s (lzR a.Points x y (itE s a.Points x y 2 a.Edges c) 4 c).1 x y 2 100).o = _ := z3
      rw [if_pos (by omega)] at z3'
      simp only [e0, hck] at z3'
      simp only [z3', Option.bind_some]
      have hs1 := xzk (hok K (Nat.le_refl _))
      have hlen : (nxV a.Points x y (itE s a.Points x y 2 a.Edges K)).2.1.length ≤ 101 := (Ozj x y (hok K (Nat.le_refl _)).small).2.1.len
      have hs2 : (ezs ⟨(nxV a.Points x y (itE s a.Points x y 2 a.Edges K)).2.1, (nxV a.Points x y (itE s a.Points x y 2 a.Edges K)).2.2.1⟩ ⟨(nxV a.Points x y (itE s a.Points x y 2 a.Edges K)).2.1, (nxV a.Points x y (itE s a.Points x y 2 a.Edges K)).2.2.1⟩).o = some true :=
        Kzc _ (by show _ < 4294967296; simp only; omega) (by simp only; omega)
      simp only [lzR]
      have hsum : IntKind.i64.wrap ((c : Int) + ((K - c : Nat) : Int)) = (K : Int) := by rw [w64 (by omega) (by omega)]; omega
      rw [bzy rfl, hsum]
      simp only [cond_true, beq_self_eq_true, hs1, hs2, Option.bind_some]
      have hd : (c : Int) < (K : Int) := by omega
      simp [hd]
  · have z1 := fun t => Oz8 s a x y 2 t ha hsc hz
    simp only [z1, Option.bind_some]
    have hs1 := xzk ha
    have hs1' : (gz2 a a).o = some true := hs1
    rw [dzm (by decide)]
    simp only [cond_true, beq_self_eq_true, hs1', Option.bind_some]
end Go.Abs
