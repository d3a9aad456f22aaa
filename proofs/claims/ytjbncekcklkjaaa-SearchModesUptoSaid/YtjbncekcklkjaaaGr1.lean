/-
  Walks in a graph with costs, best walks, and rounds of loops that count. No program here.
-/
import Derived.Test.YtjbncekcklkjaaaPLib
namespace Go.Abs

theorem bif_npos {α : Type} {p : Prop} [Decidable p] {x y : α} (h : ¬ p) : (bif (!decide p) then x else y) = x := by rw [decide_eq_false h]; rfl
theorem bif_nneg {α : Type} {p : Prop} [Decidable p] {x y : α} (h : p) : (bif (!decide p) then x else y) = y := by rw [decide_eq_true h]; rfl
theorem bif_eq {α : Type} {a b : Int} {x y : α} (h : a = b) : (bif (a == b) then x else y) = x := bif_pos (by simpa using h)
theorem bif_ne {α : Type} {a b : Int} {x y : α} (h : a ≠ b) : (bif (a == b) then x else y) = y := bif_neg (by simpa using h)
theorem bif_neq {α : Type} {a b : Int} {x y : α} (h : a ≠ b) : (bif (a != b) then x else y) = x := bif_pos (by simpa using h)
theorem bif_nne {α : Type} {a b : Int} {x y : α} (h : a = b) : (bif (a != b) then x else y) = y := bif_neg (by simpa using h)

/-- Rounds of a loop, with a number that gets less. -/
theorem iter_meas {σ τ R : Type} {f : σ → Option (Step3 σ τ R)} (I : Nat → σ → Prop) (Q : τ → Prop)
    (hr : ∀ m x, I m x → (∃ x' m', f x = some (.next x') ∧ m' < m ∧ I m' x') ∨ ∃ y, f x = some (.out y) ∧ Q y) :
    ∀ (N m : Nat) (x : σ), I m x → m < N → ∃ y, iter f N x = some (.inl y) ∧ Q y
  | 0, _, _, _, h => by omega
  | N + 1, m, x, hi, h => by
    rcases hr m x hi with ⟨x', m', h1, h2, h3⟩ | ⟨y, h1, h2⟩
    · rw [iter_next h1]; exact iter_meas I Q hr N m' x' h3 (by omega)
    · exact ⟨y, by simp [iter, h1], h2⟩

/-- The same, also with an end of the whole. -/
theorem iter_meas2 {σ τ R : Type} {f : σ → Option (Step3 σ τ R)} (I : Nat → σ → Prop) (Q : τ ⊕ R → Prop)
    (hr : ∀ m x, I m x → (∃ x' m', f x = some (.next x') ∧ m' < m ∧ I m' x') ∨ (∃ y, f x = some (.out y) ∧ Q (.inl y)) ∨ ∃ r, f x = some (.fin r) ∧ Q (.inr r)) :
    ∀ (N m : Nat) (x : σ), I m x → m < N → ∃ y, iter f N x = some y ∧ Q y
  | 0, _, _, _, h => by omega
  | N + 1, m, x, hi, h => by
    rcases hr m x hi with ⟨x', m', h1, h2, h3⟩ | ⟨y, h1, h2⟩ | ⟨y, h1, h2⟩
    · rw [iter_next h1]; exact iter_meas2 I Q hr N m' x' h3 (by omega)
    · exact ⟨_, by simp [iter, h1], h2⟩
    · exact ⟨_, by simp [iter, h1], h2⟩

/-- A loop, whatever follows. -/
theorem loop_meas {σ τ R : Type} {f : σ → Option (Step3 σ τ R)} {k : τ → Option R} {P : R → Prop} {N : Nat} {x : σ} (I : Nat → σ → Prop) (Q : τ → Prop) (m : Nat) (h0 : I m x) (hN : m < N)
    (hr : ∀ m x, I m x → (∃ x' m', f x = some (.next x') ∧ m' < m ∧ I m' x') ∨ ∃ y, f x = some (.out y) ∧ Q y) (hk : ∀ y, Q y → ∃ r, k y = some r ∧ P r) : ∃ r, andK (iter f N x) k = some r ∧ P r := by
  obtain ⟨y, hy, hq⟩ := iter_meas I Q hr N m x h0 hN
  rw [andK_inl hy]
  exact hk y hq
theorem loop_ex {σ τ R β : Type} {f : σ → Option (Step3 σ τ R)} {k : τ → Option R} {g : β → R} {P : β → Prop} {N : Nat} {x : σ} (I : Nat → σ → Prop) (Q : τ → Prop) (m : Nat) (h0 : I m x) (hN : m < N)
    (hr : ∀ m x, I m x → (∃ x' m', f x = some (.next x') ∧ m' < m ∧ I m' x') ∨ ∃ y, f x = some (.out y) ∧ Q y) (hk : ∀ y, Q y → ∃ b, k y = some (g b) ∧ P b) : ∃ b, andK (iter f N x) k = some (g b) ∧ P b := by
  obtain ⟨y, hy, hq⟩ := iter_meas I Q hr N m x h0 hN
  rw [andK_inl hy]
  exact hk y hq
/-- The same, in another order. -/
theorem loopX {σ τ R β : Type} {f : σ → Option (Step3 σ τ R)} {k : τ → Option R} {g : β → R} {P : β → Prop} {N : Nat} {x : σ} (I : Nat → σ → Prop) (Q : τ → Prop) (m : Nat) (h0 : I m x) (hN : m < N)
    (hr : ∀ m x, I m x → (∃ x', f x = some (.next x') ∧ ∃ m', m' < m ∧ I m' x') ∨ ∃ y, f x = some (.out y) ∧ Q y) (hk : ∀ y, Q y → ∃ b, k y = some (g b) ∧ P b) : ∃ b, andK (iter f N x) k = some (g b) ∧ P b := by
  refine loop_ex I Q m h0 hN (fun m x h => ?_) hk
  rcases hr m x h with ⟨x', h1, m', h2, h3⟩ | h
  · exact .inl ⟨x', m', h1, h2, h3⟩
  · exact .inr h
theorem loop_meas2 {σ τ R : Type} {f : σ → Option (Step3 σ τ R)} {k : τ → Option R} {P : R → Prop} {N : Nat} {x : σ} (I : Nat → σ → Prop) (Q : τ → Prop) (m : Nat) (h0 : I m x) (hN : m < N)
    (hr : ∀ m x, I m x → (∃ x' m', f x = some (.next x') ∧ m' < m ∧ I m' x') ∨ (∃ y, f x = some (.out y) ∧ Q y) ∨ ∃ r, f x = some (.fin r) ∧ P r) (hk : ∀ y, Q y → ∃ r, k y = some r ∧ P r) : ∃ r, andK (iter f N x) k = some r ∧ P r := by
  obtain ⟨y, hy, hq⟩ := iter_meas2 I (fun y => match y with | .inl y => Q y | .inr r => P r) hr N m x h0 hN
  cases y with
  | inl y => rw [andK_inl hy]; exact hk y hq
  | inr r => rw [andK_inr hy]; exact ⟨r, rfl, hq⟩

theorem min_nat (p : Nat → Prop) (h : ∃ n, p n) : ∃ n, p n ∧ ∀ m, p m → n ≤ m := by
  obtain ⟨n, hn⟩ := h
  induction n using Nat.strongRecOn with
  | _ n ih =>
    by_cases hh : ∃ m, m < n ∧ p m
    · obtain ⟨m, hm, hp⟩ := hh; exact ih m hm hp
    · refine ⟨n, hn, fun m hm => ?_⟩
      by_cases hlt : m < n
      · exact absurd ⟨m, hlt, hm⟩ hh
      · omega

theorem pigeon : ∀ (n k : Nat) (g : Nat → Nat), (∀ j, j ≤ k → ∃ v, v < n ∧ g v = j) → k < n
  | 0, k, g, h => by obtain ⟨v, hv, _⟩ := h 0 (by omega); omega
  | n + 1, k, g, h => by
    by_cases hk : k = 0
    · omega
    · have := pigeon n (k - 1) (fun v => if g v = k then g n else g v) (fun j hj => by
        by_cases hm : g n = k
        · obtain ⟨v, hv, hg⟩ := h j (by omega)
          have : v ≠ n := fun e => by subst e; omega
          exact ⟨v, by omega, by show (if _ then _ else _) = _; rw [if_neg (by omega)]; exact hg⟩
        · by_cases hj2 : j = g n
          · obtain ⟨v, hv, hg⟩ := h k (by omega)
            have : v ≠ n := fun e => by subst e; omega
            exact ⟨v, by omega, by show (if _ then _ else _) = _; rw [if_pos hg]; exact hj2.symm⟩
          · obtain ⟨v, hv, hg⟩ := h j (by omega)
            have : v ≠ n := fun e => by subst e; omega
            exact ⟨v, by omega, by show (if _ then _ else _) = _; rw [if_neg (by omega)]; exact hg⟩)
      omega

section
variable (E : Int → Int → Int → Prop) (t : Int)
/-- A walk from v to t: its cost and the number of its edges. -/
inductive Walk : Int → Int → Int → Prop
  | nil : Walk t 0 0
  | cons {v u c d k : Int} : E v u c → Walk u d k → Walk v (d + c) (k + 1)

/-- The best walk's cost and number of edges. -/
def Best (v c k : Int) : Prop := Walk E t v c k ∧ ∀ c' k', Walk E t v c' k' → c < c' ∨ c = c' ∧ k ≤ k'

structure Graph (n C : Int) : Prop where
  sym : ∀ u v c, E u v c → E v u c
  cost : ∀ u v c, E u v c → 0 ≤ c ∧ c ≤ C
  lt : ∀ u v c, E u v c → 0 ≤ u ∧ u < n ∧ 0 ≤ v ∧ v < n
end

variable {E : Int → Int → Int → Prop} {t n C : Int}

theorem Walk.ge (g : Graph E n C) {v c k : Int} (h : Walk E t v c k) : 0 ≤ c ∧ 0 ≤ k := by
  induction h with
  | nil => omega
  | cons he _ ih => have := g.cost _ _ _ he; omega

theorem Walk.le (g : Graph E n C) {v c k : Int} (h : Walk E t v c k) : c ≤ k * C := by
  induction h with
  | nil => simp
  | cons he _ ih => have := g.cost _ _ _ he; rw [Int.add_mul]; omega

theorem Walk.lt (g : Graph E n C) (ht : 0 ≤ t ∧ t < n) {v c k : Int} (h : Walk E t v c k) : 0 ≤ v ∧ v < n := by
  cases h with
  | nil => exact ht
  | cons he _ => have := g.lt _ _ _ he; omega

theorem Walk.zero (g : Graph E n C) {v c k : Int} (h : Walk E t v c k) (hk : k = 0) : v = t ∧ c = 0 := by
  cases h with
  | nil => exact ⟨rfl, rfl⟩
  | cons he hw => have := hw.ge g; omega

theorem Best.exists (g : Graph E n C) {v c k : Int} (h : Walk E t v c k) : ∃ c' k', Best E t v c' k' := by
  have h0 := h.ge g
  obtain ⟨a, ⟨k1, ha⟩, hmin⟩ := min_nat (fun a => ∃ k, Walk E t v (a : Int) k) ⟨c.toNat, k, by rw [Int.toNat_of_nonneg h0.1]; exact h⟩
  have h1 := ha.ge g
  obtain ⟨b, hb, hmin2⟩ := min_nat (fun b => Walk E t v (a : Int) (b : Int)) ⟨k1.toNat, by rw [Int.toNat_of_nonneg h1.2]; exact ha⟩
  refine ⟨a, b, hb, fun c' k' hw => ?_⟩
  have h2 := hw.ge g
  have h3 := hmin c'.toNat ⟨k', by rw [Int.toNat_of_nonneg h2.1]; exact hw⟩
  by_cases hc : (a : Int) = c'
  · subst hc
    have := hmin2 k'.toNat (by rw [Int.toNat_of_nonneg h2.2]; exact hw)
    omega
  · omega

theorem Best.unique {v c k c' k' : Int} (h : Best E t v c k) (h' : Best E t v c' k') : c = c' ∧ k = k' := by
  have h1 := h.2 _ _ h'.1
  have h2 := h'.2 _ _ h.1
  omega

theorem Best.self (g : Graph E n C) : Best E t t 0 0 := ⟨.nil, fun c' k' h => by have := h.ge g; omega⟩

theorem Best.step {v c k : Int} (h : Best E t v c k) (hk : k ≠ 0) : ∃ u e, E v u e ∧ Best E t u (c - e) (k - 1) := by
  obtain ⟨hw, hm⟩ := h
  cases hw with
  | nil => omega
  | cons he hw =>
    rename_i u e d j
    refine ⟨u, e, he, ?_⟩
    rw [show d + e - e = d by omega, show j + 1 - 1 = j by omega]
    refine ⟨hw, fun c' k' h => ?_⟩
    have := hm _ _ (Walk.cons he h)
    omega

theorem Best.ne (g : Graph E n C) {v c k : Int} (h : Best E t v c k) (hv : v ≠ t) : 1 ≤ k := by
  have h1 := h.1.ge g
  by_cases h0 : k = 0
  · exact absurd (h.1.zero g h0).1 hv
  · omega

theorem Best.edge {v u e c k c' k' : Int} (h : Best E t v c k) (h' : Walk E t u c' k') (he : E v u e) : c < c' + e ∨ c = c' + e ∧ k ≤ k' + 1 := h.2 _ _ (.cons he h')

theorem Best.lower (g : Graph E n C) (j : Nat) : ∀ (k : Nat) {v c : Int}, Best E t v c (k : Int) → j ≤ k → ∃ u c', Best E t u c' (j : Int)
  | 0, v, c, h, hj => ⟨v, c, by have : j = 0 := by omega
                                subst this; exact h⟩
  | k + 1, v, c, h, hj => by
    by_cases hk : j = k + 1
    · subst hk; exact ⟨v, c, h⟩
    · obtain ⟨u, e, _, hb⟩ := h.step (by omega)
      rw [show ((k + 1 : Nat) : Int) - 1 = (k : Int) by omega] at hb
      exact Best.lower g j k hb (by omega)

theorem Best.few (g : Graph E n C) (ht : 0 ≤ t ∧ t < n) {v c k : Int} (h : Best E t v c k) : k < n := by
  have h0 := h.1.ge g
  obtain ⟨k', rfl⟩ : ∃ k' : Nat, k = k' := ⟨k.toNat, by omega⟩
  have key := pigeon n.toNat k' (fun v => open Classical in if hh : ∃ k : Nat, ∃ c, Best E t (v : Int) c (k : Int) then Classical.choose hh else 0) (fun j hj => by
    obtain ⟨u, c', hb⟩ := Best.lower g j k' h hj
    have hu := hb.1.lt g ht
    refine ⟨u.toNat, by omega, ?_⟩
    have hb' : Best E t ((u.toNat : Nat) : Int) c' (j : Int) := by rw [Int.toNat_of_nonneg hu.1]; exact hb
    have hh : ∃ k : Nat, ∃ c, Best E t ((u.toNat : Nat) : Int) c (k : Int) := ⟨j, c', hb'⟩
    refine (dif_pos hh).trans ?_
    obtain ⟨c2, hc2⟩ := Classical.choose_spec hh
    have := hb'.unique hc2
    omega)
  omega

/-- A label that no edge betters is at most every walk's. -/
theorem closed_le {lc lk : Int → Int} {isSet : Int → Prop} (h0 : isSet t ∧ lc t = 0 ∧ lk t = 0) (hc : ∀ v u e, E v u e → isSet u → isSet v ∧ (lc v < lc u + e ∨ lc v = lc u + e ∧ lk v ≤ lk u + 1))
    {v c k : Int} (h : Walk E t v c k) : isSet v ∧ (lc v < c ∨ lc v = c ∧ lk v ≤ k) := by
  induction h with
  | nil => exact ⟨h0.1, .inr ⟨h0.2.1, by omega⟩⟩
  | cons he _ ih =>
    obtain ⟨h1, h2⟩ := hc _ _ _ he ih.1
    exact ⟨h1, by omega⟩

/-! ### The other direction -/
theorem Walk.snoc {v u c d k : Int} (h : Walk E u v d k) {w : Int} (he : E u w c) : Walk E w v (d + c) (k + 1) := by
  induction h with
  | nil => have := Walk.cons (E := E) (t := w) he .nil; rw [show (0 : Int) + c = c by omega]; rwa [show (0 : Int) + c = c by omega] at this
  | cons he' _ ih =>
    rename_i c' d' k' _
    have := Walk.cons he' ih
    rw [show d' + c' + c = d' + c + c' by omega]; exact this
theorem Walk.rev (g : Graph E n C) {v c k : Int} (h : Walk E t v c k) : Walk E v t c k := by
  induction h with
  | nil => exact .nil
  | cons he _ ih => exact ih.snoc (g.sym _ _ _ he)
theorem Best.rev (g : Graph E n C) {v c k : Int} (h : Best E t v c k) : Best E v t c k := ⟨h.1.rev g, fun _ _ h' => h.2 _ _ (h'.rev g)⟩
theorem Walk.mono {E' : Int → Int → Int → Prop} (h : ∀ u v c, E u v c → E' u v c) {v c k : Int} (hw : Walk E t v c k) : Walk E' t v c k := by
  induction hw with
  | nil => exact .nil
  | cons he _ ih => exact .cons (h _ _ _ he) ih

/-! ### Routes -/
/-- The next point of the route: the least one from which the rest of a best walk begins. -/
def NextV (E : Int → Int → Int → Prop) (t v w : Int) : Prop :=
  (∃ c k e, Best E t v c k ∧ E v w e ∧ Best E t w (c - e) (k - 1)) ∧ ∀ w', (∃ c k e, Best E t v c k ∧ E v w' e ∧ Best E t w' (c - e) (k - 1)) → w ≤ w'
inductive Rt (E : Int → Int → Int → Prop) (t : Int) : Int → List Int → Prop
  | nil : Rt E t t []
  | cons {v w : Int} {l : List Int} : v ≠ t → NextV E t v w → Rt E t w l → Rt E t v (w :: l)
theorem NextV.unique {v w w' : Int} (h : NextV E t v w) (h' : NextV E t v w') : w = w' := by
  have h1 := h.2 w' h'.1
  have h2 := h'.2 w h.1
  omega
theorem Rt.unique {v : Int} {l l' : List Int} (h : Rt E t v l) (h' : Rt E t v l') : l = l' := by
  induction h generalizing l' with
  | nil => cases h' with
    | nil => rfl
    | cons hv _ _ => exact absurd rfl hv
  | cons hv hn _ ih =>
    cases h' with
    | nil => exact absurd rfl hv
    | cons _ hn' hr' =>
      cases hn.unique hn'
      rw [ih hr']
theorem Rt.length (g : Graph E n C) {v : Int} {l : List Int} (h : Rt E t v l) : ∀ {c k : Int}, Best E t v c k → (l.length : Int) = k := by
  induction h with
  | nil => intro c k hb; have := hb.unique (Best.self g); simp; omega
  | cons hv hn _ ih =>
    intro c k hb
    obtain ⟨c', k', e, h1, _, h3⟩ := hn.1
    have := hb.unique h1
    have := ih h3
    simp; omega
end Go.Abs
