/-
  DL2 (a part of a claim: our own text).
-/
import Derived.Test.YtkjkbdobenmgbaaGreatXIDL1
import Derived.Test.YtkjkbdobenmgbaaGreatXIPLib
import Derived.Test.YtkjkbdobenmgbaaGreatXID3
namespace Go.Abs
theorem loop_mf {σ τ R : Type} {f : σ → Option (Step3 σ τ R)} {k : τ → Option R} {P : R → Prop} {x : σ} (I : Nat → σ → Prop) (Q : τ → Prop) (m : Nat) (h0 : I m x) (hN : m < 4294967296)
    (hr : ∀ m x, I m x → (∃ x' m', f x = some (.next x') ∧ m' < m ∧ I m' x') ∨ (∃ y, f x = some (.out y) ∧ Q y) ∨ ∃ r, f x = some (.fin r) ∧ P r) (hk : ∀ y, Q y → ∃ r, k y = some r ∧ P r) : ∃ r, andK (iter f NN x) k = some r ∧ P r := by
  have go : ∀ (N m : Nat) (x : σ), I m x → m < N → (∃ y, iter f N x = some (.inl y) ∧ Q y) ∨ ∃ r, iter f N x = some (.inr r) ∧ P r := by
    intro N
    induction N with
    | zero => intro m x _ h; omega
    | succ N ih =>
      intro m x hi h
      rcases hr m x hi with ⟨x', m', h1, h2, h3⟩ | ⟨y, h1, h2⟩ | ⟨r, h1, h2⟩
      · simp only [iter, h1]; exact ih m' x' h3 (by omega)
      · exact .inl ⟨y, by simp [iter, h1], h2⟩
      · exact .inr ⟨r, by simp [iter, h1], h2⟩
  rcases go NN m x h0 hN with ⟨y, e1, e2⟩ | ⟨r, e1, e2⟩
  · rw [andK_inl e1]; exact hk y e2
  · rw [andK_inr e1]; exact ⟨r, rfl, e2⟩
theorem make_Round_e {x k : Int} (hk : 0 < k) (hk2 : k ≤ 4611686018427387904) : (make_Round_C x k).o = some (x % k) := by
  show (make_Round_T x k).run NN = _
  have h2 := Int.tmod_lt_of_pos x hk
  have h3 := Int.lt_tmod_of_pos x hk
  have h1 := Int.mul_tdiv_add_tmod x k
  have e := Int.emod_add_mul_ediv x k
  have e2 := Int.emod_nonneg x (show k ≠ 0 by omega)
  have e3 := Int.emod_lt_of_pos x hk
  simp only [make_Round_T, T.run]
  rw [grd_p (by omega)]
  by_cases h : x.tmod k < 0
  · rw [bif_dpos h, andC_out, w64 (by omega) (by omega)]
    congr 1
    have : x % k = x.tmod k + k := by
      have := div_unique (a := x) (b := k) (q := x.tdiv k - 1) (r := x.tmod k + k) (by omega) (by omega) (by rw [Int.mul_sub]; omega)
      rw [this, Int.mul_sub] at e; omega
    omega
  · rw [bif_dneg h, andC_out]
    congr 1
    have := div_unique (a := x) (b := k) (q := x.tdiv k) (r := x.tmod k) (by omega) (by omega) (by omega)
    rw [this] at e; omega
section
variable {l : List Int} (hl : l.length < 4294967296) {n : Int} (h0 : 0 ≤ n) (h1 : n ≤ (l.length : Int))
include hl h0 h1
theorem Source_Next_x {k : Int} (hk : 0 < k) (hk2 : k ≤ 4611686018427387904) : ∃ r n', (Source_Next_C l n k).o = some (r, l, n') ∧ 0 ≤ r ∧ r < k ∧ 0 ≤ n' ∧ n' ≤ (l.length : Int) := by
  have e0 : (Source_Next_C l n k).o = (Source_Next_T l n k).run NN := rfl
  rw [e0]
  simp only [Source_Next_T, T.run]
  by_cases h : n ≥ (l.length : Int)
  · rw [bif_dpos h]; exact ⟨_, _, rfl, by omega, by omega, h0, h1⟩
  · rw [bif_dneg h, w64 (x := n + 1) (by omega) (by omega), w64 (by omega) (by omega), grd_p ⟨by omega, by omega⟩, make_Round_e hk hk2, Option.bind_some]
    exact ⟨_, _, rfl, Int.emod_nonneg _ (by omega), Int.emod_lt_of_pos _ hk, by omega, by omega⟩
end
def mergeC (c : Nat → Nat) (e : Nat × Nat) : Nat → Nat := fun x => if c x = max (c e.1) (c e.2) then min (c e.1) (c e.2) else c x
def foldC (c : Nat → Nat) (L : List (Nat × Nat)) : Nat → Nat := L.foldl mergeC c
def compC (L : List (Nat × Nat)) : Nat → Nat := foldC id L
def Cp (c : Nat → Nat) : Prop := (∀ x, c x ≤ x) ∧ ∀ x, c (c x) = c x
theorem Cp.merge {c : Nat → Nat} (h : Cp c) (e : Nat × Nat) : Cp (mergeC c e) := by
  obtain ⟨h1, h2⟩ := h
  have idm : c (min (c e.1) (c e.2)) = min (c e.1) (c e.2) := by
    by_cases hh : c e.1 ≤ c e.2
    · rw [Nat.min_eq_left hh]; exact h2 _
    · rw [Nat.min_eq_right (by omega)]; exact h2 _
  refine ⟨fun x => ?_, fun x => ?_⟩
  · unfold mergeC
    have := h1 x
    split <;> omega
  · unfold mergeC
    by_cases hx : c x = max (c e.1) (c e.2)
    · rw [if_pos hx, idm]
      split <;> omega
    · rw [if_neg hx, h2 x, if_neg hx]
theorem Cp.id : Cp (id : Nat → Nat) := ⟨fun _ => Nat.le_refl _, fun _ => rfl⟩
theorem Cp.fold : ∀ (L : List (Nat × Nat)) {c : Nat → Nat}, Cp c → Cp (foldC c L)
  | [], _, h => h
  | e :: L, _, h => Cp.fold L (h.merge e)
theorem comp_cp (L : List (Nat × Nat)) : Cp (compC L) := Cp.fold L Cp.id
theorem merge_keep {c : Nat → Nat} {e : Nat × Nat} {x y : Nat} (h : c x = c y) : mergeC c e x = mergeC c e y := by unfold mergeC; rw [h]
theorem fold_keep : ∀ (L : List (Nat × Nat)) {c : Nat → Nat} {x y : Nat}, c x = c y → foldC c L x = foldC c L y
  | [], _, _, _, h => h
  | _ :: L, _, _, _, h => fold_keep L (merge_keep h)
theorem merge_edge (c : Nat → Nat) (e : Nat × Nat) : mergeC c e e.1 = mergeC c e e.2 := by
  unfold mergeC
  split <;> split <;> omega
theorem fold_edge : ∀ (L : List (Nat × Nat)) {c : Nat → Nat} {e : Nat × Nat}, e ∈ L → foldC c L e.1 = foldC c L e.2
  | [], _, _, h => by cases h
  | e' :: L, c, e, h => by
    rcases List.mem_cons.1 h with rfl | h
    · exact fold_keep L (merge_edge c e)
    · exact fold_edge L h
theorem comp_edge {L : List (Nat × Nat)} {e : Nat × Nat} (h : e ∈ L) : compC L e.1 = compC L e.2 := fold_edge L h
theorem merge_g {β : Type} {c : Nat → Nat} {e : Nat × Nat} {g : Nat → β} (hc : ∀ x, g (c x) = g x) (he : g e.1 = g e.2) (x : Nat) : g (mergeC c e x) = g x := by
  unfold mergeC
  have e1 := hc e.1
  have e2 := hc e.2
  split
  · rename_i hx
    have := hc x
    rw [hx] at this
    rw [← this]
    by_cases hh : c e.1 ≤ c e.2
    · rw [Nat.min_eq_left hh, Nat.max_eq_right hh, e1, e2, he]
    · rw [Nat.min_eq_right (by omega), Nat.max_eq_left (by omega), e1, e2, he]
  · exact hc x
theorem fold_g {β : Type} {g : Nat → β} : ∀ (L : List (Nat × Nat)) {c : Nat → Nat}, (∀ x, g (c x) = g x) → (∀ e ∈ L, g e.1 = g e.2) → ∀ x, g (foldC c L x) = g x
  | [], _, h, _ => h
  | e :: L, _, h, hL => fold_g L (merge_g h (hL e (List.mem_cons_self ..))) (fun e' he' => hL e' (List.mem_cons_of_mem _ he'))
theorem comp_g {β : Type} {g : Nat → β} {L : List (Nat × Nat)} (h : ∀ e ∈ L, g e.1 = g e.2) (x : Nat) : g (compC L x) = g x := fold_g L (fun _ => rfl) h x
theorem comp_snoc (L : List (Nat × Nat)) (e : Nat × Nat) : compC (L ++ [e]) = mergeC (compC L) e := by simp [compC, foldC]
theorem comp_nested {L L' : List (Nat × Nat)} (h : ∀ e ∈ L, e ∈ L') {x y : Nat} (hc : compC L x = compC L y) : compC L' x = compC L' y := by
  have hg : ∀ e ∈ L, compC L' e.1 = compC L' e.2 := fun e he => comp_edge (h e he)
  rw [← comp_g hg x, hc, comp_g hg y]
def Fo (l : List Int) (c : Nat → Nat) : Prop := Cp c ∧ ∀ x, x < l.length → ∃ a : Nat, l.getD x default = (a : Int) ∧ a ≤ x ∧ c a = c x ∧ (a = x → c x = x)
theorem Fo.root {l : List Int} {c : Nat → Nat} (h : Fo l c) {x : Nat} (hx : x < l.length) (hc : c x = x) : l.getD x default = (x : Int) := by
  obtain ⟨⟨h1, h2⟩, h3⟩ := h
  obtain ⟨a, q1, q2, q3, q4⟩ := h3 x hx
  have := h1 a
  have : a = x := by omega
  rw [q1, this]
theorem getD_set {α : Type} [Inhabited α] {l : List α} {i j : Nat} {v : α} (h : i < l.length) : (l.set i v).getD j default = if i = j then v else l.getD j default := by
  simp only [List.getD_eq_getElem?_getD, List.getElem?_set, h, if_true]
  split <;> rfl
theorem Fo.set {l : List Int} {c : Nat → Nat} (h : Fo l c) {i b : Nat} (hi : i < l.length) (hb : b ≤ i) (hc : c b = c i) (he : b = i → c i = i) : Fo (l.set i (b : Int)) c := by
  refine ⟨h.1, fun x hx => ?_⟩
  rw [List.length_set] at hx
  rw [getD_set hi]
  by_cases e : i = x
  · subst e
    rw [if_pos rfl]
    exact ⟨b, rfl, hb, hc, he⟩
  · rw [if_neg e]; exact h.2 x hx
theorem Fo.union {l : List Int} {c : Nat → Nat} (h : Fo l c) (e : Nat × Nat) (hM : max (c e.1) (c e.2) < l.length) : Fo (l.set (max (c e.1) (c e.2)) ((min (c e.1) (c e.2) : Nat) : Int)) (mergeC c e) := by
  obtain ⟨cp, h3⟩ := h
  refine ⟨cp.merge e, fun x hx => ?_⟩
  rw [List.length_set] at hx
  rw [getD_set hM]
  obtain ⟨h1, h2⟩ := cp
  have hid : ∀ z, z = c e.1 ∨ z = c e.2 → c z = z := fun z hz => by rcases hz with rfl | rfl <;> exact h2 _
  by_cases ex : max (c e.1) (c e.2) = x
  · rw [if_pos ex]
    have cM : c x = x := hid x (by omega)
    have cm : c (min (c e.1) (c e.2)) = min (c e.1) (c e.2) := hid _ (by omega)
    refine ⟨_, rfl, by omega, ?_, fun hh => ?_⟩
    · unfold mergeC
      rw [cm, cM, if_pos ex.symm]
      split <;> omega
    · unfold mergeC
      rw [cM, if_pos ex.symm]; exact hh
  · rw [if_neg ex]
    obtain ⟨a, q1, q2, q3, q4⟩ := h3 x hx
    refine ⟨a, q1, q2, merge_keep q3, fun hh => ?_⟩
    have := q4 hh
    unfold mergeC
    rw [this, if_neg (by omega)]
def sumN (l : List Int) : Nat := (l.map Int.toNat).sum
theorem sum_set : ∀ (l : List Int) (i : Nat) (v : Int), i < l.length → sumN (l.set i v) + (l.getD i default).toNat = sumN l + v.toNat
  | [], _, _, h => by simp at h
  | a :: l, 0, v, _ => by simp [sumN]; omega
  | a :: l, i + 1, v, h => by
    have := sum_set l i v (by simpa using h)
    simp only [sumN, List.set_cons_succ, List.map_cons, List.sum_cons, List.getD_cons_succ] at this ⊢
    omega
open Go.Proofs
theorem getD_mem {α : Type} [Inhabited α] {l : List α} {i : Nat} (h : i < l.length) : l.getD i default ∈ l := by
  rw [List.getD_eq_getElem?_getD, List.getElem?_eq_getElem h, Option.getD_some]; exact List.getElem_mem h
theorem getD_ext {α : Type} [Inhabited α] {a b : List α} (hl : a.length = b.length) (h : ∀ i, i < a.length → a.getD i default = b.getD i default) : a = b := by
  refine List.ext_getElem hl (fun i h1 h2 => ?_)
  have := h i h1
  simpa only [List.getD_eq_getElem?_getD, List.getElem?_eq_getElem h1, List.getElem?_eq_getElem h2, Option.getD_some] using this
theorem root_e {l : List Int} {c : Nat → Nat} (h : Fo l c) {v : Nat} (hv : v < l.length) (hl : l.length < 4294967296) : ∃ l', (roadmap_Components_2_C (v : Int) l).o = some ((c v : Int), l') ∧ l'.length = l.length ∧ Fo l' c ∧
    ∀ i, i < l.length → l.getD i default = (c i : Int) → l'.getD i default = (c i : Int) := by
  suffices h' : ∃ r, (roadmap_Components_2_C (v : Int) l).o = some r ∧ (r.1 = (c v : Int) ∧ r.2.length = l.length ∧ Fo r.2 c ∧ ∀ i, i < l.length → l.getD i default = (c i : Int) → r.2.getD i default = (c i : Int)) by
    obtain ⟨⟨r, l'⟩, h1, h2, h3⟩ := h'
    simp only at h2 h3
    subst h2
    exact ⟨l', h1, h3⟩
  show ∃ r, (roadmap_Components_2_T (v : Int) l).run NN = some r ∧ _
  simp only [roadmap_Components_2_T, T.run]
  refine loop_mf (P := fun r : Int × List Int => r.1 = (c v : Int) ∧ r.2.length = l.length ∧ Fo r.2 c ∧ ∀ i, i < l.length → l.getD i default = (c i : Int) → r.2.getD i default = (c i : Int))
    (fun m (y : List Int × Int) => ∃ k : Nat, y.2 = (k : Int) ∧ k ≤ m ∧ k < l.length ∧ c k = c v ∧ y.1.length = l.length ∧ Fo y.1 c ∧ ∀ i, i < l.length → l.getD i default = (c i : Int) → y.1.getD i default = (c i : Int))
    (fun y : List Int × Int => y.2 = (c v : Int) ∧ y.1.length = l.length ∧ Fo y.1 c ∧ ∀ i, i < l.length → l.getD i default = (c i : Int) → y.1.getD i default = (c i : Int))
    v ⟨v, rfl, Nat.le_refl _, hv, rfl, rfl, h, fun i _ hi => hi⟩ (by omega) ?_ (fun z hz => ⟨_, rfl, hz⟩)
  rintro m ⟨l1, y⟩ ⟨k, hk, hkm, hkl, hc, hlen, hf, hkeep⟩
  simp only at hk hlen hf hkeep ⊢
  subst hk
  obtain ⟨a, q1, q2, q3, q4⟩ := hf.2 k (by omega)
  rw [grd_p (by omega), grd_p (by omega), Int.toNat_natCast, q1]
  by_cases e : a = k
  · subst e
    rw [bif_nne rfl]
    exact .inr (.inl ⟨_, rfl, by simp only; rw [← hc, q4 rfl], hlen, hf, hkeep⟩)
  · rw [bif_neq (by omega), grd_p (by omega), grd_p (by omega), grd_p (by omega), grd_p (by omega), grd_p (by omega), Int.toNat_natCast]
    obtain ⟨b, w1, w2, w3, w4⟩ := hf.2 a (by omega)
    rw [w1, grd_p (by omega), grd_p (by rw [List.length_set]; omega), grd_p (by rw [List.length_set]; omega), getD_set (by omega), if_pos rfl]
    refine .inl ⟨_, b, rfl, by omega, b, rfl, Nat.le_refl _, by omega, by omega, by simp only [List.length_set]; exact hlen, hf.set (by omega) (by omega) (by omega) (fun hh => by omega), fun i hi hli => ?_⟩
    simp only
    rw [getD_set (by omega)]
    by_cases ei : k = i
    · subst ei
      rw [if_pos rfl]
      have h1 := hkeep k hi hli
      rw [q1] at h1
      have h2 : a = c k := by omega
      have h3 := hf.root (x := a) (by omega) (by rw [q3]; exact h2.symm)
      rw [w1] at h3
      omega
    · rw [if_neg ei]; exact hkeep i hi hli
def endsV (m : S_Roadmap) (e : S_RoadmapEdge) : Bool := decide (0 ≤ e.U ∧ e.U < (m.Points.length : Int) ∧ 0 ≤ e.V ∧ e.V < (m.Points.length : Int))
def usV (s mode : Int) : Bool := bif mode == 0 then s == 1 else bif mode == 1 then (bif s == 1 then true else s == 0) else bif mode == 2 then s != 2 else false
theorem hasEnds_e (m : S_Roadmap) (e : S_RoadmapEdge) : (roadmap_hasEnds_C m e).o = some (endsV m e) := by
  show (roadmap_hasEnds_T m e).run NN = _
  simp only [roadmap_hasEnds_T, T.run, bif_some, bif_bf]
  unfold endsV
  congr 1
  rw [Bool.eq_iff_iff]
  simp only [Bool.and_eq_true, decide_eq_true_eq, ge_iff_le]
theorem joins_e (m : S_Roadmap) (e : S_RoadmapEdge) : (ref23_joins_C m e).o = some (endsV m e) := by
  show (ref23_joins_T m e).run NN = _
  simp only [ref23_joins_T, T.run, bif_some, bif_bf]
  unfold endsV
  congr 1
  rw [Bool.eq_iff_iff]
  simp only [Bool.and_eq_true, decide_eq_true_eq, ge_iff_le]
theorem usable_e (s mode : Int) : (roadmap_usable_C s mode).o = some (usV s mode) := by
  show (roadmap_usable_T s mode).run NN = _
  simp only [roadmap_usable_T, T.run, bif_some]; rfl
theorem usableIn_e (e : S_RoadmapEdge) (mode : Int) : (ref23_UsableIn_C e mode).o = some (usV e.State mode) := by
  show (ref23_UsableIn_T e mode).run NN = _
  simp only [ref23_UsableIn_T, T.run, bif_some]; rfl
def okE (m : S_Roadmap) (mode : Int) (e : S_RoadmapEdge) : Bool := endsV m e && usV e.State mode
def edL (m : S_Roadmap) (mode : Int) (k : Nat) : List (Nat × Nat) := ((m.Edges.take k).filter (okE m mode)).map fun e => (e.U.toNat, e.V.toNat)
theorem edL_zero (m : S_Roadmap) (mode : Int) : edL m mode 0 = [] := by simp [edL]
theorem edL_succ (m : S_Roadmap) (mode : Int) {k : Nat} (h : k < m.Edges.length) : edL m mode (k + 1) = if okE m mode (m.Edges.getD k default) = true then edL m mode k ++ [((m.Edges.getD k default).U.toNat, (m.Edges.getD k default).V.toNat)] else edL m mode k := by
  unfold edL
  rw [take_snoc h, List.filter_append, List.map_append]
  by_cases e : okE m mode (m.Edges.getD k default) = true
  · rw [if_pos e, List.filter_cons_of_pos e]; rfl
  · rw [if_neg e, List.filter_cons_of_neg e]; simp
def compV (m : S_Roadmap) (mode : Int) : Nat → Nat := compC (edL m mode m.Edges.length)
theorem edL_mem {m : S_Roadmap} {mode : Int} {p : Nat × Nat} (h : p ∈ edL m mode m.Edges.length) : ∃ k, k < m.Edges.length ∧ okE m mode (m.Edges.getD k default) = true ∧ p = ((m.Edges.getD k default).U.toNat, (m.Edges.getD k default).V.toNat) := by
  unfold edL at h
  obtain ⟨e, he, rfl⟩ := List.mem_map.1 h
  obtain ⟨h1, h2⟩ := List.mem_filter.1 he
  obtain ⟨k, hk, rfl⟩ := List.getElem_of_mem (List.mem_of_mem_take h1)
  have : m.Edges.getD k default = m.Edges[k] := by rw [List.getD_eq_getElem?_getD, List.getElem?_eq_getElem hk, Option.getD_some]
  exact ⟨k, hk, by rw [this]; exact h2, by rw [this]⟩
theorem mem_edL {m : S_Roadmap} {mode : Int} {k : Nat} (hk : k < m.Edges.length) (h : okE m mode (m.Edges.getD k default) = true) : ((m.Edges.getD k default).U.toNat, (m.Edges.getD k default).V.toNat) ∈ edL m mode m.Edges.length := by
  unfold edL
  rw [List.take_length]
  exact List.mem_map.2 ⟨_, List.mem_filter.2 ⟨getD_mem hk, h⟩, rfl⟩
theorem okE_ends {m : S_Roadmap} {mode : Int} {e : S_RoadmapEdge} (h : okE m mode e = true) : ∃ u v : Nat, e.U = (u : Int) ∧ e.V = (v : Int) ∧ u < m.Points.length ∧ v < m.Points.length := by
  unfold okE endsV at h
  simp only [Bool.and_eq_true, decide_eq_true_eq] at h
  obtain ⟨⟨h1, h2, h3, h4⟩, -⟩ := h
  exact ⟨e.U.toNat, e.V.toNat, by omega, by omega, by omega, by omega⟩
theorem components_e (m : S_Roadmap) (mode : Int) (hn : m.Points.length ≤ 1000) (he : m.Edges.length ≤ 1000) : ∃ r, (roadmap_Components_C m mode).o = some r ∧ r.length = m.Points.length ∧ ∀ i, i < m.Points.length → r.getD i default = (compV m mode i : Int) := by
  show ∃ r, (roadmap_Components_T m mode).run NN = some r ∧ _
  have em : (⟨m.Points, m.Edges⟩ : S_Roadmap) = m := rfl
  simp only [roadmap_Components_T, T.run, Int.toNat_natCast, List.length_replicate, em, hasEnds_e, usable_e, Option.bind_some]
  rw [grd_p (by omega)]
  refine loop_mf (P := fun r : List Int => r.length = m.Points.length ∧ ∀ i, i < m.Points.length → r.getD i default = (compV m mode i : Int))
    (fun k (y : List Int × Int) => ∃ j : Nat, y.2 = (j : Int) ∧ j + k = m.Points.length ∧ y.1.length = m.Points.length ∧ ∀ i, i < j → y.1.getD i default = (i : Int))
    (fun l : List Int => l.length = m.Points.length ∧ Fo l (compC [])) m.Points.length ⟨0, rfl, by omega, by simp, fun i hi => by omega⟩ (by omega) ?_ ?_
  · rintro k ⟨l, y⟩ ⟨j, hj, hjk, hl, hi⟩
    simp only at hj hl hi ⊢
    subst hj
    cases k with
    | zero =>
      refine .inr (.inl ⟨_, by rw [bif_dneg (by omega)], hl, Cp.id, fun x hx => ⟨x, hi x (by omega), Nat.le_refl _, rfl, fun _ => rfl⟩⟩)
    | succ k =>
      rw [bif_dpos (by omega), grd_p (by omega), Int.toNat_natCast, grd_p (by omega), wn (by omega)]
      refine .inl ⟨_, k, rfl, Nat.lt_succ_self k, j + 1, rfl, by omega, by simp only [List.length_set]; exact hl, fun i hij => ?_⟩
      simp only
      rw [getD_set (by omega)]
      split
      · omega
      · exact hi i (by omega)
  · intro l0 ⟨hl0, hf0⟩
    refine loop_mf (P := fun r : List Int => r.length = m.Points.length ∧ ∀ i, i < m.Points.length → r.getD i default = (compV m mode i : Int))
      (fun k (y : List Int × Int) => ∃ j : Nat, y.2 = (j : Int) ∧ j + k = m.Edges.length ∧ y.1.length = m.Points.length ∧ Fo y.1 (compC (edL m mode j)))
      (fun l : List Int => l.length = m.Points.length ∧ Fo l (compV m mode)) m.Edges.length ⟨0, rfl, by omega, hl0, by rw [edL_zero]; exact hf0⟩ (by omega) ?_ ?_
    · rintro k ⟨l, y⟩ ⟨j, hj, hjk, hl, hf⟩
      simp only at hj hl hf ⊢
      subst hj
      cases k with
      | zero =>
        obtain rfl : j = m.Edges.length := by omega
        exact .inr (.inl ⟨_, by rw [bif_dneg (by omega)], hl, hf⟩)
      | succ k =>
        rw [bif_dpos (by omega), grd_p (by omega), Int.toNat_natCast, wn (by omega)]
        have hs := edL_succ m mode (show j < m.Edges.length by omega)
        generalize m.Edges.getD j default = e at hs ⊢
        cases hends : endsV m e with
        | false =>
          have hok : okE m mode e = false := by unfold okE; rw [hends]; rfl
          rw [if_neg (by rw [hok]; decide)] at hs
          simp only [cond_false, andC_out]
          exact .inl ⟨_, k, rfl, Nat.lt_succ_self k, j + 1, rfl, by omega, hl, by rw [hs]; exact hf⟩
        | true =>
          simp only [cond_true, andC_out]
          cases hus : usV e.State mode with
          | false =>
            have hok : okE m mode e = false := by unfold okE; rw [hends, hus]; rfl
            rw [if_neg (by rw [hok]; decide)] at hs
            simp only [cond_false, andC_out]
            exact .inl ⟨_, k, rfl, Nat.lt_succ_self k, j + 1, rfl, by omega, hl, by rw [hs]; exact hf⟩
          | true =>
            have hok : okE m mode e = true := by unfold okE; rw [hends, hus]; rfl
            rw [if_pos hok] at hs
            obtain ⟨u, v, eu, ev, hu, hv⟩ := okE_ends hok
            simp only [cond_true, eu, ev, Int.toNat_natCast] at hs ⊢
            obtain ⟨l1, r1, r2, r3, -⟩ := root_e hf (v := u) (by omega) (by omega)
            obtain ⟨l2, s1, s2, s3, -⟩ := root_e r3 (v := v) (by omega) (by omega)
            have cp := hf.1.1
            have c1 := cp u
            have c2 := cp v
            simp only [r1, s1, Option.bind_some]
            have hmax : max ((compC (edL m mode j) u : Nat) : Int) ((compC (edL m mode j) v : Nat) : Int) = ((max (compC (edL m mode j) u) (compC (edL m mode j) v) : Nat) : Int) := by omega
            have hmin : min ((compC (edL m mode j) u : Nat) : Int) ((compC (edL m mode j) v : Nat) : Int) = ((min (compC (edL m mode j) u) (compC (edL m mode j) v) : Nat) : Int) := by omega
            rw [hmax, hmin, grd_p (by omega), Int.toNat_natCast, grd_p (by omega), andC_out]
            refine .inl ⟨_, k, rfl, Nat.lt_succ_self k, j + 1, rfl, by omega, by simp only [List.length_set]; omega, ?_⟩
            rw [hs, comp_snoc]
            exact s3.union (u, v) (by simp only; omega)
    · intro l1 ⟨hl1, hf1⟩
      refine loop_mf (P := fun r : List Int => r.length = m.Points.length ∧ ∀ i, i < m.Points.length → r.getD i default = (compV m mode i : Int))
        (fun k (y : List Int × Int) => ∃ j : Nat, y.2 = (j : Int) ∧ j + k = m.Points.length ∧ y.1.length = m.Points.length ∧ Fo y.1 (compV m mode) ∧ ∀ i, i < j → y.1.getD i default = (compV m mode i : Int))
        (fun r : List Int => r.length = m.Points.length ∧ ∀ i, i < m.Points.length → r.getD i default = (compV m mode i : Int)) m.Points.length ⟨0, rfl, by omega, hl1, hf1, fun i hi => by omega⟩ (by omega) ?_ (fun z hz => ⟨_, rfl, hz⟩)
      rintro k ⟨l, y⟩ ⟨j, hj, hjk, hl, hf, hi⟩
      simp only at hj hl hf hi ⊢
      subst hj
      cases k with
      | zero => exact .inr (.inl ⟨_, by rw [bif_dneg (by omega)], hl, fun i hi' => hi i (by omega)⟩)
      | succ k =>
        obtain ⟨l2, s1, s2, s3, s4⟩ := root_e hf (v := j) (by omega) (by omega)
        have c1 := hf.1.1 j
        rw [bif_dpos (by omega), s1]
        simp only [Option.bind_some]
        rw [grd_p (by omega), Int.toNat_natCast, grd_p (by omega), wn (by omega)]
        refine .inl ⟨_, k, rfl, Nat.lt_succ_self k, j + 1, rfl, by omega, by simp only [List.length_set]; omega, s3.set (by omega) c1 (hf.1.2 j) (fun hh => hh), fun i hij => ?_⟩
        simp only
        rw [getD_set (by omega)]
        split
        · rename_i e; rw [e]
        · exact s4 i (by omega) (hi i (by omega))
open Go.Proofs
theorem sumN_le (l : List Int) (B : Nat) (h : ∀ v ∈ l, v.toNat ≤ B) : sumN l ≤ B * l.length := by
  induction l with
  | nil => simp [sumN]
  | cons a l ih =>
    have h1 := h a (List.mem_cons_self ..)
    have h2 := ih fun v hv => h v (List.mem_cons_of_mem _ hv)
    have h3 : sumN (a :: l) = a.toNat + sumN l := by simp [sumN]
    rw [h3, List.length_cons, Nat.mul_succ]; omega
def GoodO (n : Nat) (c : Nat → Nat) (o : List Int) : Prop := o.length = n ∧ ∀ x, x < n → ∃ a : Nat, o.getD x default = (a : Int) ∧ a ≤ x ∧ c a = c x
def FixE (m : S_Roadmap) (mode : Int) (o : List Int) (k : Nat) : Prop := ∀ j, j < k → okE m mode (m.Edges.getD j default) = true → o.getD (m.Edges.getD j default).U.toNat default = o.getD (m.Edges.getD j default).V.toNat default
theorem good_fix {m : S_Roadmap} {mode : Int} {o : List Int} (h : GoodO m.Points.length (compV m mode) o) (hf : FixE m mode o m.Edges.length) {i : Nat} (hi : i < m.Points.length) : o.getD i default = (compV m mode i : Int) := by
  have cp := comp_cp (edL m mode m.Edges.length)
  have hg : ∀ e ∈ edL m mode m.Edges.length, (fun x => o.getD x default) e.1 = (fun x => o.getD x default) e.2 := fun e he => by
    obtain ⟨k, hk, hok, rfl⟩ := edL_mem he
    exact hf k hk hok
  have h1 : o.getD (compC (edL m mode m.Edges.length) i) default = o.getD i default := comp_g (g := fun x => o.getD x default) hg i
  have h2 : compC (edL m mode m.Edges.length) i ≤ i := cp.1 i
  obtain ⟨a, q1, q2, q3⟩ := h.2 i hi
  obtain ⟨b, w1, w2, w3⟩ := h.2 _ (show compC (edL m mode m.Edges.length) i < m.Points.length by omega)
  have h3 : compC (edL m mode m.Edges.length) a ≤ a := cp.1 a
  have q3' : compC (edL m mode m.Edges.length) a = compC (edL m mode m.Edges.length) i := q3
  show _ = ((compC (edL m mode m.Edges.length) i : Nat) : Int)
  rw [q1, w1] at h1
  rw [q1]
  omega
theorem refComp_e (m : S_Roadmap) (mode : Int) (hn : m.Points.length ≤ 30) (he : m.Edges.length ≤ 1000) : ∃ r, (ref23_Components_C m mode).o = some r ∧ r.length = m.Points.length ∧ ∀ i, i < m.Points.length → r.getD i default = (compV m mode i : Int) := by
  show ∃ r, (ref23_Components_T m mode).run NN = some r ∧ _
  have em : (⟨m.Points, m.Edges⟩ : S_Roadmap) = m := rfl
  simp only [ref23_Components_T, T.run, em, joins_e, usableIn_e, Option.bind_some]
  refine loop_mf (P := fun r : List Int => r.length = m.Points.length ∧ ∀ i, i < m.Points.length → r.getD i default = (compV m mode i : Int))
    (fun k (y : List Int × Int) => ∃ j : Nat, y.2 = (j : Int) ∧ j + k = m.Points.length ∧ y.1.length = j ∧ ∀ i, i < j → y.1.getD i default = (i : Int))
    (fun o : List Int => GoodO m.Points.length (compV m mode) o) m.Points.length ⟨0, rfl, by omega, by simp [nl], fun i hi => by omega⟩ (by omega) ?_ ?_
  · rintro k ⟨l, y⟩ ⟨j, hj, hjk, hl, hi⟩
    simp only at hj hl hi ⊢
    subst hj
    cases k with
    | zero => exact .inr (.inl ⟨_, by rw [bif_dneg (by omega)], by omega, fun x hx => ⟨x, hi x (by omega), Nat.le_refl _, rfl⟩⟩)
    | succ k =>
      rw [bif_dpos (by omega), grd_p (by simp only [List.length_cons, List.length_nil, maxLen_eq]; omega), wn (by omega)]
      refine .inl ⟨_, k, rfl, Nat.lt_succ_self k, j + 1, rfl, by omega, by simp only [List.length_append, List.length_cons, List.length_nil]; omega, fun i hij => ?_⟩
      simp only [List.getD_eq_getElem?_getD] at hi ⊢
      by_cases e : i < j
      · rw [List.getElem?_append_left (by omega)]; exact hi i e
      · obtain rfl : i = j := by omega
        rw [List.getElem?_append_right (by omega), hl, Nat.sub_self]; rfl
  · intro o0 hg0
    refine loop_mf (P := fun r : List Int => r.length = m.Points.length ∧ ∀ i, i < m.Points.length → r.getD i default = (compV m mode i : Int))
      (fun M (y : List Int × Bool) => GoodO m.Points.length (compV m mode) y.1 ∧ ((y.2 = true ∧ sumN y.1 + 1 ≤ M) ∨ (y.2 = false ∧ FixE m mode y.1 m.Edges.length)))
      (fun o : List Int => GoodO m.Points.length (compV m mode) o ∧ FixE m mode o m.Edges.length) 901 ⟨hg0, .inl ⟨rfl, ?_⟩⟩ (by omega) ?_ (fun z hz => ⟨_, rfl, hz.1.1, fun i hi => good_fix hz.1 hz.2 hi⟩)
    · have : sumN o0 ≤ 30 * o0.length := sumN_le o0 30 fun v hv => by
        obtain ⟨k, hk, rfl⟩ := List.getElem_of_mem hv
        obtain ⟨a, q1, q2, -⟩ := hg0.2 k (by have := hg0.1; omega)
        rw [List.getD_eq_getElem?_getD, List.getElem?_eq_getElem hk, Option.getD_some] at q1
        have := hg0.1
        omega
      have := hg0.1
      simp only; omega
    · rintro M ⟨o, ag⟩ ⟨hg, hag⟩
      simp only at hg hag ⊢
      rcases hag with ⟨rfl, hM⟩ | ⟨rfl, hfix⟩
      · simp only [cond_true]
        suffices hi : ∃ r, _ = some r ∧ (∃ (o' : List Int) (ag' : Bool), r = Step3.next (o', ag') ∧ GoodO m.Points.length (compV m mode) o' ∧ ((ag' = true ∧ sumN o' < sumN o) ∨ (ag' = false ∧ FixE m mode o' m.Edges.length))) by
          obtain ⟨r, e, o', ag', rfl, h1, h2⟩ := hi
          refine .inl ⟨_, M - 1, e, by omega, h1, ?_⟩
          rcases h2 with ⟨h2, h3⟩ | h2
          · exact .inl ⟨h2, by simp only; omega⟩
          · exact .inr h2
        refine loop_mf (fun k (y : List Int × Bool × Int) => ∃ j : Nat, y.2.2 = (j : Int) ∧ j + k = m.Edges.length ∧ GoodO m.Points.length (compV m mode) y.1 ∧ ((y.2.1 = true ∧ sumN y.1 < sumN o) ∨ (y.2.1 = false ∧ y.1 = o ∧ FixE m mode o j)))
          (fun y : List Int × Bool => GoodO m.Points.length (compV m mode) y.1 ∧ ((y.2 = true ∧ sumN y.1 < sumN o) ∨ (y.2 = false ∧ FixE m mode y.1 m.Edges.length))) m.Edges.length ⟨0, rfl, by omega, hg, .inr ⟨rfl, rfl, fun j hj => by omega⟩⟩ (by omega) ?_ (fun z hz => ⟨_, rfl, z.1, z.2, rfl, hz⟩)
        rintro k ⟨o1, ag, y⟩ ⟨j, hj, hjk, hg1, hag⟩
        simp only at hj hg1 hag ⊢
        subst hj
        cases k with
        | zero =>
          obtain rfl : j = m.Edges.length := by omega
          refine .inr (.inl ⟨_, by rw [bif_dneg (by omega)], hg1, ?_⟩)
          rcases hag with h | ⟨h1, h2, h3⟩
          · exact .inl h
          · subst h2; exact .inr ⟨h1, h3⟩
        | succ k =>
          have hjl : j < m.Edges.length := by omega
          have keep : (okE m mode (m.Edges.getD j default) = true → o1.getD (m.Edges.getD j default).U.toNat default = o1.getD (m.Edges.getD j default).V.toNat default) →
              GoodO m.Points.length (compV m mode) o1 ∧ ((ag = true ∧ sumN o1 < sumN o) ∨ (ag = false ∧ o1 = o ∧ FixE m mode o (j + 1))) := fun hk => by
            refine ⟨hg1, ?_⟩
            rcases hag with h | ⟨h1, h2, h3⟩
            · exact .inl h
            · refine .inr ⟨h1, h2, fun j' hj' hok => ?_⟩
              by_cases e : j' = j
              · subst e; subst h2; exact hk hok
              · exact h3 j' (by omega) hok
          have hce : okE m mode (m.Edges.getD j default) = true → compV m mode (m.Edges.getD j default).U.toNat = compV m mode (m.Edges.getD j default).V.toNat := fun hok => comp_edge (mem_edL hjl hok)
          rw [bif_dpos (by omega), grd_p (by omega), Int.toNat_natCast, wn (by omega)]
          generalize m.Edges.getD j default = e at keep hce ⊢
          cases hends : endsV m e with
          | false =>
            have hok : okE m mode e = false := by unfold okE; rw [hends]; rfl
            simp only [Bool.not_false, cond_true, andC_out]
            exact .inl ⟨_, k, rfl, Nat.lt_succ_self k, j + 1, rfl, by omega, keep (fun h => by rw [hok] at h; cases h)⟩
          | true =>
            simp only [Bool.not_true, cond_false]
            cases hus : usV e.State mode with
            | false =>
              have hok : okE m mode e = false := by unfold okE; rw [hends, hus]; rfl
              simp only [Bool.not_false, cond_true, andC_out]
              exact .inl ⟨_, k, rfl, Nat.lt_succ_self k, j + 1, rfl, by omega, keep (fun h => by rw [hok] at h; cases h)⟩
            | true =>
              have hok : okE m mode e = true := by unfold okE; rw [hends, hus]; rfl
              obtain ⟨u, v, eu, ev, hu, hv⟩ := okE_ends hok
              have hce := hce hok
              have hl1 := hg1.1
              simp only [Bool.not_true, cond_false, eu, ev, Int.toNat_natCast] at keep hce ⊢
              rw [grd_p (by omega), grd_p (by omega), grd_p (by omega), grd_p (by omega), andC_out]
              obtain ⟨a, a1, a2, a3⟩ := hg1.2 u hu
              obtain ⟨b, b1, b2, b3⟩ := hg1.2 v hv
              by_cases hab : a = b
              · have hq : o1.getD u default = o1.getD v default := by rw [a1, b1, hab]
                rw [bif_eq hq, andC_out]
                exact .inl ⟨_, k, rfl, Nat.lt_succ_self k, j + 1, rfl, by omega, keep (fun _ => hq)⟩
              · have hq : o1.getD u default ≠ o1.getD v default := by rw [a1, b1]; omega
                have huv : u ≠ v := fun h => hq (by rw [h])
                have hmin : min (a : Int) (b : Int) = ((min a b : Nat) : Int) := by omega
                rw [bif_ne hq, a1, b1, hmin, grd_p (by omega), grd_p (by omega), grd_p (by omega), grd_p (by omega), grd_p (by omega), grd_p (by omega), grd_p (by rw [List.length_set]; omega), grd_p (by rw [List.length_set]; omega), andC_out]
                refine .inl ⟨_, k, rfl, Nat.lt_succ_self k, j + 1, rfl, by omega, ⟨by simp only [List.length_set]; exact hl1, fun x hx => ?_⟩, .inl ⟨rfl, ?_⟩⟩
                · simp only
                  rw [getD_set (by rw [List.length_set]; omega), getD_set (by omega)]
                  have cm : compV m mode (min a b) = compV m mode u := by
                    by_cases hh : a ≤ b
                    · rw [Nat.min_eq_left hh]; exact a3
                    · rw [Nat.min_eq_right (by omega), b3]; exact hce.symm
                  by_cases ev' : v = x
                  · subst ev'
                    rw [if_pos rfl]
                    exact ⟨_, rfl, by omega, by rw [cm]; exact hce⟩
                  · rw [if_neg ev']
                    by_cases eu' : u = x
                    · subst eu'
                      rw [if_pos rfl]
                      exact ⟨_, rfl, by omega, cm⟩
                    · rw [if_neg eu']; exact hg1.2 x hx
                · have s1 := sum_set o1 u ((min a b : Nat) : Int) (by omega)
                  have s2 := sum_set (o1.set u ((min a b : Nat) : Int)) v ((min a b : Nat) : Int) (by rw [List.length_set]; omega)
                  rw [getD_set (by omega), if_neg huv, b1] at s2
                  rw [a1] at s1
                  simp only [Int.toNat_natCast] at s1 s2
                  simp only
                  have hs : sumN o1 ≤ sumN o := by
                    rcases hag with ⟨-, h⟩ | ⟨-, h, -⟩
                    · omega
                    · rw [h]; exact Nat.le_refl _
                  omega
      · exact .inr (.inl ⟨_, rfl, hg, hfix⟩)
def atV (m : S_Roadmap) (v : Int) (e : S_RoadmapEdge) : Bool := endsV m e && (e.U == v || e.V == v)
def incL (m : S_Roadmap) (v : Int) (j : Nat) : List Int := ((List.range j).filter fun i : Nat => atV m v (m.Edges.getD i default)).map fun (i : Nat) => (i : Int)
theorem incL_succ (m : S_Roadmap) (v : Int) (j : Nat) : incL m v (j + 1) = if atV m v (m.Edges.getD j default) = true then incL m v j ++ [(j : Int)] else incL m v j := by
  unfold incL
  rw [List.range_succ, List.filter_append, List.map_append]
  by_cases e : atV m v (m.Edges.getD j default) = true
  · rw [if_pos e]; simp only [List.filter_cons, List.filter_nil]; rw [if_pos e]; rfl
  · rw [if_neg e]; simp only [List.filter_cons, List.filter_nil]; rw [if_neg e]; simp
theorem incL_len (m : S_Roadmap) (v : Int) (j : Nat) : (incL m v j).length ≤ j := by
  unfold incL
  rw [List.length_map]
  exact Nat.le_trans (List.length_filter_le _ _) (by simp)
theorem incident_e (m : S_Roadmap) (v : Int) (he : m.Edges.length ≤ 1000) : (roadmap_Incident_C m v).o = some (incL m v m.Edges.length) := by
  show (roadmap_Incident_T m v).run NN = _
  simp only [roadmap_Incident_T, T.run, hasEnds_e, Option.bind_some, bif_out, andC_out, bif_tb]
  refine (loop_to (fun j => (incL m v j, (j : Int))) (incL m v m.Edges.length) m.Edges.length rfl (by show _ < 4294967296; omega) (fun j hj => ?_) ?_).trans rfl
  · have hl := incL_len m v j
    rw [bif_dpos (by omega), grd_p (by omega), wn (by omega), Int.toNat_natCast, incL_succ]
    unfold atV
    cases endsV m (m.Edges.getD j default) with
    | false => rfl
    | true =>
      simp only [cond_true, andC_out, Bool.true_and]
      cases ((m.Edges.getD j default).U == v || (m.Edges.getD j default).V == v) with
      | false => rfl
      | true =>
        simp only [cond_true, if_true]
        rw [grd_p (by simp only [List.length_cons, List.length_nil, maxLen_eq]; omega)]; rfl
  · rw [bif_dneg (by omega)]
theorem refIncident_e (m : S_Roadmap) (v : Int) (he : m.Edges.length ≤ 1000) : (ref23_Incident_C m v).o = some (incL m v m.Edges.length) := by
  show (ref23_Incident_T m v).run NN = _
  simp only [ref23_Incident_T, T.run, joins_e, Option.bind_some, bif_out, andC_out, bif_tb]
  refine (loop_to (fun j => (incL m v j, (j : Int))) (incL m v m.Edges.length) m.Edges.length rfl (by show _ < 4294967296; omega) (fun j hj => ?_) ?_).trans rfl
  · have hl := incL_len m v j
    rw [bif_dpos (by omega), grd_p (by omega), wn (by omega), Int.toNat_natCast, incL_succ]
    unfold atV
    cases endsV m (m.Edges.getD j default) with
    | false => rfl
    | true =>
      simp only [cond_true, andC_out, Bool.true_and]
      cases ((m.Edges.getD j default).U == v || (m.Edges.getD j default).V == v) with
      | false => rfl
      | true =>
        simp only [cond_true, if_true]
        rw [grd_p (by simp only [List.length_cons, List.length_nil, maxLen_eq]; omega)]; rfl
  · rw [bif_dneg (by omega)]
theorem same_nums (a : List Int) (h : a.length < 4294967296) : (make_Same_int_C a a).o = some true := by
  show (make_Same_int_T a a).run NN = _
  simp only [make_Same_int_T, T.run]
  rw [bif_nne rfl]
  refine (scanI (fun _ => none) a.length h (fun j hj => ?_) ?_).trans ?_
  · rw [bif_dpos (by omega), grd_p (by omega), grd_p (by omega), wn (by omega), bif_nne rfl]
  · rw [bif_dneg (by omega)]
  · rw [(scan_none _ _).2 (fun _ _ _ => rfl)]
theorem lists_e (m : S_Roadmap) (v mode : Int) (hn : m.Points.length ≤ 30) (he : m.Edges.length ≤ 1000) : (law25_lists_C m v mode).o = some true := by
  show (law25_lists_T m v mode).run NN = _
  have em : (⟨m.Points, m.Edges⟩ : S_Roadmap) = m := rfl
  have hl := incL_len m v m.Edges.length
  obtain ⟨r1, e1, l1, h1⟩ := components_e m mode (by omega) he
  obtain ⟨r2, e2, l2, h2⟩ := refComp_e m mode hn he
  obtain rfl : r1 = r2 := getD_ext (by omega) fun i hi => by rw [h1 i (by omega), h2 i (by omega)]
  simp only [law25_lists_T, T.run, em, incident_e m v he, refIncident_e m v he, same_nums _ (show (incL m v m.Edges.length).length < 4294967296 by omega), e1, e2, same_nums r1 (by omega), Option.bind_some, cond_true]
def GrB (m : S_Roadmap) : Prop := (2 ≤ m.Points.length ∧ m.Points.length ≤ 9) ∧ m.Edges.length ≤ 90 ∧ ∀ e ∈ m.Edges, 0 ≤ e.U ∧ e.U < (m.Points.length : Int) ∧ 0 ≤ e.V ∧ e.V < (m.Points.length : Int)
theorem make_Claim_x (k : Int) : ∃ x, (make_Claim_C k).o = some x := by
  show ∃ x, (make_Claim_T k).run NN = some x
  simp only [make_Claim_T, T.run]
  cases (k == 1) with
  | true => exact ⟨_, rfl⟩
  | false =>
    cases (k == 2) with
    | true => exact ⟨_, rfl⟩
    | false => cases (k == 3) <;> exact ⟨_, rfl⟩
theorem make_Graph_x (l : List Int) (hl : l.length < 4294967296) : ∃ m, (make_Graph_C l).o = some m ∧ GrB m := by
  show ∃ m, (make_Graph_T l).run NN = some m ∧ GrB m
  have ef : (make_From_C l).o = some (l, 0) := rfl
  obtain ⟨r0, p0, q0, u0, v0, w0, x0⟩ := Source_Next_x (l := l) (n := 0) hl (by omega) (by omega) (k := 8) (by decide) (by decide)
  simp only [make_Graph_T, T.run, ef, q0, Option.bind_some]
  rw [w64 (by omega) (by omega)]
  obtain ⟨n, hn, n1, n2⟩ : ∃ n : Nat, 2 + r0 = (n : Int) ∧ 2 ≤ n ∧ n ≤ 9 := ⟨(2 + r0).toNat, by omega, by omega, by omega⟩
  rw [hn]
  refine loop_mf (P := GrB) (fun k (y : List (List Int) × Int) => ∃ j : Nat, y.2 = (j : Int) ∧ j + k = n ∧ y.1.length = j) (fun z : List (List Int) => z.length = n) n ⟨0, rfl, by omega, by simp [nl]⟩ (by omega) ?_ ?_
  · rintro k ⟨z, y⟩ ⟨j, hj, hjk, hz⟩
    simp only at hj hz ⊢
    subst hj
    cases k with
    | zero => exact .inr (.inl ⟨_, by rw [bif_dneg (by omega)], by omega⟩)
    | succ k =>
      rw [bif_dpos (by omega), grd_p (by simp only [List.length_cons, List.length_nil, maxLen_eq]; omega), wn (by omega)]
      exact .inl ⟨_, k, rfl, Nat.lt_succ_self k, j + 1, rfl, by omega, by simp only [List.length_append, List.length_cons, List.length_nil]; omega⟩
  · intro pts hpts
    refine loop_mf (P := GrB) (fun k (y : List Int × Int × List S_RoadmapEdge × Int) => ∃ i : Nat, y.1 = l ∧ (0 ≤ y.2.1 ∧ y.2.1 ≤ (l.length : Int)) ∧ y.2.2.2 = (i : Int) ∧ i + k = n ∧ y.2.2.1.length ≤ 10 * i ∧ ∀ e ∈ y.2.2.1, 0 ≤ e.U ∧ e.U < (n : Int) ∧ 0 ≤ e.V ∧ e.V < (n : Int))
      (fun z : List S_RoadmapEdge => z.length ≤ 90 ∧ ∀ e ∈ z, 0 ≤ e.U ∧ e.U < (n : Int) ∧ 0 ≤ e.V ∧ e.V < (n : Int)) n ⟨0, rfl, ⟨w0, x0⟩, rfl, by omega, by simp [nl], fun e he => by cases he⟩ (by omega) ?_ (fun z hz => ⟨_, rfl, ⟨by simp only; omega, by simp only; omega⟩, hz.1, fun e he => by simp only [hpts]; exact hz.2 e he⟩)
    rintro k ⟨l1, ix, es, y⟩ ⟨i, h1, ⟨h2, h3⟩, h4, h5, h6, h7⟩
    simp only at h1 h2 h3 h4 h6 h7 ⊢
    subst h1; subst h4
    cases k with
    | zero => exact .inr (.inl ⟨_, by rw [bif_dneg (by omega)], by omega, h7⟩)
    | succ k =>
      rw [bif_dpos (by omega), wn (by omega)]
      suffices hi : ∃ r, _ = some r ∧ (∃ (ix' : Int) (es' : List S_RoadmapEdge), r = Step3.next (l1, ix', es', ((i + 1 : Nat) : Int)) ∧ (0 ≤ ix' ∧ ix' ≤ (l1.length : Int)) ∧ es'.length ≤ 10 * (i + 1) ∧ ∀ e ∈ es', 0 ≤ e.U ∧ e.U < (n : Int) ∧ 0 ≤ e.V ∧ e.V < (n : Int)) by
        obtain ⟨r, e, ix', es', rfl, k1, k2, k3⟩ := hi
        exact .inl ⟨_, k, e, Nat.lt_succ_self k, i + 1, rfl, k1, rfl, by omega, k2, k3⟩
      refine loop_mf (fun k (y : List Int × Int × List S_RoadmapEdge × Int) => ∃ j : Nat, y.1 = l1 ∧ (0 ≤ y.2.1 ∧ y.2.1 ≤ (l1.length : Int)) ∧ y.2.2.2 = (j : Int) ∧ j + k = n + 1 ∧ y.2.2.1.length ≤ 10 * i + j ∧ ∀ e ∈ y.2.2.1, 0 ≤ e.U ∧ e.U < (n : Int) ∧ 0 ≤ e.V ∧ e.V < (n : Int))
        (fun z : List Int × Int × List S_RoadmapEdge => z.1 = l1 ∧ (0 ≤ z.2.1 ∧ z.2.1 ≤ (l1.length : Int)) ∧ z.2.2.length ≤ 10 * (i + 1) ∧ ∀ e ∈ z.2.2, 0 ≤ e.U ∧ e.U < (n : Int) ∧ 0 ≤ e.V ∧ e.V < (n : Int)) (n - i) ⟨i + 1, rfl, ⟨h2, h3⟩, rfl, by omega, by simp only; omega, h7⟩ (by omega) ?_ ?_
      · rintro k' ⟨l2, ix2, es2, y2⟩ ⟨j, g1, ⟨g2, g3⟩, g4, g5, g6, g7⟩
        simp only at g1 g2 g3 g4 g6 g7 ⊢
        subst g1; subst g4
        by_cases hjn : j < n
        · rw [bif_dpos (by omega), wn (by omega)]
          obtain ⟨s1, x1, e1, a1, b1, c1, d1⟩ := Source_Next_x hl g2 g3 (k := 5) (by decide) (by decide)
          simp only [e1, Option.bind_some]
          by_cases hs : s1 < 2
          · rw [bif_dpos hs]
            obtain ⟨s2, x2, e2, a2, b2, c2, d2⟩ := Source_Next_x hl c1 d1 (k := 7) (by decide) (by decide)
            simp only [e2, Option.bind_some]
            obtain ⟨s3, x3, e3, a3, b3, c3, d3⟩ := Source_Next_x hl c2 d2 (k := 8) (by decide) (by decide)
            simp only [e3, Option.bind_some]
            obtain ⟨cl, ecl⟩ := make_Claim_x (([0, 0, 1, 1, 1, 2, 3, 1] : List Int).getD s3.toNat 0)
            rw [grd_p (by omega), ecl]
            simp only [Option.bind_some]
            rw [grd_p (by simp only [List.length_cons, List.length_nil, maxLen_eq]; omega), andC_out]
            refine .inl ⟨_, k' - 1, rfl, by omega, j + 1, rfl, ⟨c3, d3⟩, rfl, by omega, by simp only [List.length_append, List.length_cons, List.length_nil]; omega, fun e he => ?_⟩
            rcases List.mem_append.1 he with he | he
            · exact g7 e he
            · simp at he; subst he; simp only; omega
          · rw [bif_dneg hs, andC_out]
            exact .inl ⟨_, k' - 1, rfl, by omega, j + 1, rfl, ⟨c1, d1⟩, rfl, by omega, by simp only; omega, g7⟩
        · exact .inr (.inl ⟨_, by rw [bif_dneg (by omega)], rfl, ⟨g2, g3⟩, by simp only; omega, g7⟩)
      · rintro ⟨l2, ix2, es2⟩ ⟨g1, g2, g3, g4⟩
        simp only at g1 g2 g3 g4 ⊢
        subst g1
        exact ⟨_, rfl, ix2, es2, rfl, g2, g3, g4⟩
theorem awake25 : law25_awake_C.o = some true := by kernel_rfl
theorem bif_npos' {a b : Int} {σ R : Type} (h : a = b) : (some (Step3.out (a != b)) : Option (Step3 σ Bool R)) = some (.out false) := by rw [h]; simp
open Go.Proofs
theorem roadmapLists_true (m : S_Roadmap) (v mode : Int) (l : List Int) (hl : l.length < 4294967296) : (law25_RoadmapLists_C m v mode l).o = some true := by
  show (law25_RoadmapLists_T m v mode l).run NN = _
  have em : ∀ m : S_Roadmap, (⟨m.Points, m.Edges⟩ : S_Roadmap) = m := fun _ => rfl
  have es : (make_SmallMap_C m).o = some (decide (m.Points.length ≤ 30 ∧ m.Edges.length ≤ 60)) := by
    show (make_SmallMap_T m).run NN = _
    simp only [make_SmallMap_T, T.run, bif_some, bif_bf]
    congr 1
    rw [Bool.eq_iff_iff]
    simp only [Bool.and_eq_true, decide_eq_true_eq]
    omega
  obtain ⟨g, eg, ⟨g1, g2⟩, g3, -⟩ := make_Graph_x l hl
  simp only [law25_RoadmapLists_T, T.run, em, es, eg, awake25, Option.bind_some]
  by_cases h : m.Points.length ≤ 30 ∧ m.Edges.length ≤ 60
  · rw [decide_eq_true h]
    simp only [Bool.not_true, cond_false, cond_true, make_Round_e (x := mode) (k := 5) (by decide) (by decide), make_Round_e (x := v) (k := 9) (by decide) (by decide), lists_e m _ _ h.1 (by omega), Option.bind_some]
    rw [make_Round_e (by rw [w64 (by omega) (by omega)]; omega) (by rw [w64 (by omega) (by omega)]; omega)]
    simp only [Option.bind_some, lists_e g _ _ (by omega) (by omega)]
  · rw [decide_eq_false h]; rfl
theorem roadmapNested_true (l : List Int) (hl : l.length < 4294967296) : (law25_RoadmapNested_C l).o = some true := by
  show (law25_RoadmapNested_T l).run NN = _
  obtain ⟨m, em, ⟨g1, g2⟩, g3, g4⟩ := make_Graph_x l hl
  obtain ⟨a, ea, la, ha⟩ := components_e m 0 (by omega) (by omega)
  obtain ⟨b, eb, lb, hb⟩ := components_e m 1 (by omega) (by omega)
  obtain ⟨c, ec, lc, hc⟩ := components_e m 2 (by omega) (by omega)
  have sub01 : ∀ e ∈ edL m 0 m.Edges.length, e ∈ edL m 1 m.Edges.length := fun e he => by
    obtain ⟨k, hk, hok, rfl⟩ := edL_mem he
    refine mem_edL hk ?_
    unfold okE at hok ⊢
    simp only [Bool.and_eq_true] at hok ⊢
    refine ⟨hok.1, ?_⟩
    have := hok.2
    simp only [usV] at this ⊢
    simp at this ⊢
    simp [this]
  have sub12 : ∀ e ∈ edL m 1 m.Edges.length, e ∈ edL m 2 m.Edges.length := fun e he => by
    obtain ⟨k, hk, hok, rfl⟩ := edL_mem he
    refine mem_edL hk ?_
    unfold okE at hok ⊢
    simp only [Bool.and_eq_true] at hok ⊢
    refine ⟨hok.1, ?_⟩
    have := hok.2
    simp only [usV] at this ⊢
    simp at this ⊢
    omega
  have n01 : ∀ i j, i < m.Points.length → j < m.Points.length → a.getD i default = a.getD j default → b.getD i default = b.getD j default := fun i j hi hj h => by
    rw [ha i hi, ha j hj] at h
    rw [hb i hi, hb j hj]
    have h2 : compV m 0 i = compV m 0 j := by omega
    have : compV m 1 i = compV m 1 j := comp_nested sub01 h2
    omega
  have n12 : ∀ i j, i < m.Points.length → j < m.Points.length → b.getD i default = b.getD j default → c.getD i default = c.getD j default := fun i j hi hj h => by
    rw [hb i hi, hb j hj] at h
    rw [hc i hi, hc j hj]
    have h2 : compV m 1 i = compV m 1 j := by omega
    have : compV m 2 i = compV m 2 j := comp_nested sub12 h2
    omega
  simp only [law25_RoadmapNested_T, T.run, em, ea, eb, ec, awake25, Option.bind_some]
  rw [bif_nne (by omega), bif_nne (by omega)]
  have hne : (((c.length : Nat) : Int) != ((m.Points.length : Nat) : Int)) = false := by simp [lc]
  rw [hne, andC_out]
  simp only [cond_false]
  refine (scanI (fun _ => none) m.Points.length (by omega) (fun i hi => ?_) (by rw [bif_dneg (by omega)])).trans ?_
  · rw [bif_dpos (by omega), wn (by omega), Int.toNat_natCast]
    refine (scanI (R := Step3 Int U0 Bool) (fun _ => none) m.Points.length (by omega) (fun j hj => ?_) (by rw [bif_dneg (by omega)])).trans ?_
    · rw [bif_dpos (by omega), wn (by omega), Int.toNat_natCast, grd_p (by omega), grd_p (by omega)]
      by_cases h1 : a.getD i default = a.getD j default
      · have h2 := n01 i j hi hj h1
        have h3 := n12 i j hi hj h2
        rw [bif_eq h1, grd_p (by omega), grd_p (by omega), bif_nne h2, grd_p (by omega), grd_p (by omega), bif_eq h2, grd_p (by omega), grd_p (by omega), bif_npos' h3, andC_out]; rfl
      · rw [bif_ne h1, grd_p (by omega), grd_p (by omega)]
        by_cases h2 : b.getD i default = b.getD j default
        · have h3 := n12 i j hi hj h2
          rw [bif_eq h2, grd_p (by omega), grd_p (by omega), bif_npos' h3, andC_out]; rfl
        · rw [bif_ne h2, andC_out]; rfl
    · rw [(scan_none _ _).2 (fun _ _ _ => rfl)]
  · rw [(scan_none _ _).2 (fun _ _ _ => rfl)]
    simp only
    refine (scanI (fun _ => none) m.Edges.length (by omega) (fun k hk => ?_) (by rw [bif_dneg (by omega)])).trans ?_
    · have hmem := g4 _ (getD_mem hk)
      have i1 : okE m 0 (m.Edges.getD k default) = true → a.getD (m.Edges.getD k default).U.toNat default = a.getD (m.Edges.getD k default).V.toNat default := fun hok => by
        have := comp_edge (mem_edL hk hok)
        rw [ha _ (by omega), ha _ (by omega)]
        have h2 : compV m 0 (m.Edges.getD k default).U.toNat = compV m 0 (m.Edges.getD k default).V.toNat := this
        omega
      have i2 : okE m 2 (m.Edges.getD k default) = true → c.getD (m.Edges.getD k default).U.toNat default = c.getD (m.Edges.getD k default).V.toNat default := fun hok => by
        have := comp_edge (mem_edL hk hok)
        rw [hc _ (by omega), hc _ (by omega)]
        have h2 : compV m 2 (m.Edges.getD k default).U.toNat = compV m 2 (m.Edges.getD k default).V.toNat := this
        omega
      rw [bif_dpos (by omega), wn (by omega), Int.toNat_natCast, grd_p (by omega)]
      generalize m.Edges.getD k default = e at hmem i1 i2 ⊢
      have hends : endsV m e = true := by unfold endsV; rw [decide_eq_true hmem]
      unfold okE at i1 i2
      rw [hends] at i1 i2
      by_cases s1 : e.State = 1
      · have q1 := i1 (by rw [s1]; rfl)
        have q2 := i2 (by rw [s1]; rfl)
        rw [bif_eq s1, grd_p (by omega), grd_p (by omega), bif_nne q1, bif_neq (by omega), grd_p (by omega), grd_p (by omega), bif_npos' q2, andC_out]; rfl
      · rw [bif_ne s1]
        by_cases s2 : e.State = 2
        · rw [bif_nne s2, andC_out]; rfl
        · have q2 := i2 (by simp [usV, s2])
          rw [bif_neq s2, grd_p (by omega), grd_p (by omega), bif_npos' q2, andC_out]; rfl
    · rw [(scan_none _ _).2 (fun _ _ _ => rfl)]
end Go.Abs
