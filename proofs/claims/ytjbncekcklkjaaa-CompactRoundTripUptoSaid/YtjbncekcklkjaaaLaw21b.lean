/-
  Chapter 21, plain: the program's Pack, Unpack and Size; what they compute together.
-/
import Derived.Test.YtjbncekcklkjaaaLaw21a
namespace Go.Abs

/-! ### The map of numbers -/
def mapOf (t : List V3) : List (V3 × Int) := (t.zipIdx.map (fun x => (x.1, (x.2 : Int)))).reverse
theorem mapOf_nil : mapOf [] = [] := rfl
theorem mapOf_snoc (t : List V3) (n : V3) : mapOf (t ++ [n]) = (n, (t.length : Int)) :: mapOf t := by
  simp [mapOf, List.zipIdx_append]

theorem keyEq_v3 (a b : V3) : keyEq (cells_arr_3_int64 a) (cells_arr_3_int64 b) = (a == b) := by
  obtain ⟨a1, a2, a3⟩ := a; obtain ⟨b1, b2, b3⟩ := b
  simp only [keyEq, cells_arr_3_int64, cellsEq, if_true, Option.map_some]
  rw [Bool.eq_iff_iff]; simp

theorem mdom_mapOf (t : List V3) (n : V3) : mdom cells_arr_3_int64 (mapOf t) (cells_arr_3_int64 n) = decide (n ∈ t) := by
  have key : ∀ k, k ≤ t.length → mdom cells_arr_3_int64 (mapOf (t.take k)) (cells_arr_3_int64 n) = decide (n ∈ t.take k) := by
    intro k
    induction k with
    | zero => intro _; simp [mapOf, mdom]
    | succ k ih =>
      intro hk
      rw [take_snoc (by omega), mapOf_snoc]
      simp only [mdom, keyEq_v3, ih (by omega)]
      rw [Bool.eq_iff_iff]
      simp [List.mem_append]
      exact Or.comm
  have := key t.length (Nat.le_refl _)
  rwa [take_all (Nat.le_refl _)] at this

theorem num_at {t : List V3} {k : Nat} (hn : t.Nodup) (hk : k < t.length) : num t (t.getD k default) = k := by
  unfold num
  have : t.findIdx? (· == t.getD k default) = some k := by
    rw [List.findIdx?_eq_some_iff_getElem]
    refine ⟨hk, by simp [List.getD_eq_getElem?_getD, hk], fun j hj => ?_⟩
    have hj' : j < t.length := by omega
    simp only [List.getD_eq_getElem?_getD, hk, List.getElem?_eq_getElem, Option.getD_some, beq_iff_eq]
    intro e
    exact (List.pairwise_iff_getElem.1 hn) j k hj' hk hj e
  rw [this]

theorem mget_mapOf (t : List V3) (n : V3) (hn : t.Nodup) : mget cells_arr_3_int64 (mapOf t) (cells_arr_3_int64 n) = if n ∈ t then num t n else 0 := by
  have key : ∀ k, k ≤ t.length → mget cells_arr_3_int64 (mapOf (t.take k)) (cells_arr_3_int64 n) = if n ∈ t.take k then num t n else 0 := by
    intro k
    induction k with
    | zero => intro _; simp [mapOf, mget]
    | succ k ih =>
      intro hk
      rw [take_snoc (by omega), mapOf_snoc]
      simp only [mget, keyEq_v3, ih (by omega)]
      by_cases e : n = t.getD k default
      · subst e
        rw [if_pos (by simp), if_pos (by simp), num_at hn (by omega), List.length_take]
        congr 1; omega
      · rw [if_neg (by simpa using e)]
        congr 1
        simp only [List.mem_append, List.mem_singleton, eq_iff_iff]
        exact ⟨.inl, fun h => h.resolve_right e⟩
  have := key t.length (Nat.le_refl _)
  rwa [take_all (Nat.le_refl _)] at this

theorem addN_nodup {t : List V3} {n : V3} (h : t.Nodup) : (addN t n).1.Nodup := by
  unfold addN
  split
  · exact h
  · rename_i hn
    simp only [List.nodup_append, h, true_and]
    refine ⟨by simp, fun a ha b hb => ?_⟩
    simp at hb; subst hb
    intro e; subst e; exact hn ha
theorem packNs_nodup {t ns : List V3} (h : t.Nodup) : (packNs t ns).1.Nodup := by
  have key : ∀ k, k ≤ ns.length → (packNs t (ns.take k)).1.Nodup := by
    intro k
    induction k with
    | zero => intro _; simpa [packNs] using h
    | succ k ih => intro hk; rw [take_snoc (by omega), packNs_snoc]; exact addN_nodup (ih (by omega))
  have := key ns.length (Nat.le_refl _)
  rwa [take_all (Nat.le_refl _)] at this
theorem packM_nodup (l : List S_Piece) : (packM l).1.Nodup := by
  have key : ∀ k, k ≤ l.length → (packM (l.take k)).1.Nodup := by
    intro k
    induction k with
    | zero => intro _; simp [packM]
    | succ k ih => intro hk; rw [take_snoc (by omega), packM_snoc]; exact packNs_nodup (ih (by omega))
  have := key l.length (Nat.le_refl _)
  rwa [take_all (Nat.le_refl _)] at this

theorem pack_eq (N : Nat) (l : List S_Piece) (h1 : l.length < N) (h2 : total l < N) (h3 : l.length < 1000000000) (h4 : total l < 1000000000) : compact_Pack_F N l = some ⟨(packM l).1, (packM l).2⟩ := by
  unfold compact_Pack_F
  refine andK_inl (y := ((packM l).1, (packM l).2)) (iter_out (fun i => ((packM (l.take i)).1, (packM (l.take i)).2, mapOf (packM (l.take i)).1, (i : Int))) rfl l.length h1 (fun i hi => ?_) ?_)
  · dsimp only
    have hpl := packM_len (l.take i)
    have hnd := packM_nodup (l.take i)
    have htg := total_take_get l hi
    have hil : (l.take i).length = i := by rw [List.length_take]; omega
    rw [bif_dpos (by omega), grd_pos (by omega), Int.toNat_natCast]
    rw [take_snoc hi, packM_snoc]
    generalize l.getD i default = p at *
    generalize packM (l.take i) = q at *
    rw [show packU q p = ((packNs q.1 p.Normals).1, q.2 ++ [⟨p.Depth, p.Index, (packNs q.1 p.Normals).2⟩]) from rfl]
    refine (andK_inl (y := ((packNs q.1 p.Normals).1, mapOf (packNs q.1 p.Normals).1, (packNs q.1 p.Normals).2)) (iter_out (fun k => ((packNs q.1 (p.Normals.take k)).1, mapOf (packNs q.1 (p.Normals.take k)).1, (packNs q.1 (p.Normals.take k)).2, (k : Int))) rfl p.Normals.length (by omega) (fun k hk => ?_) ?_)).trans ?_
    · have hpn := packNs_len q.1 (p.Normals.take k)
      have hkl : (p.Normals.take k).length = k := by rw [List.length_take]; omega
      have hnn := packNs_nodup (ns := p.Normals.take k) hnd
      dsimp only
      rw [bif_dpos (by omega), grd_pos (by omega), Int.toNat_natCast]
      rw [take_snoc hk, packNs_snoc]
      generalize packNs q.1 (p.Normals.take k) = r at *
      generalize p.Normals.getD k default = n at *
      rw [mdom_mapOf, mget_mapOf _ _ hnn]
      by_cases hm : n ∈ r.1
      · rw [grd_pos (by simp [hm]), bif_neg (by simp [hm]), andC_out, grd_pos (by simp only [maxLen_eq]; omega), w64n (by omega)]
        simp only [addN, hm, if_true]
      · rw [grd_pos (by simp [hm]), bif_pos (by simp [hm]), grd_pos (by simp only [maxLen_eq]; omega), andC_out, grd_pos (by simp only [maxLen_eq]; omega), w64n (by omega)]
        simp only [addN, hm, if_false, mapOf_snoc]
    · dsimp only
      rw [bif_dneg (by omega), take_all (Nat.le_refl _)]
    · dsimp only
      rw [grd_pos (by simp only [maxLen_eq]; omega), w64n (by omega)]
  · dsimp only
    rw [bif_dneg (by omega), take_all (Nat.le_refl _)]

/-! ### Unpacking -/
def okN (t : List V3) (j : Int) : Bool := decide (0 ≤ j ∧ j < t.length)
def unN (t : List V3) (j : Int) : V3 := t.getD j.toNat default
def unU (t : List V3) (u : S_Use) : S_Piece := ⟨u.Depth, u.Index, u.Numbers.map (unN t)⟩
def unpackM (p : S_Packed) : List S_Piece × Bool :=
  if p.Uses.all (fun u => u.Numbers.all (okN p.Table)) then (p.Uses.map (unU p.Table), true) else (nl, false)

/-- The first element that fails. -/
theorem first_bad {α : Type} [Inhabited α] {q : α → Bool} : ∀ (l : List α), l.all q = false → ∃ k, k < l.length ∧ q (l.getD k default) = false ∧ ∀ i, i < k → q (l.getD i default) = true
  | [], h => by simp at h
  | a :: l, h => by
    cases ha : q a with
    | false => exact ⟨0, by simp, by simpa using ha, fun i hi => by omega⟩
    | true =>
      simp only [List.all_cons, ha, Bool.true_and] at h
      obtain ⟨k, h1, h2, h3⟩ := first_bad l h
      refine ⟨k + 1, by simpa using h1, by simpa using h2, fun i hi => ?_⟩
      cases i with
      | zero => simpa using ha
      | succ i => simpa using h3 i (by omega)
theorem all_get {α : Type} [Inhabited α] {q : α → Bool} {l : List α} (h : l.all q = true) {i : Nat} (hi : i < l.length) : q (l.getD i default) = true :=
  List.all_eq_true.1 h _ (getD_mem hi)

theorem map_take_snoc {α β : Type} [Inhabited α] {f : α → β} {l : List α} {k : Nat} (h : k < l.length) : (l.take (k + 1)).map f = (l.take k).map f ++ [f (l.getD k default)] := by
  rw [take_snoc h]; simp

theorem runpack_eq (N M : Nat) (p : S_Packed) (hM : M < N) (hM2 : M < 1000000000) (hu : SmallU M p.Uses) : ref19_Unpack_F N p = some (unpackM p) := by
  obtain ⟨hu1, hu2⟩ := hu
  unfold ref19_Unpack_F
  cases hall : p.Uses.all (fun u => u.Numbers.all (okN p.Table)) with
  | true =>
    simp only [unpackM, hall, if_true]
    refine andK_inl (y := p.Uses.map (unU p.Table)) (iter_out (fun i => ((p.Uses.take i).map (unU p.Table), (i : Int))) rfl p.Uses.length (by omega) (fun i hi => ?_) ?_)
    · dsimp only
      rw [bif_dpos (by omega), grd_pos (by omega), Int.toNat_natCast, map_take_snoc hi]
      have hb := hu2 _ (getD_mem hi)
      have ha := all_get hall hi
      generalize p.Uses.getD i default = u at *
      refine (andK_inl (y := u.Numbers.map (unN p.Table)) (iter_out (fun k => ((u.Numbers.take k).map (unN p.Table), (k : Int))) rfl u.Numbers.length (by omega) (fun k hk => ?_) ?_)).trans ?_
      · dsimp only
        have hk2 := all_get ha hk
        simp only [okN, decide_eq_true_eq] at hk2
        rw [bif_dpos (by omega), grd_pos (by omega), Int.toNat_natCast, map_take_snoc hk]
        generalize u.Numbers.getD k default = j at *
        have hlen : ((u.Numbers.take k).map (unN p.Table)).length = k := by simp; omega
        rw [bif_dneg (by omega), grd_pos (by omega), andC_out, bif_dneg (by omega), grd_pos (by omega), grd_pos (by omega), grd_pos (by rw [hlen]; simp only [maxLen_eq]; omega), w64n (by omega)]
        rfl
      · dsimp only
        rw [bif_dneg (by omega), take_all (Nat.le_refl _)]
      · have hlen : ((p.Uses.take i).map (unU p.Table)).length = i := by simp; omega
        rw [grd_pos (by rw [hlen]; simp only [maxLen_eq]; omega), w64n (by omega)]
        rfl
    · dsimp only
      rw [bif_dneg (by omega), take_all (Nat.le_refl _)]
  | false =>
    simp only [unpackM, hall, if_false, Bool.false_eq_true]
    obtain ⟨k0, hk0, hbad, hgood⟩ := first_bad _ hall
    refine andK_inr (iter_fin (fun i => ((p.Uses.take i).map (unU p.Table), (i : Int))) rfl k0 (by omega) (fun i hi0 => ?_) ?_)
    · have hi : i < p.Uses.length := by omega
      dsimp only
      rw [bif_dpos (by omega), grd_pos (by omega), Int.toNat_natCast, map_take_snoc hi]
      have hb := hu2 _ (getD_mem hi)
      have ha := hgood i hi0
      generalize p.Uses.getD i default = u at *
      refine (andK_inl (y := u.Numbers.map (unN p.Table)) (iter_out (fun k => ((u.Numbers.take k).map (unN p.Table), (k : Int))) rfl u.Numbers.length (by omega) (fun k hk => ?_) ?_)).trans ?_
      · dsimp only
        have hk2 := all_get ha hk
        simp only [okN, decide_eq_true_eq] at hk2
        rw [bif_dpos (by omega), grd_pos (by omega), Int.toNat_natCast, map_take_snoc hk]
        generalize u.Numbers.getD k default = j at *
        have hlen : ((u.Numbers.take k).map (unN p.Table)).length = k := by simp; omega
        rw [bif_dneg (by omega), grd_pos (by omega), andC_out, bif_dneg (by omega), grd_pos (by omega), grd_pos (by omega), grd_pos (by rw [hlen]; simp only [maxLen_eq]; omega), w64n (by omega)]
        rfl
      · dsimp only
        rw [bif_dneg (by omega), take_all (Nat.le_refl _)]
      · have hlen : ((p.Uses.take i).map (unU p.Table)).length = i := by simp; omega
        rw [grd_pos (by rw [hlen]; simp only [maxLen_eq]; omega), w64n (by omega)]
        rfl
    · dsimp only
      rw [bif_dpos (by omega), grd_pos (by omega), Int.toNat_natCast]
      have hb := hu2 _ (getD_mem hk0)
      generalize p.Uses.getD k0 default = u at *
      obtain ⟨j0, hj0, hbadj, hgoodj⟩ := first_bad _ hbad
      refine andK_inr (iter_fin (fun k => ((u.Numbers.take k).map (unN p.Table), (k : Int))) rfl j0 (by omega) (fun k hk0' => ?_) ?_)
      · have hk : k < u.Numbers.length := by omega
        dsimp only
        have hk2 := hgoodj k hk0'
        simp only [okN, decide_eq_true_eq] at hk2
        rw [bif_dpos (by omega), grd_pos (by omega), Int.toNat_natCast, map_take_snoc hk]
        generalize u.Numbers.getD k default = j at *
        have hlen : ((u.Numbers.take k).map (unN p.Table)).length = k := by simp; omega
        rw [bif_dneg (by omega), grd_pos (by omega), andC_out, bif_dneg (by omega), grd_pos (by omega), grd_pos (by omega), grd_pos (by rw [hlen]; simp only [maxLen_eq]; omega), w64n (by omega)]
        rfl
      · dsimp only
        simp only [okN, decide_eq_false_iff_not] at hbadj
        rw [bif_dpos (by omega), grd_pos (by omega), Int.toNat_natCast]
        generalize u.Numbers.getD j0 default = j at *
        by_cases hn : j < 0
        · rw [bif_dpos hn, andC_out, bif_pos rfl]
        · rw [bif_dneg hn, grd_pos (by omega), andC_out, bif_dpos (by omega)]
theorem unpack_eq (N M : Nat) (p : S_Packed) (hM : M < N) (hM2 : M < 1000000000) (hu : SmallU M p.Uses) : compact_Unpack_F N p = some (unpackM p) := by
  obtain ⟨hu1, hu2⟩ := hu
  unfold compact_Unpack_F
  cases hall : p.Uses.all (fun u => u.Numbers.all (okN p.Table)) with
  | true =>
    simp only [unpackM, hall, if_true]
    refine andK_inl (y := p.Uses.map (unU p.Table)) (iter_out (fun i => ((p.Uses.take i).map (unU p.Table), (i : Int))) rfl p.Uses.length (by omega) (fun i hi => ?_) ?_)
    · dsimp only
      rw [bif_dpos (by omega), grd_pos (by omega), Int.toNat_natCast, map_take_snoc hi]
      have hb := hu2 _ (getD_mem hi)
      have ha := all_get hall hi
      generalize p.Uses.getD i default = u at *
      refine (andK_inl (y := u.Numbers.map (unN p.Table)) (iter_out (fun k => ((u.Numbers.take k).map (unN p.Table), (k : Int))) rfl u.Numbers.length (by omega) (fun k hk => ?_) ?_)).trans ?_
      · dsimp only
        have hk2 := all_get ha hk
        simp only [okN, decide_eq_true_eq] at hk2
        rw [bif_dpos (by omega), grd_pos (by omega), Int.toNat_natCast, map_take_snoc hk]
        generalize u.Numbers.getD k default = j at *
        have hlen : ((u.Numbers.take k).map (unN p.Table)).length = k := by simp; omega
        rw [bif_dneg (by omega), andC_out, bif_dneg (by omega), grd_pos (by omega), grd_pos (by rw [hlen]; simp only [maxLen_eq]; omega), w64n (by omega)]
        rfl
      · dsimp only
        rw [bif_dneg (by omega), take_all (Nat.le_refl _)]
      · have hlen : ((p.Uses.take i).map (unU p.Table)).length = i := by simp; omega
        rw [grd_pos (by rw [hlen]; simp only [maxLen_eq]; omega), w64n (by omega)]
        rfl
    · dsimp only
      rw [bif_dneg (by omega), take_all (Nat.le_refl _)]
  | false =>
    simp only [unpackM, hall, if_false, Bool.false_eq_true]
    obtain ⟨k0, hk0, hbad, hgood⟩ := first_bad _ hall
    refine andK_inr (iter_fin (fun i => ((p.Uses.take i).map (unU p.Table), (i : Int))) rfl k0 (by omega) (fun i hi0 => ?_) ?_)
    · have hi : i < p.Uses.length := by omega
      dsimp only
      rw [bif_dpos (by omega), grd_pos (by omega), Int.toNat_natCast, map_take_snoc hi]
      have hb := hu2 _ (getD_mem hi)
      have ha := hgood i hi0
      generalize p.Uses.getD i default = u at *
      refine (andK_inl (y := u.Numbers.map (unN p.Table)) (iter_out (fun k => ((u.Numbers.take k).map (unN p.Table), (k : Int))) rfl u.Numbers.length (by omega) (fun k hk => ?_) ?_)).trans ?_
      · dsimp only
        have hk2 := all_get ha hk
        simp only [okN, decide_eq_true_eq] at hk2
        rw [bif_dpos (by omega), grd_pos (by omega), Int.toNat_natCast, map_take_snoc hk]
        generalize u.Numbers.getD k default = j at *
        have hlen : ((u.Numbers.take k).map (unN p.Table)).length = k := by simp; omega
        rw [bif_dneg (by omega), andC_out, bif_dneg (by omega), grd_pos (by omega), grd_pos (by rw [hlen]; simp only [maxLen_eq]; omega), w64n (by omega)]
        rfl
      · dsimp only
        rw [bif_dneg (by omega), take_all (Nat.le_refl _)]
      · have hlen : ((p.Uses.take i).map (unU p.Table)).length = i := by simp; omega
        rw [grd_pos (by rw [hlen]; simp only [maxLen_eq]; omega), w64n (by omega)]
        rfl
    · dsimp only
      rw [bif_dpos (by omega), grd_pos (by omega), Int.toNat_natCast]
      have hb := hu2 _ (getD_mem hk0)
      generalize p.Uses.getD k0 default = u at *
      obtain ⟨j0, hj0, hbadj, hgoodj⟩ := first_bad _ hbad
      refine andK_inr (iter_fin (fun k => ((u.Numbers.take k).map (unN p.Table), (k : Int))) rfl j0 (by omega) (fun k hk0' => ?_) ?_)
      · have hk : k < u.Numbers.length := by omega
        dsimp only
        have hk2 := hgoodj k hk0'
        simp only [okN, decide_eq_true_eq] at hk2
        rw [bif_dpos (by omega), grd_pos (by omega), Int.toNat_natCast, map_take_snoc hk]
        generalize u.Numbers.getD k default = j at *
        have hlen : ((u.Numbers.take k).map (unN p.Table)).length = k := by simp; omega
        rw [bif_dneg (by omega), andC_out, bif_dneg (by omega), grd_pos (by omega), grd_pos (by rw [hlen]; simp only [maxLen_eq]; omega), w64n (by omega)]
        rfl
      · dsimp only
        simp only [okN, decide_eq_false_iff_not] at hbadj
        rw [bif_dpos (by omega), grd_pos (by omega), Int.toNat_natCast]
        generalize u.Numbers.getD j0 default = j at *
        by_cases hn : j < 0
        · rw [bif_dpos hn, andC_out, bif_pos rfl]
        · rw [bif_dneg hn, andC_out, bif_dpos (by omega)]

/-! ### Sizes -/
def numbers (l : List S_Use) : Nat := (l.map (fun u => u.Numbers.length)).sum
def sizeM (p : S_Packed) : Int := 3 * p.Table.length + 2 * p.Uses.length + numbers p.Uses
theorem numbers_snoc (l : List S_Use) (u : S_Use) : numbers (l ++ [u]) = numbers l + u.Numbers.length := by simp [numbers]
theorem numbers_take (l : List S_Use) (k : Nat) : numbers (l.take k) ≤ numbers l := by
  conv => rhs; rw [← List.take_append_drop k l]
  simp only [numbers, List.map_append, List.sum_append]; omega
theorem numbers_get {l : List S_Use} {k : Nat} (h : k < l.length) : numbers (l.take (k + 1)) = numbers (l.take k) + (l.getD k default).Numbers.length ∧ numbers (l.take (k + 1)) ≤ numbers l := by
  refine ⟨by rw [take_snoc h, numbers_snoc], numbers_take l (k + 1)⟩

theorem size_eq (N : Nat) (p : S_Packed) (h1 : p.Uses.length < N) (h2 : p.Uses.length < 1000000000) (h3 : p.Table.length < 1000000000) (h4 : numbers p.Uses < 1000000000) : compact_Size_F N p = some (sizeM p) := by
  unfold compact_Size_F sizeM
  dsimp only
  rw [w64 (x := 3 * (p.Table.length : Int)) (by omega) (by omega), w64 (x := 2 * (p.Uses.length : Int)) (by omega) (by omega), w64 (by omega) (by omega)]
  refine andK_inl (y := 3 * (p.Table.length : Int) + 2 * p.Uses.length + numbers p.Uses) (iter_out (fun i => (3 * (p.Table.length : Int) + 2 * p.Uses.length + numbers (p.Uses.take i), (i : Int))) (by simp [numbers]) p.Uses.length h1 (fun i hi => ?_) ?_)
  · dsimp only
    obtain ⟨q1, q2⟩ := numbers_get hi
    rw [bif_dpos (by omega), grd_pos (by omega), Int.toNat_natCast, w64n (by omega), w64 (by omega) (by omega), q1]
    congr 3; omega
  · dsimp only
    rw [bif_dneg (by omega), take_all (Nat.le_refl _)]
theorem rsize_eq (N : Nat) (p : S_Packed) (h1 : p.Uses.length < N) (h2 : p.Uses.length < 1000000000) (h3 : p.Table.length < 1000000000) (h4 : numbers p.Uses < 1000000000) : ref19_Size_F N p = some (sizeM p) := by
  unfold ref19_Size_F sizeM
  rw [w64 (x := 3 * (p.Table.length : Int)) (by omega) (by omega)]
  refine andK_inl (y := 3 * (p.Table.length : Int) + 2 * p.Uses.length + numbers p.Uses) (iter_out (fun i => (3 * (p.Table.length : Int) + 2 * i + numbers (p.Uses.take i), (i : Int))) (by simp [numbers]) p.Uses.length h1 (fun i hi => ?_) ?_)
  · dsimp only
    obtain ⟨q1, q2⟩ := numbers_get hi
    rw [bif_dpos (by omega), grd_pos (by omega), Int.toNat_natCast, w64n (by omega), w64 (x := 2 + _) (by omega) (by omega), w64 (by omega) (by omega), q1]
    congr 3; omega
  · dsimp only
    rw [bif_dneg (by omega), take_all (Nat.le_refl _)]

/-! ### Draws -/
theorem round_ok (N : Nat) (a k : Int) (h1 : 0 < k) (h2 : k < 1000000000000) : ∃ r, make_Round_F N a k = some r ∧ 0 ≤ r ∧ r < k := by
  unfold make_Round_F
  have hlo : -k < a.tmod k := by have := Int.lt_tmod_of_pos a h1; omega
  have hhi : a.tmod k < k := Int.tmod_lt_of_pos a h1
  rw [grd_pos (by omega)]
  by_cases h : a.tmod k < 0
  · rw [bif_dpos h, andC_out, w64 (by omega) (by omega)]
    exact ⟨_, rfl, by omega, by omega⟩
  · rw [bif_dneg h, andC_out]
    exact ⟨_, rfl, by omega, hhi⟩

theorem next_ok (N : Nat) (l : List Int) (i k : Int) (hl : l.length < 1000000000) (h0 : 0 ≤ i) (hi : i ≤ l.length) (h1 : 0 < k) (h2 : k < 1000000000000) :
    ∃ r j, Source_Next_F N l i k = some (r, l, j) ∧ 0 ≤ r ∧ r < k ∧ 0 ≤ j ∧ j ≤ l.length := by
  unfold Source_Next_F
  by_cases h : i ≥ l.length
  · rw [bif_dpos h]; exact ⟨0, i, rfl, by omega, by omega, by omega, by omega⟩
  · rw [bif_dneg h, w64 (x := i + 1) (by omega) (by omega), w64 (by omega) (by omega), grd_pos (by omega)]
    obtain ⟨r, hr, q1, q2⟩ := round_ok N (l.getD (i + 1 - 1).toNat default) k h1 h2
    rw [hr, Option.bind_some]
    exact ⟨r, i + 1, rfl, q1, q2, by omega, by omega⟩

theorem some_ok (N : Nat) (l : List Int) (hl : l.length < 1000000000) (hN : 10 < N) : ∃ out, law21_some_F N l = some out ∧ out.length ≤ 6 ∧ ∀ p ∈ out, p.Normals.length ≤ 3 := by
  unfold law21_some_F make_From_F
  rw [Option.bind_some]
  obtain ⟨r, j, hr, q1, q2, q3, q4⟩ := next_ok N l 0 7 hl (by omega) (by omega) (by omega) (by omega)
  rw [hr, Option.bind_some]
  dsimp only
  refine ex_loop (fun x : (List Int) × Int × (List S_Piece) × Int => x.1 = l ∧ 0 ≤ x.2.1 ∧ x.2.1 ≤ l.length ∧ 0 ≤ x.2.2.2 ∧ (x.2.2.1.length : Int) + x.2.2.2 ≤ 6 ∧ ∀ p ∈ x.2.2.1, p.Normals.length ≤ 3)
    (fun x => x.2.2.2.toNat) (fun y : List S_Piece => y.length ≤ 6 ∧ ∀ p ∈ y, p.Normals.length ≤ 3) ⟨rfl, q3, q4, q1, by simp [nl]; omega, by simp [nl]⟩ (by dsimp only; omega) ?_ (fun y hy => ⟨y, rfl, hy⟩)
  rintro ⟨x1, x2, x3, x4⟩ ⟨rfl, i1, i2, i3, i4, i5⟩
  dsimp only at i1 i2 i3 i4 i5 ⊢
  by_cases h : x4 > 0
  · left
    rw [bif_dpos h]
    obtain ⟨r1, j1, hr1, p1, p2, p3, p4⟩ := next_ok N x1 x2 4 hl i1 i2 (by omega) (by omega)
    rw [hr1, Option.bind_some]
    obtain ⟨r2, j2, hr2, s1, s2, s3, s4⟩ := next_ok N x1 j1 9 hl p3 p4 (by omega) (by omega)
    dsimp only
    rw [hr2, Option.bind_some]
    obtain ⟨r3, j3, hr3, t1, t2, t3, t4⟩ := next_ok N x1 j2 4 hl s3 s4 (by omega) (by omega)
    dsimp only
    rw [hr3, Option.bind_some]
    dsimp only
    refine ex_loop (fun x : (List Int) × Int × (List V3) × Int => x.1 = x1 ∧ 0 ≤ x.2.1 ∧ x.2.1 ≤ x1.length ∧ 0 ≤ x.2.2.2 ∧ (x.2.2.1.length : Int) + x.2.2.2 ≤ 3)
      (fun x => x.2.2.2.toNat) (fun y : (List Int) × Int × (List V3) => y.1 = x1 ∧ 0 ≤ y.2.1 ∧ y.2.1 ≤ x1.length ∧ y.2.2.length ≤ 3) ⟨rfl, t3, t4, t1, by simp [nl]; omega⟩ (by dsimp only; omega) ?_ ?_
    · rintro ⟨z1, z2, z3, z4⟩ ⟨rfl, u1, u2, u3, u4⟩
      dsimp only at u1 u2 u3 u4 ⊢
      by_cases h' : z4 > 0
      · left
        rw [bif_dpos h']
        obtain ⟨r4, j4, hr4, v1, v2, v3, v4⟩ := next_ok N z1 z2 3 hl u1 u2 (by omega) (by omega)
        rw [hr4, Option.bind_some]
        obtain ⟨r5, j5, hr5, w1, w2, w3, w4⟩ := next_ok N z1 j4 2 hl v3 v4 (by omega) (by omega)
        dsimp only
        rw [hr5, Option.bind_some, grd_pos (by simp only [maxLen_eq]; omega), Go.Abs.w64 (by omega) (by omega)]
        exact ⟨_, rfl, ⟨rfl, w3, w4, by dsimp only; omega, by simp; omega⟩, by dsimp only; omega⟩
      · right
        rw [bif_dneg h']
        exact ⟨_, rfl, rfl, u1, u2, by dsimp only; omega⟩
    · rintro ⟨y1, y2, y3⟩ ⟨rfl, hy2, hy3, hy4⟩
      dsimp only at hy2 hy3 hy4 ⊢
      rw [grd_pos (by simp only [maxLen_eq]; omega), w64 (by omega) (by omega)]
      refine ⟨_, rfl, ⟨rfl, hy2, hy3, by dsimp only; omega, by simp; omega, fun p hp => ?_⟩, by dsimp only; omega⟩
      rcases List.mem_append.1 hp with hp | hp
      · exact i5 p hp
      · simp at hp; subst hp; exact hy4
  · right
    rw [bif_dneg h]
    exact ⟨_, rfl, by omega, i5⟩

/-! ### The law -/
theorem packM_small (l : List S_Piece) (M : Nat) (h : SmallP M l) : SmallU M (packM l).2 := by
  obtain ⟨h1, h2⟩ := h
  refine ⟨by rw [(packM_len l).2]; exact h1, ?_⟩
  have key : ∀ k, k ≤ l.length → ∀ u ∈ (packM (l.take k)).2, u.Numbers.length ≤ M := by
    intro k
    induction k with
    | zero => intro _ u hu; simp [packM] at hu
    | succ k ih =>
      intro hk u hu
      rw [take_snoc (by omega), packM_snoc] at hu
      rcases List.mem_append.1 hu with hu | hu
      · exact ih (by omega) u hu
      · simp only [List.mem_singleton] at hu; subst hu
        have := (packNs_len (packM (l.take k)).1 (l.getD k default).Normals).2.2
        have := h2 _ (getD_mem (l := l) (i := k) (by omega))
        dsimp only; omega
  have := key l.length (Nat.le_refl _)
  rwa [take_all (Nat.le_refl _)] at this

theorem unpackM_small (p : S_Packed) (M : Nat) (h : SmallU M p.Uses) : SmallP M (unpackM p).1 := by
  unfold unpackM
  split
  · refine ⟨by simpa using h.1, fun q hq => ?_⟩
    simp only [List.mem_map] at hq
    obtain ⟨u, hu, rfl⟩ := hq
    simpa [unU] using h.2 u hu
  · exact ⟨by simp [nl], by simp [nl]⟩

theorem numbers_pack (l : List S_Piece) : numbers (packM l).2 = total l := by
  have key : ∀ k, k ≤ l.length → numbers (packM (l.take k)).2 = total (l.take k) := by
    intro k
    induction k with
    | zero => intro _; simp [packM, numbers, total]
    | succ k ih =>
      intro hk
      rw [take_snoc (by omega), packM_snoc, total_snoc]
      simp only [packU, numbers_snoc, ih (by omega), (packNs_len _ _).2.2]
  have := key l.length (Nat.le_refl _)
  rwa [take_all (Nat.le_refl _)] at this

theorem packs_eq (N M : Nat) (l : List S_Piece) (p : S_Packed) (hN : M < N) (hM : M < 1000000000) (hl : SmallP M l) (ht : total l ≤ M) (hp : SmallU M p.Uses) (hpt : p.Table.length ≤ M) (hpn : numbers p.Uses ≤ M) :
    law21_packs_F N l p = some true := by
  unfold law21_packs_F
  have hl1 := hl.1
  have hpl := packM_len l
  rw [unpack_eq N M p hN hM hp, Option.bind_some, runpack_eq N M p hN hM hp, Option.bind_some, pack_eq N l (by omega) (by omega) (by omega) (by omega), Option.bind_some,
    rpack_eq N l (by omega) (by omega) (by omega) (by omega), Option.bind_some, same_packed N M _ hN (by omega) (by dsimp only; omega) (packM_small l M hl), Option.bind_some, bif_pos rfl,
    same_pieces N M _ hN (by omega) (unpackM_small p M hp), Option.bind_some, bif_pos rfl, bif_pos (by simp)]
  have hp1 := hp.1
  rw [size_eq N _ (by dsimp only; omega) (by dsimp only; omega) (by dsimp only; omega) (by dsimp only; omega), Option.bind_some, rsize_eq N _ (by dsimp only; omega) (by dsimp only; omega) (by dsimp only; omega) (by dsimp only; omega), Option.bind_some]
  simp

theorem awake_eq (N : Nat) (hN : 100 < N) : law21_awake_F N = some true := by
  unfold law21_awake_F
  rw [pack_eq N _ (by simp; omega) (by simp [total]; omega) (by simp) (by simp [total]), Option.bind_some]
  rw [unpack_eq N 100 _ hN (by omega) (packM_small _ 100 ⟨by simp, by simp⟩), Option.bind_some]
  have e1 : (packM [(⟨1, 0, [(7, 0, 0)]⟩ : S_Piece), ⟨1, 1, [(7, 0, 0)]⟩]) = ([(7, 0, 0)], [⟨1, 0, [0]⟩, ⟨1, 1, [0]⟩]) := by
    simp [packM, packU, packNs, addN, num, List.findIdx?, List.findIdx?.go]
  rw [e1]
  have e2 : unpackM ⟨[(7, 0, 0)], [⟨1, 0, [0]⟩, ⟨1, 1, [0]⟩]⟩ = ([(⟨1, 0, [(7, 0, 0)]⟩ : S_Piece), ⟨1, 1, [(7, 0, 0)]⟩], true) := by
    simp [unpackM, okN, unU, unN]
  rw [e2]
  dsimp only
  rw [bif_pos (by simp), bif_pos (by simp), bif_pos rfl, same_pieces N 100 _ hN (by omega) ⟨by simp, by simp⟩, Option.bind_some, bif_pos rfl,
    size_eq N _ (by simp; omega) (by simp) (by simp) (by simp [numbers]), Option.bind_some]
  simp [sizeM, numbers]

theorem compactPacks_true (N M : Nat) (l : List S_Piece) (p : S_Packed) (m : List Int) (hN : M < N) (hM : M < 1000000000) (hM2 : 100 ≤ M) (hl : SmallP M l) (ht : total l ≤ M) (hp : SmallU M p.Uses) (hpt : p.Table.length ≤ M) (hpn : numbers p.Uses ≤ M)
    (hm : m.length < 1000000000) : law21_CompactPacks_F N l p m = some true := by
  unfold law21_CompactPacks_F
  obtain ⟨x, hx, h1, h2⟩ := some_ok N m hm (by omega)
  rw [hx, Option.bind_some, awake_eq N (by omega), Option.bind_some, bif_pos rfl, packs_eq N M l ⟨p.Table, p.Uses⟩ hN hM hl ht hp hpt hpn, Option.bind_some, bif_pos rfl]
  have htx : total x ≤ 18 := by
    have key : ∀ l : List S_Piece, (∀ p ∈ l, p.Normals.length ≤ 3) → total l ≤ 3 * l.length := by
      intro l
      induction l with
      | nil => intro _; simp [total]
      | cons a l ih =>
        intro h
        have := ih (fun p hp => h p (List.mem_cons_of_mem _ hp))
        have := h a List.mem_cons_self
        simp only [total, List.map_cons, List.sum_cons, List.length_cons] at *
        omega
    have := key x h2; omega
  have hsx : SmallP M x := ⟨by omega, fun p hp => by have := h2 p hp; omega⟩
  rw [rpack_eq N x (by omega) (by omega) (by omega) (by omega), Option.bind_some, packs_eq N M x _ hN hM hsx (by omega) (packM_small x M hsx) (by have := (packM_len x).1; dsimp only; omega) (by rw [numbers_pack]; omega), Option.bind_some]
end Go.Abs
