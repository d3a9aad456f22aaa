/-
  Chapter 21, plain: unpacking what was packed; the least size.
-/
import Derived.Test.YtjbncekcklkjaaaLaw21b
namespace Go.Abs

/-! ### Tables that grow -/
theorem pre_getD {t T : List V3} (h : t <+: T) {i : Nat} (hi : i < t.length) : T.getD i default = t.getD i default := by
  obtain ⟨s, rfl⟩ := h
  rw [getD_left hi]

theorem addN_pre (t : List V3) (n : V3) : t <+: (addN t n).1 := by
  unfold addN; split
  · exact List.prefix_rfl
  · exact List.prefix_append _ _

theorem num_mem {t : List V3} {n : V3} (h : n ∈ t) : 0 ≤ num t n ∧ num t n < t.length ∧ t.getD (num t n).toNat default = n := by
  unfold num
  cases hf : t.findIdx? (· == n) with
  | none =>
    rw [List.findIdx?_eq_none_iff] at hf
    have := hf n h; simp at this
  | some k =>
    rw [List.findIdx?_eq_some_iff_getElem] at hf
    obtain ⟨hk, h3, _⟩ := hf
    refine ⟨by simp, by simpa using hk, ?_⟩
    simp only [Int.toNat_natCast, List.getD_eq_getElem?_getD, List.getElem?_eq_getElem hk, Option.getD_some]
    simpa using h3

theorem addN_ok {t T : List V3} {n : V3} (h : (addN t n).1 <+: T) : okN T (addN t n).2 = true ∧ unN T (addN t n).2 = n := by
  have hl := h.length_le
  unfold okN unN
  by_cases hn : n ∈ t
  · simp only [addN, hn, if_true] at h hl ⊢
    obtain ⟨h1, h2, h3⟩ := num_mem hn
    refine ⟨by simp only [decide_eq_true_eq]; omega, ?_⟩
    rw [pre_getD h (by omega), h3]
  · simp only [addN, hn, if_false] at h hl ⊢
    simp only [List.length_append, List.length_cons, List.length_nil] at hl
    refine ⟨by simp only [decide_eq_true_eq]; omega, ?_⟩
    rw [Int.toNat_natCast, pre_getD h (by simp), getD_right (Nat.le_refl _)]
    simp

theorem packNs_pre (t ns : List V3) : t <+: (packNs t ns).1 := by
  have key : ∀ k, k ≤ ns.length → t <+: (packNs t (ns.take k)).1 := by
    intro k
    induction k with
    | zero => intro _; simp [packNs]
    | succ k ih => intro hk; rw [take_snoc (by omega), packNs_snoc]; exact (ih (by omega)).trans (addN_pre _ _)
  have := key ns.length (Nat.le_refl _)
  rwa [take_all (Nat.le_refl _)] at this

theorem packNs_ok {t ns T : List V3} (h : (packNs t ns).1 <+: T) : (packNs t ns).2.all (okN T) = true ∧ (packNs t ns).2.map (unN T) = ns := by
  have key : ∀ k, k ≤ ns.length → (packNs t (ns.take k)).1 <+: T → (packNs t (ns.take k)).2.all (okN T) = true ∧ (packNs t (ns.take k)).2.map (unN T) = ns.take k := by
    intro k
    induction k with
    | zero => intro _ _; simp [packNs]
    | succ k ih =>
      intro hk hp
      rw [take_snoc (by omega), packNs_snoc] at hp ⊢
      obtain ⟨h1, h2⟩ := ih (by omega) ((addN_pre _ _).trans hp)
      obtain ⟨h3, h4⟩ := addN_ok hp
      simp only [List.all_append, List.map_append, h1, h2, List.all_cons, List.all_nil, List.map_cons, List.map_nil, h3, h4, Bool.and_self, and_self]
  have := key ns.length (Nat.le_refl _)
  rw [take_all (Nat.le_refl _)] at this
  exact this h

theorem packM_pre (l : List S_Piece) (p : S_Piece) : (packM l).1 <+: (packM (l ++ [p])).1 := by
  rw [packM_snoc]; exact packNs_pre _ _

theorem packM_ok {l : List S_Piece} {T : List V3} (h : (packM l).1 <+: T) : (packM l).2.all (fun u => u.Numbers.all (okN T)) = true ∧ (packM l).2.map (unU T) = l := by
  have key : ∀ k, k ≤ l.length → (packM (l.take k)).1 <+: T → (packM (l.take k)).2.all (fun u => u.Numbers.all (okN T)) = true ∧ (packM (l.take k)).2.map (unU T) = l.take k := by
    intro k
    induction k with
    | zero => intro _ _; simp [packM]
    | succ k ih =>
      intro hk hp
      rw [take_snoc (by omega)] at hp ⊢
      obtain ⟨h1, h2⟩ := ih (by omega) ((packM_pre _ _).trans hp)
      rw [packM_snoc] at hp ⊢
      obtain ⟨h3, h4⟩ := packNs_ok (t := (packM (l.take k)).1) (ns := (l.getD k default).Normals) hp
      simp only [packU, List.all_append, List.map_append, h1, h2, List.all_cons, List.all_nil, List.map_cons, List.map_nil, h3, h4, Bool.and_self, unU, and_self]
  have := key l.length (Nat.le_refl _)
  rw [take_all (Nat.le_refl _)] at this
  exact this h

theorem round_trip (l : List S_Piece) : unpackM ⟨(packM l).1, (packM l).2⟩ = (l, true) := by
  obtain ⟨h1, h2⟩ := packM_ok (l := l) List.prefix_rfl
  unfold unpackM
  dsimp only
  rw [if_pos h1, h2]

/-! ### Every number is used -/
def allNs (l : List S_Use) : List Int := l.flatMap (·.Numbers)

theorem addN_used (t : List V3) (n : V3) (i : Nat) (h : i < (addN t n).1.length) : i < t.length ∨ (i : Int) = (addN t n).2 := by
  unfold addN at h ⊢
  split at h
  · rename_i hn; exact .inl h
  · rename_i hn; simp only [hn, if_false]; simp at h; omega

theorem packNs_used (t ns : List V3) (i : Nat) (h : i < (packNs t ns).1.length) : i < t.length ∨ (i : Int) ∈ (packNs t ns).2 := by
  have key : ∀ k, k ≤ ns.length → i < (packNs t (ns.take k)).1.length → i < t.length ∨ (i : Int) ∈ (packNs t (ns.take k)).2 := by
    intro k
    induction k with
    | zero => intro _ h; simp [packNs] at h; exact .inl h
    | succ k ih =>
      intro hk h
      rw [take_snoc (by omega), packNs_snoc] at h ⊢
      rcases addN_used _ _ i h with h | h
      · rcases ih (by omega) h with h | h
        · exact .inl h
        · exact .inr (List.mem_append.2 (.inl h))
      · exact .inr (List.mem_append.2 (.inr (by simp [h])))
  have := key ns.length (Nat.le_refl _)
  rw [take_all (Nat.le_refl _)] at this
  exact this h

theorem packM_used (l : List S_Piece) (i : Nat) (h : i < (packM l).1.length) : (i : Int) ∈ allNs (packM l).2 := by
  have key : ∀ k, k ≤ l.length → i < (packM (l.take k)).1.length → (i : Int) ∈ allNs (packM (l.take k)).2 := by
    intro k
    induction k with
    | zero => intro _ h; simp [packM] at h
    | succ k ih =>
      intro hk h
      rw [take_snoc (by omega), packM_snoc] at h ⊢
      simp only [packU, allNs, List.flatMap_append, List.mem_append]
      rcases packNs_used _ _ i h with h | h
      · exact .inl (ih (by omega) h)
      · exact .inr (by simpa using h)
  have := key l.length (Nat.le_refl _)
  rw [take_all (Nat.le_refl _)] at this
  exact this h

/-- Places that are marked. -/
def marks (u : List Bool) (js : List Int) : List Bool := js.foldl (fun u j => u.set j.toNat true) u
theorem marks_len (u : List Bool) (js : List Int) : (marks u js).length = u.length := by
  induction js generalizing u with
  | nil => rfl
  | cons j js ih => simp only [marks, List.foldl_cons] at *; rw [ih]; simp
theorem marks_snoc (u : List Bool) (js : List Int) (j : Int) : marks u (js ++ [j]) = (marks u js).set j.toNat true := by simp [marks, List.foldl_append]
theorem marks_app (u : List Bool) (js ks : List Int) : marks u (js ++ ks) = marks (marks u js) ks := by simp [marks, List.foldl_append]
theorem marks_get (u : List Bool) (js : List Int) (i : Nat) (hi : i < u.length) (h : u.getD i default = true ∨ (i : Int) ∈ js) : (marks u js).getD i default = true := by
  induction js generalizing u with
  | nil => rcases h with h | h
           · exact h
           · cases h
  | cons j js ih =>
    simp only [marks, List.foldl_cons] at *
    refine ih _ (by simpa using hi) ?_
    by_cases e : j.toNat = i
    · left; rw [e]; simp [List.getD_eq_getElem?_getD, hi]
    · rcases h with h | h
      · left
        rw [List.getD_eq_getElem?_getD, List.getElem?_set, if_neg e, ← List.getD_eq_getElem?_getD]; exact h
      · rcases List.mem_cons.1 h with h | h
        · exact absurd (by omega) e
        · exact .inr h

theorem allNs_take (l : List S_Use) {k : Nat} (h : k < l.length) : allNs (l.take (k + 1)) = allNs (l.take k) ++ (l.getD k default).Numbers := by
  rw [take_snoc h]; simp [allNs]

theorem nodup_ne {t : List V3} (h : t.Nodup) {i k : Nat} (hi : i < t.length) (hk : k < i) : (t.getD i default == t.getD k default) = false := by
  have hk' : k < t.length := by omega
  have := (List.pairwise_iff_getElem.1 h) k i hk' hi hk
  simp only [List.getD_eq_getElem?_getD, List.getElem?_eq_getElem hi, List.getElem?_eq_getElem hk', Option.getD_some, beq_eq_false_iff_ne]
  exact fun e => this e.symm

theorem compactRoundTrip_true (N M : Nat) (l : List S_Piece) (m : List Int) (hN : M + 100 < N) (hM : M + 100 < 100000000) (hl : SmallP M l) (ht : total l ≤ M) (hm : m.length < 1000000000) : law21_CompactRoundTrip_F N l m = some true := by
  unfold law21_CompactRoundTrip_F
  obtain ⟨out, hout, o1, o2⟩ := some_ok N m hm (by omega)
  have hto : total out ≤ 18 := by
    have key : ∀ l : List S_Piece, (∀ p ∈ l, p.Normals.length ≤ 3) → total l ≤ 3 * l.length := by
      intro l
      induction l with
      | nil => intro _; simp [total]
      | cons a l ih =>
        intro h
        have := ih (fun p hp => h p (List.mem_cons_of_mem _ hp))
        have := h a List.mem_cons_self
        simp only [total, List.map_cons, List.sum_cons, List.length_cons] at *
        omega
    have := key out o2; omega
  have hl1 := hl.1
  have hx : SmallP (M + 100) (out ++ l) := by
    refine ⟨by simp; omega, fun p hp => ?_⟩
    rcases List.mem_append.1 hp with hp | hp
    · have := o2 p hp; omega
    · have := hl.2 p hp; omega
  have htx : total (out ++ l) ≤ M + 100 := by simp only [total, List.map_append, List.sum_append] at *; omega
  have hxl := hx.1
  have hpl := packM_len (out ++ l)
  have hpn := packM_nodup (out ++ l)
  have hrt := round_trip (out ++ l)
  have hok := (packM_ok (l := out ++ l) List.prefix_rfl).1
  have hused := packM_used (out ++ l)
  have hsu := packM_small (out ++ l) (M + 100) hx
  rw [hout, Option.bind_some, grd_pos (by simp only [maxLen_eq]; omega), pack_eq N _ (by omega) (by omega) (by omega) (by omega), Option.bind_some,
    unpack_eq N (M + 100) _ (by omega) (by omega) hsu, Option.bind_some, hrt]
  generalize hT : (packM (out ++ l)).1 = T at *
  generalize hU : (packM (out ++ l)).2 = U at *
  generalize out ++ l = x at *
  dsimp only
  rw [grd_pos (by omega), Int.toNat_natCast]
  refine (andK_inl (y := (x, marks (List.replicate T.length false) (allNs U))) (iter_out (fun i => (x, marks (List.replicate T.length false) (allNs (U.take i)), (i : Int))) rfl U.length (by omega) (fun i hi => ?_) ?_)).trans ?_
  · dsimp only
    rw [bif_dpos (by omega), Int.toNat_natCast, allNs_take U hi]
    have hb := hsu.2 _ (getD_mem hi)
    have ha := all_get hok hi
    generalize U.getD i default = u at *
    refine (andK_inl (y := marks (List.replicate T.length false) (allNs (U.take i) ++ u.Numbers)) (iter_out (fun k => (marks (List.replicate T.length false) (allNs (U.take i) ++ u.Numbers.take k), (k : Int))) (by simp) u.Numbers.length (by omega) (fun k hk => ?_) ?_)).trans ?_
    · have hk2 := all_get ha hk
      simp only [okN, decide_eq_true_eq] at hk2
      dsimp only
      rw [grd_pos (by omega), bif_dpos (by omega), grd_pos (by omega), grd_pos (by omega), Int.toNat_natCast, take_snoc hk, ← List.append_assoc, marks_snoc]
      generalize u.Numbers.getD k default = j at *
      rw [bif_dneg (by omega), andC_out]
      simp only [marks_len, List.length_replicate]
      rw [bif_dneg (by omega), grd_pos (by omega), grd_pos (by omega), w64n (by omega)]
    · dsimp only
      rw [grd_pos (by omega), bif_dneg (by omega), take_all (Nat.le_refl _)]
    · try dsimp only
      rw [w64n (by omega)]
  · dsimp only
    rw [bif_dneg (by omega), take_all (Nat.le_refl _)]
  · dsimp only
    simp only [marks_len, List.length_replicate]
    refine (andK_inl (y := .u) (iter_out (fun i => (i : Int)) rfl T.length (by omega) (fun i hi => ?_) ?_)).trans ?_
    · try dsimp only
      rw [bif_dpos (by omega)]
      refine (andK_inl (y := .u) (iter_out (fun k => (k : Int)) rfl i (by omega) (fun k hk => ?_) ?_)).trans ?_
      · try dsimp only
        rw [bif_dpos (by omega), grd_pos (by omega), grd_pos (by omega), v3_beq, Int.toNat_natCast, Int.toNat_natCast, bif_neg (nodup_ne hpn hi hk), w64n (by omega)]
      · try dsimp only
        rw [bif_dneg (by omega)]
      · try dsimp only
        rw [grd_pos (by omega), Int.toNat_natCast, grd_pos (by omega), marks_get _ _ i (by simpa using hi) (.inr (hused i hi)), bif_neg (by rfl), w64n (by omega)]
    · try dsimp only
      rw [bif_dneg (by omega)]
    · try dsimp only
      rw [awake_eq N (by omega), Option.bind_some, bif_pos rfl, bif_pos rfl, same_pieces N (M + 100) x (by omega) (by omega) hx, Option.bind_some]

/-! ### The least size -/
theorem nodup_le : ∀ {t T : List V3}, t.Nodup → (∀ a ∈ t, a ∈ T) → t.length ≤ T.length
  | [], _, _, _ => Nat.zero_le _
  | a :: t, T, hn, h => by
    have h1 := h a List.mem_cons_self
    have hn' := List.nodup_cons.1 hn
    have := nodup_le (t := t) (T := T.erase a) hn'.2 (fun b hb => (List.mem_erase_of_ne (fun e => by subst e; exact hn'.1 hb)).2 (h b (List.mem_cons_of_mem _ hb)))
    have := List.length_erase_of_mem h1
    have := List.length_pos_of_mem h1
    simp only [List.length_cons]; omega

theorem addN_sub {t : List V3} {n a : V3} (h : a ∈ (addN t n).1) : a ∈ t ∨ a = n := by
  unfold addN at h; split at h
  · exact .inl h
  · simpa using h
theorem packNs_sub {t ns : List V3} {a : V3} (h : a ∈ (packNs t ns).1) : a ∈ t ∨ a ∈ ns := by
  have key : ∀ k, k ≤ ns.length → a ∈ (packNs t (ns.take k)).1 → a ∈ t ∨ a ∈ ns := by
    intro k
    induction k with
    | zero => intro _ h; exact .inl (by simpa [packNs] using h)
    | succ k ih =>
      intro hk h
      rw [take_snoc (by omega), packNs_snoc] at h
      rcases addN_sub h with h | h
      · exact ih (by omega) h
      · exact .inr (h ▸ getD_mem (by omega))
  have := key ns.length (Nat.le_refl _)
  rw [take_all (Nat.le_refl _)] at this
  exact this h
theorem packM_sub {l : List S_Piece} {a : V3} (h : a ∈ (packM l).1) : ∃ p ∈ l, a ∈ p.Normals := by
  have key : ∀ k, k ≤ l.length → a ∈ (packM (l.take k)).1 → ∃ p ∈ l, a ∈ p.Normals := by
    intro k
    induction k with
    | zero => intro _ h; simp [packM] at h
    | succ k ih =>
      intro hk h
      rw [take_snoc (by omega), packM_snoc] at h
      rcases packNs_sub h with h | h
      · exact ih (by omega) h
      · exact ⟨_, getD_mem (by omega), h⟩
  have := key l.length (Nat.le_refl _)
  rw [take_all (Nat.le_refl _)] at this
  exact this h

theorem ok_pre {T T' : List V3} (h : T <+: T') {j : Int} (hj : okN T j = true) : okN T' j = true ∧ unN T' j = unN T j := by
  have hl := h.length_le
  simp only [okN, decide_eq_true_eq] at hj ⊢
  exact ⟨by omega, by unfold unN; rw [pre_getD h (by omega)]⟩
theorem oks_pre {T T' : List V3} (h : T <+: T') {l : List Int} (hj : l.all (okN T) = true) : l.all (okN T') = true ∧ l.map (unN T') = l.map (unN T) := by
  rw [List.all_eq_true] at hj ⊢
  exact ⟨fun j hm => (ok_pre h (hj j hm)).1, List.map_congr_left fun j hm => (ok_pre h (hj j hm)).2⟩
theorem uses_pre {T T' : List V3} (h : T <+: T') {l : List S_Use} (hj : l.all (fun u => u.Numbers.all (okN T)) = true) : l.all (fun u => u.Numbers.all (okN T')) = true ∧ l.map (unU T') = l.map (unU T) := by
  rw [List.all_eq_true] at hj ⊢
  exact ⟨fun u hm => (oks_pre h (hj u hm)).1, List.map_congr_left fun u hm => by unfold unU; rw [(oks_pre h (hj u hm)).2]⟩

theorem least_built (N : Nat) (x : List S_Piece) (T : List V3) (U : List S_Use) (hall : U.all (fun u => u.Numbers.all (okN T)) = true) (hmap : U.map (unU T) = x) (M : Nat) (hN : M < N) (hM : M < 1000000) (hx : SmallP M x) (ht : total x ≤ M) (hT : T.length ≤ M) (h100 : 100 ≤ M) :
    ((compact_Unpack_F N (⟨T, U⟩ : S_Packed)).bind fun y1 => (law21_awake_F N).bind fun y2 => bif y2 then bif y1.2 then (make_SamePieces_F N x y1.1).bind fun y3 => bif y3 then (compact_Pack_F N x).bind fun y4 => (compact_Size_F N y4).bind fun y5 => (compact_Size_F N (⟨T, U⟩ : S_Packed)).bind fun y6 => some (decide (y5 ≤ y6)) else some false else some false else some false) = some true := by
  have hlen : U.length = x.length := by rw [← hmap]; simp
  have hx1 := hx.1
  have hnum : numbers U = total x := by rw [← hmap]; simp only [numbers, total, List.map_map]; congr 1; exact List.map_congr_left fun u _ => by simp [unU]
  have hsu : SmallU M U := by
    refine ⟨by omega, fun u hu => ?_⟩
    have := hx.2 (unU T u) (by rw [← hmap]; exact List.mem_map_of_mem hu)
    simpa [unU] using this
  have hun : unpackM ⟨T, U⟩ = (x, true) := by unfold unpackM; dsimp only; rw [if_pos hall, hmap]
  have hpl := packM_len x
  have hle : (packM x).1.length ≤ T.length := by
    refine nodup_le (packM_nodup x) fun a ha => ?_
    obtain ⟨p, hp, hap⟩ := packM_sub ha
    rw [← hmap] at hp
    obtain ⟨u, hu, rfl⟩ := List.mem_map.1 hp
    simp only [unU] at hap
    obtain ⟨j, hj, rfl⟩ := List.mem_map.1 hap
    have := List.all_eq_true.1 (List.all_eq_true.1 hall u hu) j hj
    simp only [okN, decide_eq_true_eq] at this
    exact getD_mem (by omega)
  rw [unpack_eq N M _ hN (by omega) hsu, Option.bind_some, hun, awake_eq N (by omega), Option.bind_some, bif_pos rfl, bif_pos rfl, same_pieces N M x hN (by omega) hx, Option.bind_some, bif_pos rfl,
    pack_eq N x (by omega) (by omega) (by omega) (by omega), Option.bind_some, size_eq N _ (by dsimp only; omega) (by dsimp only; omega) (by dsimp only; omega) (by dsimp only; rw [numbers_pack]; omega), Option.bind_some,
    size_eq N _ (by dsimp only; omega) (by dsimp only; omega) (by dsimp only; omega) (by dsimp only; omega), Option.bind_some]
  simp only [sizeM, numbers_pack, hnum, Option.some.injEq, decide_eq_true_eq]
  omega

theorem ex_true {o : Option Bool} (h : ∃ b, o = some b ∧ b = true) : o = some true := by obtain ⟨b, rfl, rfl⟩ := h; rfl

theorem compactLeast_true (N : Nat) (l m : List Int) (hN : 1000 < N) (hl : l.length < 1000000000) (hm : m.length < 1000000000) : law21_CompactLeast_F N l m = some true := by
  unfold law21_CompactLeast_F make_From_F
  obtain ⟨x, hx, o1, o2⟩ := some_ok N l hl (by omega)
  have key : ∀ l : List S_Piece, (∀ p ∈ l, p.Normals.length ≤ 3) → total l ≤ 3 * l.length := by
    intro l
    induction l with
    | nil => intro _; simp [total]
    | cons a l ih =>
      intro h
      have := ih (fun p hp => h p (List.mem_cons_of_mem _ hp))
      have := h a List.mem_cons_self
      simp only [total, List.map_cons, List.sum_cons, List.length_cons] at *
      omega
  have htx := key x o2
  rw [hx, Option.bind_some, Option.bind_some]
  dsimp only
  refine ex_true ?_
  refine ex_loop (fun s : (List Int) × Int × (List V3) × (List S_Use) × Int => s.1 = m ∧ 0 ≤ s.2.1 ∧ s.2.1 ≤ m.length ∧ 0 ≤ s.2.2.2.2 ∧ s.2.2.2.2 ≤ x.length ∧ s.2.2.2.1.all (fun u => u.Numbers.all (okN s.2.2.1)) = true ∧
      s.2.2.2.1.map (unU s.2.2.1) = x.take s.2.2.2.2.toNat ∧ (s.2.2.1.length : Int) ≤ 3 * s.2.2.2.2) (fun s => x.length - s.2.2.2.2.toNat)
    (fun y : (List V3) × (List S_Use) => y.2.all (fun u => u.Numbers.all (okN y.1)) = true ∧ y.2.map (unU y.1) = x ∧ y.1.length ≤ 18) ⟨rfl, Int.le_refl 0, by dsimp only; omega, Int.le_refl 0, by dsimp only; omega, by simp [nl], by simp [nl], by simp [nl]⟩ (by dsimp only; omega) ?_ ?_
  · rintro ⟨s1, s2, T, U, i⟩ ⟨rfl, i1, i2, i3, i4, i5, i6, i7⟩
    dsimp only at i1 i2 i3 i4 i5 i6 i7 ⊢
    by_cases h : i < x.length
    · left
      have hi : i.toNat < x.length := by omega
      rw [bif_dpos h, grd_pos (by omega), grd_pos (by omega), grd_pos (by omega), grd_pos (by omega)]
      have hUl : U.length = i.toNat := by have := congrArg List.length i6; simp at this; omega
      have hp3 := o2 _ (getD_mem hi)
      have hts := take_snoc hi
      generalize x.getD i.toNat default = p at *
      refine ex_loop (fun s : (List Int) × Int × (List V3) × (List Int) × Int => s.1 = s1 ∧ 0 ≤ s.2.1 ∧ s.2.1 ≤ s1.length ∧ 0 ≤ s.2.2.2.2 ∧ s.2.2.2.2 ≤ p.Normals.length ∧ T <+: s.2.2.1 ∧ s.2.2.2.1.all (okN s.2.2.1) = true ∧
          s.2.2.2.1.map (unN s.2.2.1) = p.Normals.take s.2.2.2.2.toNat ∧ (s.2.2.1.length : Int) ≤ T.length + s.2.2.2.2) (fun s => p.Normals.length - s.2.2.2.2.toNat)
        (fun y : (List Int) × Int × (List V3) × (List Int) => y.1 = s1 ∧ 0 ≤ y.2.1 ∧ y.2.1 ≤ s1.length ∧ T <+: y.2.2.1 ∧ y.2.2.2.all (okN y.2.2.1) = true ∧ y.2.2.2.map (unN y.2.2.1) = p.Normals ∧ y.2.2.1.length ≤ T.length + 3)
        ⟨rfl, i1, i2, Int.le_refl 0, by dsimp only; omega, List.prefix_rfl, by simp [nl], by simp [nl], by simp⟩ (by dsimp only; omega) ?_ ?_
      · rintro ⟨r1, r2, T', ns, k⟩ ⟨rfl, j1, j2, j3, j4, j5, j6, j7, j8⟩
        dsimp only at j1 j2 j3 j4 j5 j6 j7 j8 ⊢
        rw [grd_pos (by omega), grd_pos (by omega)]
        by_cases hk : k < p.Normals.length
        · left
          have hk' : k.toNat < p.Normals.length := by omega
          have hnl : ns.length = k.toNat := by have := congrArg List.length j7; simp at this; omega
          rw [bif_dpos hk]
          have hts' := take_snoc hk'
          generalize p.Normals.getD k.toNat default = n at *
          refine ex_loop (fun s : (List Int) × Int × Int × Int => s.1 = r1 ∧ 0 ≤ s.2.1 ∧ s.2.1 ≤ r1.length ∧ 0 ≤ s.2.2.2 ∧ s.2.2.2 ≤ T'.length ∧ (s.2.2.1 = -1 ∨ (okN T' s.2.2.1 = true ∧ unN T' s.2.2.1 = n))) (fun s => T'.length - s.2.2.2.toNat)
            (fun y : (List Int) × Int × Int => y.1 = r1 ∧ 0 ≤ y.2.1 ∧ y.2.1 ≤ r1.length ∧ (y.2.2 = -1 ∨ (okN T' y.2.2 = true ∧ unN T' y.2.2 = n))) ⟨rfl, j1, j2, Int.le_refl 0, by dsimp only; omega, .inl rfl⟩ (by dsimp only; omega) ?_ ?_
          · rintro ⟨q1, q2, j, t⟩ ⟨rfl, t1, t2, t3, t4, t5⟩
            dsimp only at t1 t2 t3 t4 t5 ⊢
            by_cases ht : t < T'.length
            · left
              rw [bif_dpos ht, grd_pos (by omega), grd_pos (by omega), grd_pos (by omega), grd_pos (by omega), grd_pos (by omega), v3_beq]
              cases hb : (T'.getD t.toNat default == n) with
              | true =>
                rw [bif_pos rfl]
                obtain ⟨rr, jj, hr, v1, v2, v3, v4⟩ := next_ok N q1 q2 4 hm t1 t2 (by omega) (by omega)
                rw [hr, Option.bind_some, andC_out]
                dsimp only
                have hT : okN T' t = true ∧ unN T' t = n := ⟨by simp only [okN, decide_eq_true_eq]; omega, by unfold unN; simpa using hb⟩
                by_cases hc : rr > 0
                · rw [bif_dpos hc, andC_out, w64 (by omega) (by omega)]
                  exact ⟨_, rfl, ⟨rfl, v3, v4, by dsimp only; omega, by dsimp only; omega, .inr hT⟩, by dsimp only; omega⟩
                · rw [bif_dneg hc, andC_out, w64 (by omega) (by omega)]
                  exact ⟨_, rfl, ⟨rfl, v3, v4, by dsimp only; omega, by dsimp only; omega, t5⟩, by dsimp only; omega⟩
              | false =>
                rw [bif_neg rfl, andC_out]
                dsimp only
                rw [bif_neg rfl, andC_out, w64 (by omega) (by omega)]
                exact ⟨_, rfl, ⟨rfl, t1, t2, by dsimp only; omega, by dsimp only; omega, t5⟩, by dsimp only; omega⟩
            · right
              rw [bif_dneg ht]
              exact ⟨_, rfl, rfl, t1, t2, t5⟩
          · rintro ⟨q1, q2, j⟩ ⟨rfl, t1, t2, t5⟩
            dsimp only at t1 t2 t5 ⊢
            by_cases hj : j < 0
            · rw [bif_dpos hj, grd_pos (by omega), grd_pos (by omega), grd_pos (by omega), grd_pos (by simp only [maxLen_eq]; omega), andC_out]
              dsimp only
              rw [grd_pos (by simp only [maxLen_eq]; omega), w64 (by omega) (by omega)]
              have hpre : T' <+: T' ++ [n] := List.prefix_append _ _
              obtain ⟨u1, u2⟩ := oks_pre hpre j6
              refine ⟨_, rfl, ⟨rfl, t1, t2, by dsimp only; omega, by dsimp only; omega, j5.trans hpre, ?_, ?_, by simp; omega⟩, by dsimp only; omega⟩
              · simp only [List.all_append, u1, List.all_cons, List.all_nil, Bool.and_true, Bool.true_and, okN, decide_eq_true_eq]; simp
                omega
              · simp only [List.map_append, u2, j7, List.map_cons, List.map_nil]
                rw [show (k + 1).toNat = k.toNat + 1 by omega, hts']
                congr 2
                unfold unN
                rw [Int.toNat_natCast, getD_right (Nat.le_refl _)]; simp
            · rw [bif_dneg hj, andC_out]
              dsimp only
              rw [grd_pos (by simp only [maxLen_eq]; omega), w64 (by omega) (by omega)]
              obtain ⟨c1, c2⟩ := t5.resolve_left (by omega)
              refine ⟨_, rfl, ⟨rfl, t1, t2, by dsimp only; omega, by dsimp only; omega, j5, ?_, ?_, by dsimp only; omega⟩, by dsimp only; omega⟩
              · simp only [List.all_append, j6, List.all_cons, List.all_nil, Bool.and_true, c1]
              · simp only [List.map_append, j7, List.map_cons, List.map_nil, c2]
                rw [show (k + 1).toNat = k.toNat + 1 by omega, hts']
        · right
          rw [bif_dneg hk]
          refine ⟨_, rfl, rfl, j1, j2, j5, j6, ?_, by dsimp only; omega⟩
          rw [j7, take_all (by omega)]
      · rintro ⟨r1, r2, T', ns⟩ ⟨rfl, j1, j2, j5, j6, j7, j8⟩
        dsimp only at j1 j2 j5 j6 j7 j8 ⊢
        rw [grd_pos (by simp only [maxLen_eq]; omega), w64 (by omega) (by omega)]
        obtain ⟨u1, u2⟩ := uses_pre j5 i5
        refine ⟨_, rfl, ⟨rfl, j1, j2, by dsimp only; omega, by dsimp only; omega, ?_, ?_, by dsimp only; omega⟩, by dsimp only; omega⟩
        · simp only [List.all_append, u1, List.all_cons, List.all_nil, Bool.and_true, j6]
        · simp only [List.map_append, u2, i6, List.map_cons, List.map_nil]
          rw [show (i + 1).toNat = i.toNat + 1 by omega, hts]
          simp only [unU, j7]
    · right
      rw [bif_dneg h]
      refine ⟨_, rfl, i5, ?_, by dsimp only; omega⟩
      rw [i6, take_all (by omega)]
  · rintro ⟨T, U⟩ ⟨h1, h2, h3⟩
    exact ⟨true, least_built N x T U h1 h2 100 (by omega) (by omega) ⟨by omega, fun p hp => by have := o2 p hp; omega⟩ (by omega) (by dsimp only at h3; omega) (by omega), rfl⟩
end Go.Abs
