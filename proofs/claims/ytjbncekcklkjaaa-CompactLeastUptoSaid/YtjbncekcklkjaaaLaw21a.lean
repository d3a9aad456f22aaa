/-
  Chapter 21, plain: what Pack, Unpack and Size compute.
-/
import Derived.Test.YtjbncekcklkjaaaPLib
import Derived.Test.YtjbncekcklkjaaaG1
namespace Go.Abs
abbrev V3 := Int × Int × Int

/-! ### Same -/
theorem same_vec (N : Nat) (a : List V3) (h : a.length < N) (h2 : a.length < 1000000000000) : make_Same_api_Vec_F N a a = some true := by
  unfold make_Same_api_Vec_F
  rw [bif_neg (by simp)]
  refine andK_inl (y := .u) (iter_out (fun i => (i : Int)) rfl a.length h (fun i hi => ?_) ?_)
  · try dsimp only
    rw [bif_dpos (by omega), grd_pos (by omega), grd_pos (by omega), bif_neg (by simp), w64n (by omega)]
  · try dsimp only
    rw [bif_dneg (by omega)]
theorem same_int (N : Nat) (a : List Int) (h : a.length < N) (h2 : a.length < 1000000000000) : make_Same_int_F N a a = some true := by
  unfold make_Same_int_F
  rw [bif_neg (by simp)]
  refine andK_inl (y := .u) (iter_out (fun i => (i : Int)) rfl a.length h (fun i hi => ?_) ?_)
  · try dsimp only
    rw [bif_dpos (by omega), grd_pos (by omega), grd_pos (by omega), bif_neg (by simp), w64n (by omega)]
  · try dsimp only
    rw [bif_dneg (by omega)]
theorem same_piece (N : Nat) (a : S_Piece) (h : a.Normals.length < N) (h2 : a.Normals.length < 1000000000000) : make_SamePiece_F N a a = some true := by
  unfold make_SamePiece_F
  rw [bif_pos (by simp), bif_pos (by simp), same_vec N _ h h2]; rfl

def SmallP (M : Nat) (l : List S_Piece) : Prop := l.length ≤ M ∧ ∀ p ∈ l, p.Normals.length ≤ M
def SmallU (M : Nat) (l : List S_Use) : Prop := l.length ≤ M ∧ ∀ p ∈ l, p.Numbers.length ≤ M

theorem getD_mem {α : Type} [Inhabited α] {l : List α} {i : Nat} (h : i < l.length) : l.getD i default ∈ l := by
  simp [List.getD_eq_getElem?_getD, h]

theorem same_pieces (N M : Nat) (l : List S_Piece) (hM : M < N) (hM2 : M < 1000000000000) (h : SmallP M l) : make_SamePieces_F N l l = some true := by
  unfold make_SamePieces_F
  obtain ⟨h1, h2⟩ := h
  rw [bif_neg (by simp)]
  refine andK_inl (y := .u) (iter_out (fun i => (i : Int)) rfl l.length (by omega) (fun i hi => ?_) ?_)
  · have := h2 _ (getD_mem hi)
    try dsimp only
    rw [bif_dpos (by omega), grd_pos (by omega), grd_pos (by omega), Int.toNat_natCast, same_piece N _ (by omega) (by omega), Option.bind_some, bif_neg (by simp), w64n (by omega)]
  · try dsimp only
    rw [bif_dneg (by omega)]

theorem same_packed (N M : Nat) (p : S_Packed) (hM : M < N) (hM2 : M < 1000000000000) (h1 : p.Table.length ≤ M) (h : SmallU M p.Uses) : make_SamePacked_F N p p = some true := by
  unfold make_SamePacked_F
  obtain ⟨h2, h3⟩ := h
  rw [same_vec N _ (by omega) (by omega), Option.bind_some, bif_neg (by simp), andC_out, bif_neg (by simp)]
  refine andK_inl (y := .u) (iter_out (fun i => (i : Int)) rfl p.Uses.length (by omega) (fun i hi => ?_) ?_)
  · have := h3 _ (getD_mem hi)
    try dsimp only
    rw [bif_dpos (by omega), grd_pos (by omega), grd_pos (by omega), bif_neg (by simp), bif_neg (by simp), Int.toNat_natCast, same_int N _ (by omega) (by omega), Option.bind_some, andC_out, bif_neg (by simp), w64n (by omega)]
  · try dsimp only
    rw [bif_dneg (by omega)]

/-! ### The number of a normal -/
def num (l : List V3) (n : V3) : Int :=
  match l.findIdx? (· == n) with
  | some i => i
  | none => -1

theorem v3_beq (a b : V3) : ((a.1 == b.1) && ((a.2.1 == b.2.1) && ((a.2.2 == b.2.2) && true))) = (a == b) := by
  obtain ⟨a1, a2, a3⟩ := a; obtain ⟨b1, b2, b3⟩ := b
  rw [Bool.eq_iff_iff]; simp

theorem number_eq (N : Nat) (l : List V3) (n : V3) (h : l.length < N) (h2 : l.length < 1000000000000) : ref19_number_F N l n = some (num l n) := by
  unfold ref19_number_F num
  cases hf : l.findIdx? (· == n) with
  | none =>
    rw [List.findIdx?_eq_none_iff] at hf
    refine andK_inl (y := .u) (iter_out (fun i => (i : Int)) rfl l.length (by omega) (fun i hi => ?_) ?_)
    · have := hf _ (getD_mem hi)
      try dsimp only
      rw [bif_dpos (by omega), grd_pos (by omega), v3_beq, Int.toNat_natCast, bif_neg this, w64n (by omega)]
    · try dsimp only
      rw [bif_dneg (by omega)]
  | some k =>
    rw [List.findIdx?_eq_some_iff_getElem] at hf
    obtain ⟨hk, h3, h4⟩ := hf
    refine andK_inr (iter_fin (fun i => (i : Int)) rfl k (by omega) (fun i hi => ?_) ?_)
    · have hi' : i < l.length := by omega
      have := h4 i hi
      try dsimp only
      rw [bif_dpos (by omega), grd_pos (by omega), v3_beq, Int.toNat_natCast, bif_neg (by simpa [List.getD_eq_getElem?_getD, hi'] using this), w64n (by omega)]
    · try dsimp only
      rw [bif_dpos (by omega), grd_pos (by omega), v3_beq, Int.toNat_natCast, bif_pos (by simpa [List.getD_eq_getElem?_getD, hk] using h3)]

theorem num_neg {l : List V3} {n : V3} : num l n < 0 ↔ n ∉ l := by
  unfold num
  cases hf : l.findIdx? (· == n) with
  | none =>
    rw [List.findIdx?_eq_none_iff] at hf
    simp only [show (-1 : Int) < 0 by omega, true_iff]
    intro hn; simpa using hf n hn
  | some k =>
    rw [List.findIdx?_eq_some_iff_getElem] at hf
    obtain ⟨hk, h3, _⟩ := hf
    have : n ∈ l := by have := List.getElem_mem hk; rw [show l[k] = n by simpa using h3] at this; exact this
    simp only [this, not_true, iff_false]; omega

/-! ### Packing -/
def addN (t : List V3) (n : V3) : List V3 × Int := if n ∈ t then (t, num t n) else (t ++ [n], t.length)
def packNs (t : List V3) (ns : List V3) : List V3 × List Int := ns.foldl (fun a n => ((addN a.1 n).1, a.2 ++ [(addN a.1 n).2])) (t, [])
def packU (a : List V3 × List S_Use) (p : S_Piece) : List V3 × List S_Use := ((packNs a.1 p.Normals).1, a.2 ++ [⟨p.Depth, p.Index, (packNs a.1 p.Normals).2⟩])
def packM (l : List S_Piece) : List V3 × List S_Use := l.foldl packU ([], [])

theorem packNs_snoc (t ns : List V3) (n : V3) : packNs t (ns ++ [n]) = ((addN (packNs t ns).1 n).1, (packNs t ns).2 ++ [(addN (packNs t ns).1 n).2]) := by
  simp [packNs, List.foldl_append]
theorem packM_snoc (l : List S_Piece) (p : S_Piece) : packM (l ++ [p]) = packU (packM l) p := by simp [packM, List.foldl_append]

theorem addN_len (t : List V3) (n : V3) : t.length ≤ (addN t n).1.length ∧ (addN t n).1.length ≤ t.length + 1 := by unfold addN; split <;> simp
theorem packNs_len (t ns : List V3) : t.length ≤ (packNs t ns).1.length ∧ (packNs t ns).1.length ≤ t.length + ns.length ∧ (packNs t ns).2.length = ns.length := by
  have key : ∀ k, k ≤ ns.length → t.length ≤ (packNs t (ns.take k)).1.length ∧ (packNs t (ns.take k)).1.length ≤ t.length + k ∧ (packNs t (ns.take k)).2.length = k := by
    intro k
    induction k with
    | zero => intro _; simp [packNs]
    | succ k ih =>
      intro hk
      rw [take_snoc (by omega), packNs_snoc]
      have h1 := ih (by omega)
      have h2 := addN_len (packNs t (ns.take k)).1 (ns.getD k default)
      simp only [List.length_append, List.length_cons, List.length_nil]
      omega
  have := key ns.length (Nat.le_refl _)
  rwa [take_all (Nat.le_refl _)] at this

def total (l : List S_Piece) : Nat := (l.map (fun p => p.Normals.length)).sum
theorem total_snoc (l : List S_Piece) (p : S_Piece) : total (l ++ [p]) = total l + p.Normals.length := by simp [total]
theorem total_take (l : List S_Piece) (k : Nat) : total (l.take k) ≤ total l := by
  conv => rhs; rw [← List.take_append_drop k l]
  simp only [total, List.map_append, List.sum_append]; omega
theorem packM_len (l : List S_Piece) : (packM l).1.length ≤ total l ∧ (packM l).2.length = l.length := by
  have key : ∀ k, k ≤ l.length → (packM (l.take k)).1.length ≤ total (l.take k) ∧ (packM (l.take k)).2.length = k := by
    intro k
    induction k with
    | zero => intro _; simp [packM, total]
    | succ k ih =>
      intro hk
      rw [take_snoc (by omega), packM_snoc, total_snoc]
      have h1 := ih (by omega)
      have h2 := packNs_len (packM (l.take k)).1 (l.getD k default).Normals
      simp only [packU, List.length_append, List.length_cons, List.length_nil]
      omega
  have := key l.length (Nat.le_refl _)
  rwa [take_all (Nat.le_refl _)] at this

theorem mem_total {l : List S_Piece} {p : S_Piece} (h : p ∈ l) : p.Normals.length ≤ total l := by
  induction l with
  | nil => cases h
  | cons a l ih =>
    simp only [total, List.map_cons, List.sum_cons]
    rcases List.mem_cons.1 h with rfl | h
    · omega
    · have := ih h; simp only [total] at this; omega

theorem total_take_get (l : List S_Piece) {k : Nat} (h : k < l.length) : total (l.take k) + (l.getD k default).Normals.length ≤ total l := by
  have := total_take l (k + 1)
  rw [take_snoc h, total_snoc] at this; exact this

theorem rpack_eq (N : Nat) (l : List S_Piece) (h1 : l.length < N) (h2 : total l < N) (h3 : l.length < 1000000000) (h4 : total l < 1000000000) : ref19_Pack_F N l = some ⟨(packM l).1, (packM l).2⟩ := by
  unfold ref19_Pack_F
  refine andK_inl (y := ((packM l).1, (packM l).2)) (iter_out (fun i => ((packM (l.take i)).1, (packM (l.take i)).2, (i : Int))) rfl l.length h1 (fun i hi => ?_) ?_)
  · dsimp only
    have hpl := packM_len (l.take i)
    have htg := total_take_get l hi
    have hil : (l.take i).length = i := by rw [List.length_take]; omega
    rw [bif_dpos (by omega), grd_pos (by omega), grd_pos (by omega), Int.toNat_natCast]
    rw [take_snoc hi, packM_snoc]
    generalize l.getD i default = p at *
    generalize packM (l.take i) = q at *
    rw [show packU q p = ((packNs q.1 p.Normals).1, q.2 ++ [⟨p.Depth, p.Index, (packNs q.1 p.Normals).2⟩]) from rfl]
    refine (andK_inl (y := packNs q.1 p.Normals) (iter_out (fun k => ((packNs q.1 (p.Normals.take k)).1, (packNs q.1 (p.Normals.take k)).2, (k : Int))) rfl p.Normals.length (by omega) (fun k hk => ?_) ?_)).trans ?_
    · have hpn := packNs_len q.1 (p.Normals.take k)
      have hkl : (p.Normals.take k).length = k := by rw [List.length_take]; omega
      dsimp only
      rw [grd_pos (by omega), bif_dpos (by omega), grd_pos (by omega), grd_pos (by omega), Int.toNat_natCast, number_eq N _ _ (by omega) (by omega), Option.bind_some]
      rw [take_snoc hk, packNs_snoc]
      generalize packNs q.1 (p.Normals.take k) = r at *
      generalize p.Normals.getD k default = n at *
      by_cases hm : n ∈ r.1
      · have : ¬ num r.1 n < 0 := fun h => num_neg.1 h hm
        rw [bif_dneg this, andC_out, grd_pos (by simp only [maxLen_eq]; omega), w64n (by omega)]
        simp only [addN, hm, if_true]
      · have : num r.1 n < 0 := num_neg.2 hm
        rw [bif_dpos this, grd_pos (by omega), grd_pos (by omega), grd_pos (by simp only [maxLen_eq]; omega), andC_out, grd_pos (by simp only [maxLen_eq]; omega), w64n (by omega)]
        simp only [addN, hm, if_false]
    · dsimp only
      rw [grd_pos (by omega), bif_dneg (by omega), take_all (Nat.le_refl _)]
    · dsimp only
      rw [grd_pos (by simp only [maxLen_eq]; omega), w64n (by omega)]
  · dsimp only
    rw [bif_dneg (by omega), take_all (Nat.le_refl _)]
end Go.Abs
