/-
  DL2 (a part of a claim: our own text).
-/
import Derived.Test.YtomogglfhepnmaaGreatXFDL1
namespace Go.Abs
def rng (x : az0) : Bool := !(decide (x.Lo < -268435456) || (decide (x.Lo > x.Hi) || decide (x.Hi > 268435456)))
theorem Ezl {x : az0} : rng x = true ↔ -268435456 ≤ x.Lo ∧ x.Lo ≤ x.Hi ∧ x.Hi ≤ 268435456 := by
  simp only [rng, Bool.not_eq_true', Bool.or_eq_false_iff, decide_eq_false_iff_not]; omega
def czm (v : IV3) : Bool := rng v.1 && (rng v.2.1 && rng v.2.2)
def farL (l : List IV3) (i : Nat) : Bool := !czm (l.getD i default)
def bzd (l : List IV3) : Bool := decide (1 ≤ l.length ∧ l.length ≤ 8) && bzs (farL l) l.length
theorem dz8 {l : List IV3} (h : bzd l = true) {i : Nat} (hi : i < l.length) : czm (l.getD i default) = true := by
  simp only [bzd, Bool.and_eq_true] at h
  have := noneB_iff.1 h.2 i hi
  simpa [farL] using this
theorem czj {l : List IV3} (h : bzd l = true) : 1 ≤ l.length ∧ l.length ≤ 8 := by
  simp only [bzd, Bool.and_eq_true, decide_eq_true_eq] at h; exact h.1
theorem Azu (v : IV3) : (szd v).o = some (czm v) := by
  show (lzo v).run NN = _
  simp only [lzo, T.run, T.ix, bz0, aza, dz9, czm, rng]
  cases decide (v.1.Lo < -268435456) || (decide (v.1.Lo > v.1.Hi) || decide (v.1.Hi > 268435456)) <;> cases decide (v.2.1.Lo < -268435456) || (decide (v.2.1.Lo > v.2.1.Hi) || decide (v.2.1.Hi > 268435456)) <;>
    cases decide (v.2.2.Lo < -268435456) || (decide (v.2.2.Lo > v.2.2.Hi) || decide (v.2.2.Hi > 268435456)) <;> rfl
theorem dz5 (l : List IV3) : (cz5 l).o = some (bzd l) := by
  show (nzz l).run NN = _
  simp only [nzz, T.run, T.ix, bz0, aza, dz9, bzd]
  by_cases h : 1 ≤ l.length ∧ l.length ≤ 8
  · rw [decide_eq_true h, decide_eq_false (p := (l.length : Int) < 1) (by omega), decide_eq_false (p := (l.length : Int) > 8) (by omega)]
    simp only [Bool.or_self, cond_false, Bool.true_and]
    refine (izl (fun i => sw (farL l i) false) l.length (by omega) (fun j hj => ?_) ?_).trans ?_
    · rw [az7 (by omega), azb (by omega), wn (by omega), Int.toNat_natCast, ← ezh]
      unfold farL czm rng
      generalize l.getD j default = v
      cases decide (v.1.Lo < -268435456) || (decide (v.1.Lo > v.1.Hi) || decide (v.1.Hi > 268435456)) <;> cases decide (v.2.1.Lo < -268435456) || (decide (v.2.1.Lo > v.2.1.Hi) || decide (v.2.1.Hi > 268435456)) <;>
        cases decide (v.2.2.Lo < -268435456) || (decide (v.2.2.Lo > v.2.2.Hi) || decide (v.2.2.Hi > 268435456)) <;> rfl
    · rw [az5 (by omega)]
    · rw [dzu]; cases bzs (farL l) l.length <;> rfl
  · rw [decide_eq_false h]
    by_cases h1 : (l.length : Int) < 1
    · rw [decide_eq_true h1]; rfl
    · rw [decide_eq_false h1, decide_eq_true (p := (l.length : Int) > 8) (by omega)]; rfl
theorem Cz1 (l : List IV3) : (uz6 l).o = some (bzd l) := by
  show (nzs l).run NN = _
  simp only [nzs, T.run, bz0, aza, Azu, Option.bind_some]
  refine (izl (fun i => sw (farL l i) false) (min l.length 9) (by omega) (fun j hj => ?_) ?_).trans ?_
  · have e : (bif decide ((j : Int) < (l.length : Int)) then decide ((j : Int) ≤ 8) else false) = true := by rw [az7 (by omega), decide_eq_true (p := (j : Int) ≤ 8) (by omega)]
    rw [e, cond_true, azb (by omega), wn (by omega), Int.toNat_natCast, ← ezh]; rfl
  · have e : (bif decide (((min l.length 9 : Nat) : Int) < (l.length : Int)) then decide (((min l.length 9 : Nat) : Int) ≤ 8) else false) = false := by
      by_cases hl : l.length ≤ 8
      · rw [az5 (by omega)]
      · by_cases h9 : ((min l.length 9 : Nat) : Int) < (l.length : Int)
        · rw [az7 h9, decide_eq_false (p := ((min l.length 9 : Nat) : Int) ≤ 8) (by omega)]
        · rw [az5 h9]
    rw [e, cond_false]
  · rw [dzu]
    unfold bzd
    by_cases h : 1 ≤ l.length ∧ l.length ≤ 8
    · rw [decide_eq_true h, Nat.min_eq_left (by omega), Bool.true_and]
      cases bzs (farL l) l.length
      · rfl
      · show (bif decide ((l.length : Int) ≥ 1) then _ else _) = _
        rw [az7 (by omega), decide_eq_true (p := (l.length : Int) ≤ 8) (by omega)]
    · rw [decide_eq_false h, Bool.false_and]
      cases bzs (farL l) (min l.length 9)
      · rfl
      · show (bif decide ((l.length : Int) ≥ 1) then _ else _) = _
        by_cases h1 : (l.length : Int) ≥ 1
        · rw [az7 h1, decide_eq_false (p := (l.length : Int) ≤ 8) (by omega)]
        · rw [az5 h1]
def dLo (n : V3) (v : IV3) : Int := min (n.1 * v.1.Lo) (n.1 * v.1.Hi) + min (n.2.1 * v.2.1.Lo) (n.2.1 * v.2.1.Hi) + min (n.2.2 * v.2.2.Lo) (n.2.2 * v.2.2.Hi)
def dHi (n : V3) (v : IV3) : Int := max (n.1 * v.1.Lo) (n.1 * v.1.Hi) + max (n.2.1 * v.2.1.Lo) (n.2.1 * v.2.1.Hi) + max (n.2.2 * v.2.2.Lo) (n.2.2 * v.2.2.Hi)
theorem Kzn {a b : Int} (ha : -16384 ≤ a ∧ a ≤ 16384) (hb : -268435456 ≤ b ∧ b ≤ 268435456) : -4398046511104 ≤ a * b ∧ a * b ≤ 4398046511104 := by
  have h : (a * b).natAbs ≤ 16384 * 268435456 := by rw [Int.natAbs_mul]; exact Nat.mul_le_mul (by omega) (by omega)
  omega
theorem Lzq {n : V3} {v : IV3} (hn : czf n = true) (hv : czm v = true) :
    IntKind.i64.wrap (IntKind.i64.wrap (IntKind.i64.wrap (0 + min (IntKind.i64.wrap (n.1 * v.1.Lo)) (IntKind.i64.wrap (n.1 * v.1.Hi))) + min (IntKind.i64.wrap (n.2.1 * v.2.1.Lo)) (IntKind.i64.wrap (n.2.1 * v.2.1.Hi))) + min (IntKind.i64.wrap (n.2.2 * v.2.2.Lo)) (IntKind.i64.wrap (n.2.2 * v.2.2.Hi))) = dLo n v ∧
    IntKind.i64.wrap (IntKind.i64.wrap (IntKind.i64.wrap (0 + max (IntKind.i64.wrap (n.1 * v.1.Lo)) (IntKind.i64.wrap (n.1 * v.1.Hi))) + max (IntKind.i64.wrap (n.2.1 * v.2.1.Lo)) (IntKind.i64.wrap (n.2.1 * v.2.1.Hi))) + max (IntKind.i64.wrap (n.2.2 * v.2.2.Lo)) (IntKind.i64.wrap (n.2.2 * v.2.2.Hi))) = dHi n v ∧
    (-13194139533312 ≤ dLo n v ∧ dLo n v ≤ 13194139533312) ∧ (-13194139533312 ≤ dHi n v ∧ dHi n v ≤ 13194139533312) := by
  obtain ⟨⟨b1, b2, b3⟩, -⟩ := Gzy hn
  simp only [czm, Bool.and_eq_true, Ezl] at hv
  obtain ⟨v1, v2, v3⟩ := hv
  have p1 := Kzn b1 (show -268435456 ≤ v.1.Lo ∧ v.1.Lo ≤ 268435456 by omega)
  have p2 := Kzn b1 (show -268435456 ≤ v.1.Hi ∧ v.1.Hi ≤ 268435456 by omega)
  have p3 := Kzn b2 (show -268435456 ≤ v.2.1.Lo ∧ v.2.1.Lo ≤ 268435456 by omega)
  have p4 := Kzn b2 (show -268435456 ≤ v.2.1.Hi ∧ v.2.1.Hi ≤ 268435456 by omega)
  have p5 := Kzn b3 (show -268435456 ≤ v.2.2.Lo ∧ v.2.2.Lo ≤ 268435456 by omega)
  have p6 := Kzn b3 (show -268435456 ≤ v.2.2.Hi ∧ v.2.2.Hi ≤ 268435456 by omega)
  unfold dLo dHi
  generalize n.1 * v.1.Lo = x1 at *
  generalize n.1 * v.1.Hi = x2 at *
  generalize n.2.1 * v.2.1.Lo = x3 at *
  generalize n.2.1 * v.2.1.Hi = x4 at *
  generalize n.2.2 * v.2.2.Lo = x5 at *
  generalize n.2.2 * v.2.2.Hi = x6 at *
  rw [w64 (x := x1) (by omega) (by omega), w64 (x := x2) (by omega) (by omega), w64 (x := x3) (by omega) (by omega), w64 (x := x4) (by omega) (by omega), w64 (x := x5) (by omega) (by omega), w64 (x := x6) (by omega) (by omega)]
  rw [w64 (x := 0 + min x1 x2) (by omega) (by omega), w64 (x := 0 + max x1 x2) (by omega) (by omega), w64 (x := 0 + min x1 x2 + min x3 x4) (by omega) (by omega), w64 (x := 0 + max x1 x2 + max x3 x4) (by omega) (by omega), w64 (by omega) (by omega), w64 (by omega) (by omega)]
  refine ⟨by omega, by omega, ⟨by omega, by omega⟩, ⟨by omega, by omega⟩⟩
theorem wzo {n : V3} {v : IV3} (hn : czf n = true) (hv : czm v = true) : (qz6 n v).o = some (dLo n v, dHi n v) := by
  have h := Lzq hn hv
  show (qz7 n v).run NN = _
  simp only [qz7, T.run, T.ix, h.1, h.2.1]
def bst (c : Int → Int → Bool) (f : Nat → Int) : Nat → Int × Int
  | 0 => (0, 0)
  | j + 1 => if decide (j = 0) || c (f j) (bst c f j).1 then (f j, (j : Int)) else bst c f j
def ltB (a b : Int) : Bool := decide (a < b)
def gtB (a b : Int) : Bool := decide (a > b)
def yz4 (n : V3) (l : List IV3) : Int × Int := bst ltB (fun i => dLo n (l.getD i default)) l.length
def yz1 (n : V3) (l : List IV3) : Int × Int := bst gtB (fun i => dHi n (l.getD i default)) l.length
section
variable {n : V3} {l : List IV3} (hn : czf n = true) (hl : bzd l = true)
include hn hl
theorem yzq : (qzd n.1 n.2.1 n.2.2 l).o = some ((yz4 n l).1, (yz4 n l).2, n.1, n.2.1, n.2.2) := by
  have hlen := czj hl
  show (jzu n.1 n.2.1 n.2.2 l).run NN = _
  simp only [jzu, T.run]
  refine (ez8 (fun j => (n.1, n.2.1, n.2.2, (bst ltB (fun i => dLo n (l.getD i default)) j).1, (bst ltB (fun i => dLo n (l.getD i default)) j).2, (j : Int))) (n.1, n.2.1, n.2.2, (yz4 n l).1, (yz4 n l).2) l.length rfl (show l.length < 4294967296 by omega) (fun j hj => ?_) ?_).trans rfl
  · rw [az7 (by simpa using hj), azb ⟨by simp, by simpa using hj⟩]
    have e1 : (kzh (l.getD j default) n.1 n.2.1 n.2.2).o = some (dLo n (l.getD j default), n.1, n.2.1, n.2.2) := by
      show (fzk (l.getD j default) n.1 n.2.1 n.2.2).run NN = _
      simp only [fzk, T.run, wzo (n := (n.1, n.2.1, n.2.2)) hn (dz8 hl hj), Option.bind_some]
    have e2 : ∀ a b, (kzi a b).o = some (ltB a b) := fun a b => rfl
    simp only [Int.toNat_natCast, e1, e2, Option.bind_some]
    rw [wn (by omega)]
    simp only [bz0, aza, bst]
    have e : ((j : Int) == 0) = decide (j = 0) := by rw [Bool.eq_iff_iff]; simp
    rw [e, dz9]
    cases decide (j = 0) || ltB (dLo n (l.getD j default)) (bst ltB (fun i => dLo n (l.getD i default)) j).1 <;> rfl
  · rw [az5 (by simp)]; rfl
theorem vzi : (mz4 n.1 n.2.1 n.2.2 l).o = some ((yz1 n l).1, (yz1 n l).2, n.1, n.2.1, n.2.2) := by
  have hlen := czj hl
  show (gzl n.1 n.2.1 n.2.2 l).run NN = _
  simp only [gzl, T.run]
  refine (ez8 (fun j => (n.1, n.2.1, n.2.2, (bst gtB (fun i => dHi n (l.getD i default)) j).1, (bst gtB (fun i => dHi n (l.getD i default)) j).2, (j : Int))) (n.1, n.2.1, n.2.2, (yz1 n l).1, (yz1 n l).2) l.length rfl (show l.length < 4294967296 by omega) (fun j hj => ?_) ?_).trans rfl
  · rw [az7 (by simpa using hj), azb ⟨by simp, by simpa using hj⟩]
    have e1 : (mzq (l.getD j default) n.1 n.2.1 n.2.2).o = some (dHi n (l.getD j default), n.1, n.2.1, n.2.2) := by
      show (hzm (l.getD j default) n.1 n.2.1 n.2.2).run NN = _
      simp only [hzm, T.run, wzo (n := (n.1, n.2.1, n.2.2)) hn (dz8 hl hj), Option.bind_some]
    have e2 : ∀ a b, (mzr a b).o = some (gtB a b) := fun a b => rfl
    simp only [Int.toNat_natCast, e1, e2, Option.bind_some]
    rw [wn (by omega)]
    simp only [bz0, aza, bst]
    have e : ((j : Int) == 0) = decide (j = 0) := by rw [Bool.eq_iff_iff]; simp
    rw [e, dz9]
    cases decide (j = 0) || gtB (dHi n (l.getD j default)) (bst gtB (fun i => dHi n (l.getD i default)) j).1 <;> rfl
  · rw [az5 (by simp)]; rfl
end
def Mzh (n : V3) (l : List IV3) : Int × Int × Bool := bif czf n && bzd l then ((yz4 n l).1, (yz4 n l).2, true) else (0, 0, false)
def Mz0 (n : V3) (l : List IV3) : Int × Int × Bool := bif czf n && bzd l then ((yz1 n l).1, (yz1 n l).2, true) else (0, 0, false)
theorem Bzb (n : V3) (l : List IV3) : (tz2 n l).o = some (Mzh n l) := by
  show (lzv n l).run NN = _
  have e1 : (mzp (n.1, n.2.1, n.2.2)).o = some (n.1, n.2.1, n.2.2) := rfl
  simp only [lzv, T.run, dzj, dz5, Option.bind_some, Mzh, e1]
  cases hn : czf n
  · rfl
  · cases hl : bzd l
    · rfl
    · simp only [Bool.not_true, cond_false, aza, yzq hn hl, Option.bind_some, Bool.and_self, cond_true]
theorem wzn (n : V3) (l : List IV3) : (mzo n l).o = some (Mz0 n l) := by
  show (hzk n l).run NN = _
  have e1 : (qzt (n.1, n.2.1, n.2.2)).o = some (n.1, n.2.1, n.2.2) := rfl
  simp only [hzk, T.run, dzj, dz5, Option.bind_some, Mz0, e1]
  cases hn : czf n
  · rfl
  · cases hl : bzd l
    · rfl
    · simp only [Bool.not_true, cond_false, aza, vzi hn hl, Option.bind_some, Bool.and_self, cond_true]
def radV (r : Int) : Bool := decide (0 ≤ r) && decide (r ≤ 1048576)
noncomputable def Azf (n : V3) (a : List IV3) (ra : Int) (b : List IV3) (rb : Int) : Int :=
  IntKind.i64.wrap (IntKind.i64.wrap ((yz4 n a).1 - (yz1 n b).1) - IntKind.i64.wrap (lzj n * IntKind.i64.wrap (ra + rb)))
def Ezr (n : V3) (a : List IV3) (ra : Int) (b : List IV3) (rb : Int) : Bool := czf n && (bzd a && (bzd b && (radV ra && radV rb)))
noncomputable def sepV (n : V3) (a : List IV3) (ra : Int) (b : List IV3) (rb : Int) : Bool := Ezr n a ra b rb && decide (Azf n a ra b rb > 0)
theorem jz3 (r : Int) : (jz2 r).o = some (radV r) := by
  show (fzu r).run NN = _
  simp only [fzu, T.run, dzl, mz2, radV, ge_iff_le]
theorem Gzq (x : dzk) : (szy x).o = some (bzd x.points && radV x.radius) := by
  show (szz x).run NN = _
  simp only [szz, T.run, dz5, Option.bind_some, radV]
  cases bzd x.points <;> cases decide (0 ≤ x.radius) <;> rfl
theorem ozi (n : V3) (a : List IV3) (ra : Int) (b : List IV3) (rb : Int) : (izc n a ra b rb).o = some (sepV n a ra b rb) := by
  have e1 : (yzb a ra b rb).o = some ⟨⟨a, ra⟩, ⟨b, rb⟩⟩ := rfl
  have e2 : (uzd ⟨⟨a, ra⟩, ⟨b, rb⟩⟩ n).o = some (bif Ezr n a ra b rb then (Azf n a ra b rb, true) else (0, false)) := by
    show (oz0 ⟨⟨a, ra⟩, ⟨b, rb⟩⟩ n).run NN = _
    simp only [oz0, T.run, Gzq, Bzb, wzn, uze, Option.bind_some, Mzh, Mz0, Ezr, Azf]
    cases czf n <;> cases bzd a <;> cases bzd b <;> cases radV ra <;> cases radV rb <;> rfl
  have e3 : (ozn ⟨⟨a, ra⟩, ⟨b, rb⟩⟩ n).o = some (sepV n a ra b rb) := by
    show (izm ⟨⟨a, ra⟩, ⟨b, rb⟩⟩ n).run NN = _
    simp only [izm, T.run, e2, Option.bind_some, sepV]
    cases Ezr n a ra b rb <;> rfl
  show (izd n a ra b rb).run NN = _
  simp only [izd, T.run, e1, e3, Option.bind_some]
theorem Iza {c : Nat → Nat → Bool} {L : List czv} {i : Nat} {x : czv} : ∀ {m : Nat}, x ∈ pin c L i m → x ∈ L ∨ ∃ k, k < m ∧ x = ⟨(i : Int), ((i + 1 + k : Nat) : Int)⟩
  | 0, h => Or.inl h
  | m + 1, h => by
    simp only [pin] at h
    split at h
    · rcases List.mem_append.1 h with h | h
      · rcases Iza h with h | ⟨k, h1, h2⟩
        · exact Or.inl h
        · exact Or.inr ⟨k, by omega, h2⟩
      · exact Or.inr ⟨m, by omega, List.mem_singleton.1 h⟩
    · rcases Iza h with h | ⟨k, h1, h2⟩
      · exact Or.inl h
      · exact Or.inr ⟨k, by omega, h2⟩
theorem Mzz {c : Nat → Nat → Bool} {n : Nat} {x : czv} : ∀ {i : Nat}, i ≤ n → x ∈ pou c n i → 0 ≤ x.A ∧ x.A < (n : Int) ∧ 0 ≤ x.B ∧ x.B < (n : Int)
  | 0, _, h => by simp [pou, nl] at h
  | i + 1, hi, h => by
    simp only [pou] at h
    rcases Iza h with h | ⟨k, h1, h2⟩
    · exact Mzz (by omega) h
    · subst h2; simp only; omega
theorem ezq {α : Type} [Inhabited α] {l : List α} {i : Nat} (h : i < l.length) : l.getD i default ∈ l := by
  rw [List.getD_eq_getElem?_getD, List.getElem?_eq_getElem h, Option.getD_some]; exact List.getElem_mem h
theorem Eze {s : az8} (h : bzq s = 0) {k : Nat} (hk : k < (azt s).length) : (0 ≤ ((azt s).getD k default).A ∧ ((azt s).getD k default).A < (s.Shapes.length : Int)) ∧ (0 ≤ ((azt s).getD k default).B ∧ ((azt s).getD k default).B < (s.Shapes.length : Int)) := by
  have hm := ezq hk
  generalize (azt s).getD k default = x at hm ⊢
  unfold azt at hm
  rw [if_pos h] at hm
  have := Mzz (Nat.le_refl _) hm
  omega
theorem wz1 (s : az8) : (azt s).length ≤ 576 := by
  unfold azt
  split
  · rename_i h
    have h1 := (szq h).len
    have h2 := Izc (xzj s) (n := s.Shapes.length) s.Shapes.length
    have h3 : s.Shapes.length * s.Shapes.length ≤ 24 * 24 := Nat.mul_le_mul h1 h1
    omega
  · simp [nl]
def pA (s : az8) (k : Nat) : Nat := ((azt s).getD k default).A.toNat
def pB (s : az8) (k : Nat) : Nat := ((azt s).getD k default).B.toNat
def hzo (s : az8) (i : Nat) : Int := (s.Shapes.getD i default).Radius
noncomputable def sepK (s : az8) (b : List az0) (ns : List V3) (k : Nat) : Bool := !sepV (ns.getD k default) (bz5 s b (pA s k)) (hzo s (pA s k)) (bz5 s b (pB s k)) (hzo s (pB s k))
noncomputable def kzn (s : az8) (b : List az0) (ns : List V3) : Bool :=
  decide (bzq s = 0) && (boxV s.Robot b && (decide (ns.length = (azt s).length) && bzs (sepK s b ns) (azt s).length))
theorem Azr {s : az8} {b : List az0} (h : bzq s = 0) (hb : boxV s.Robot b = true) : ize s b = tab (bz5 s b) s.Shapes.length := by unfold ize; rw [if_pos ⟨h, hb⟩]
theorem jzq (s : az8) (b : List az0) (hbl : b.length < 4294967296) : (fzv s b).o = some (if bzq s = 0 ∧ boxV s.Robot b = true then (⟨s.Shapes, azt s, ize s b⟩, true) else (⟨nl, nl, nl⟩, false)) := by
  show (jzp s b).run NN = _
  simp only [jzp, T.run, fz9, Option.bind_some]
  by_cases h : bzq s = 0
  · rw [bzg h, aza]
    by_cases hl : b.length = s.Robot.Joints.length
    · rw [bzg (by omega)]
      refine (izl (fun i => sw (notV b i) ((⟨nl, nl, nl⟩ : azz), false)) b.length hbl (fun j hj => ?_) ?_).trans ?_
      · rw [az7 (by omega), azb (by omega), wn (by omega), Int.toNat_natCast, ← ezh]
        simp only [bzo, Option.bind_some]; rfl
      · rw [az5 (by omega)]
      · rw [dzu]
        have : boxV s.Robot b = bzs (notV b) b.length := by unfold boxV; rw [decide_eq_true hl, Bool.true_and]
        rw [this]
        cases bzs (notV b) b.length
        · rw [if_neg (fun h => by cases h.2)]; rfl
        · rw [if_pos ⟨h, rfl⟩]
          simp only [sw, Bool.not_true, cond_false, Ezq, uzt s b hbl, Option.bind_some]
    · rw [bzl (by omega), if_neg]
      rintro ⟨-, hb⟩
      simp only [boxV, Bool.and_eq_true, decide_eq_true_eq] at hb
      exact hl hb.1
  · rw [bzl h, aza, if_neg (fun h' => h h'.1)]; rfl
theorem fzf (s : az8) (b : List az0) (ns : List V3) (hbl : b.length < 4294967296) : (dzv s b ns).o = some (kzn s b ns) := by
  have hpl := wz1 s
  have ep := jzq s b hbl
  show (fze s b ns).run NN = _
  have e2 : (qza s b ⟨ns⟩).o = some (kzn s b ns) := by
    show (jzo s b ⟨ns⟩).run NN = _
    simp only [jzo, T.run, ep, Option.bind_some]
    by_cases h : bzq s = 0 ∧ boxV s.Robot b = true
    · rw [if_pos h]
      simp only [cond_true]
      have e3 : (mzm ⟨ns⟩ ⟨s.Shapes, azt s, ize s b⟩).o = some (decide (ns.length = (azt s).length) && bzs (sepK s b ns) (azt s).length) := by
        show (hzi ⟨ns⟩ ⟨s.Shapes, azt s, ize s b⟩).run NN = _
        simp only [hzi, T.run]
        by_cases hl : ns.length = (azt s).length
        · rw [bzg (by omega), decide_eq_true hl, Bool.true_and]
          refine (izl (fun i => sw (sepK s b ns i) false) ns.length (by omega) (fun j hj => ?_) ?_).trans ?_
          · have hp := Eze h.1 (show j < (azt s).length by omega)
            have ec : (gzh ⟨s.Shapes, azt s, ize s b⟩ (j : Int)).o = some ⟨bz5 s b (pA s j), bz5 s b (pB s j), hzo s (pA s j), hzo s (pB s j)⟩ := by
              show (gzi ⟨s.Shapes, azt s, ize s b⟩ (j : Int)).run NN = _
              simp only [gzi, T.run, Int.toNat_natCast, Azr h.1 h.2, czs]
              rw [azb ⟨by omega, by omega⟩, azb hp.1, azb hp.1, azb hp.2, azb hp.2, fzl (by omega), fzl (by omega)]; rfl
            rw [az7 (by omega), azb (by omega), wn (by omega), Int.toNat_natCast, ← ezh]
            simp only [ec, ozi, Option.bind_some]; rfl
          · rw [az5 (by omega)]
          · rw [dzu, hl]; cases bzs (sepK s b ns) (azt s).length <;> rfl
        · rw [bzl (by omega), decide_eq_false hl]; rfl
      simp only [e3, Option.bind_some, kzn, h.2, decide_eq_true h.1, Bool.true_and]
    · rw [if_neg h]
      have : kzn s b ns = false := by
        unfold kzn
        by_cases h1 : bzq s = 0
        · have h2 : boxV s.Robot b = false := by cases hb : boxV s.Robot b with
            | false => rfl
            | true => exact absurd ⟨h1, hb⟩ h
          rw [h2, Bool.false_and, Bool.and_false]
        · rw [decide_eq_false h1, Bool.false_and]
      rw [this]; rfl
  simp only [fze, T.run, e2, Option.bind_some]
def begV (x : az4) : Option (Int × Int) := if (0 ≤ x.Depth ∧ x.Depth ≤ 20) ∧ 0 ≤ x.Index ∧ x.Index < 2 ^ x.Depth.toNat then some (x.Index * 2 ^ (20 - x.Depth.toNat), 2 ^ (20 - x.Depth.toNat)) else none
theorem Lz6 {x : az4} {f n : Int} (h : begV x = some (f, n)) : 0 ≤ f ∧ f < 1048576 ∧ 0 < n ∧ n ≤ 1048576 := by
  unfold begV at h
  split at h
  · rename_i hc
    simp only [Option.some.injEq, Prod.mk.injEq] at h
    obtain ⟨rfl, rfl⟩ := h
    have p1 := bzh (20 - x.Depth.toNat)
    have p2 := Gzb (show 20 - x.Depth.toNat ≤ 20 by omega)
    refine ⟨Int.mul_nonneg hc.2.1 (by omega), ?_, p1, p2⟩
    have h1 : (x.Index + 1) * 2 ^ (20 - x.Depth.toNat) ≤ 2 ^ x.Depth.toNat * 2 ^ (20 - x.Depth.toNat) := Int.mul_le_mul_of_nonneg_right (by omega) (by omega)
    rw [← Int.pow_add, show x.Depth.toNat + (20 - x.Depth.toNat) = 20 by omega, Int.add_mul, Int.one_mul] at h1
    have e : (2 : Int) ^ 20 = 1048576 := by decide
    omega
  · cases h
def plc (l : List az4) : Nat → Int
  | 0 => 0
  | j + 1 => match begV (l.getD j default) with
    | some (f, n) => f + n
    | none => 0
def badT (l : List az4) (j : Nat) : Bool := match begV (l.getD j default) with
  | some (f, _) => f != plc l j
  | none => true
theorem Szt (l : List az4) : ∀ j, 0 ≤ plc l j ∧ plc l j ≤ 2097152
  | 0 => by simp [plc]
  | j + 1 => by
    simp only [plc]
    split
    · rename_i f n h; have := Lz6 h; omega
    · omega
theorem Czd {σ τ R : Type} {f : σ → Option (Step3 σ τ R)} (st : Nat → σ) (g : Nat → Option R) (r : R) :
    ∀ (n i N : Nat), n < N → (∀ j, i ≤ j → j < i + n → f (st j) = match g j with | some r => some (.fin r) | none => some (.next (st (j + 1)))) → f (st (i + n)) = some (.fin r) →
      iter f N (st i) = some (.inr (match scan g n i with | some r' => r' | none => r))
  | 0, i, 0, h, _, _ => by omega
  | 0, i, N + 1, _, _, h => by simp only [Nat.add_zero] at h; simp [iter, h, scan]
  | n + 1, i, 0, h, _, _ => by omega
  | n + 1, i, N + 1, h0, hs, he => by
    have h1 := hs i (by omega) (by omega)
    simp only [scan]
    cases hg : g i with
    | some r => rw [hg] at h1; simp [iter, h1]
    | none =>
      rw [hg] at h1
      simp only [iter, h1]
      exact Czd st g r n (i + 1) N (by omega) (fun j a b => hs j (by omega) (by omega)) (by rw [← he]; congr 2; omega)
theorem Kzk {σ τ R : Type} {f : σ → Option (Step3 σ τ R)} {k : τ → Option R} {x : σ} (st : Nat → σ) (g : Nat → Option R) (r : R) (n : Nat) (hx : x = st 0) (hn : n < NN)
    (hs : ∀ j, j < n → f (st j) = match g j with | some r => some (.fin r) | none => some (.next (st (j + 1)))) (he : f (st n) = some (.fin r)) :
    andK (iter f NN x) k = some (match scan g n 0 with | some r' => r' | none => r) := by
  rw [hx, Czd st g r n 0 NN hn (fun j _ h => hs j (by omega)) (by rw [Nat.zero_add]; exact he)]; rfl
def rz8 (l : List az4) : Int × Bool :=
  if l.length ≤ 4096 then (match scan (fun j => sw (badT l j) ((j : Int), false)) l.length 0 with | some r => r | none => ((l.length : Int), plc l l.length == 1048576))
  else (match scan (fun j => sw (badT l j) ((j : Int), false)) 4096 0 with | some r => r | none => (4096, false))
theorem Gzv (l : List az4) {j : Nat} (hj : j < 4096) {σ τ R : Type} (r : R) (x : Int → σ) : ∀ y : az4, y = l.getD j default →
    (andC (bif ((j : Int) == 4096) then some (.out true) else bif decide (y.Depth < 0) then some (.out true) else some (.out (decide (y.Depth > 20))) : Option (Step3 Unit Bool (Step3 σ τ R))) fun z1 =>
      bif z1 then some (.fin r) else andC (bif decide (y.Index < 0) then some (.out true) else grd (0 ≤ y.Depth) (some (.out (decide (y.Index ≥ IntKind.i64.wrap (1 * 2 ^ min y.Depth.toNat 64))))) : Option (Step3 Unit Bool (Step3 σ τ R))) fun z2 =>
      bif z2 then some (.fin r) else grd (0 ≤ y.Depth) (bif IntKind.i64.wrap (y.Index * (1048576 : Int).fdiv (2 ^ min y.Depth.toNat 64)) != plc l j then some (.fin r) else some (.next (x (IntKind.i64.wrap (plc l j + (1048576 : Int).fdiv (2 ^ min y.Depth.toNat 64))))))) =
      match sw (badT l j) r with | some r => some (.fin r) | none => some (.next (x (plc l (j + 1)))) := by
  intro y hy
  rw [gzg (by omega)]
  unfold badT
  by_cases h1 : y.Depth < 0
  · have : begV (l.getD j default) = none := by rw [← hy]; unfold begV; rw [if_neg (by omega)]
    rw [az7 h1, aza, this]; rfl
  · rw [az5 h1, aza]
    by_cases h2 : y.Depth > 20
    · have : begV (l.getD j default) = none := by rw [← hy]; unfold begV; rw [if_neg (by omega)]
      rw [az7 h2, this]; rfl
    · rw [az5 h2]
      by_cases h3 : y.Index < 0
      · have : begV (l.getD j default) = none := by rw [← hy]; unfold begV; rw [if_neg (by omega)]
        rw [az7 h3, aza, this]; rfl
      · rw [az5 h3, azb (by omega), aza, Nat.min_eq_left (by omega), w2k (by omega)]
        by_cases h4 : y.Index ≥ 2 ^ y.Depth.toNat
        · have : begV (l.getD j default) = none := by rw [← hy]; unfold begV; rw [if_neg (by omega)]
          rw [az7 h4, this]; rfl
        · have hb : begV (l.getD j default) = some (y.Index * 2 ^ (20 - y.Depth.toNat), 2 ^ (20 - y.Depth.toNat)) := by rw [← hy]; unfold begV; rw [if_pos ⟨⟨by omega, by omega⟩, by omega, by omega⟩]
          have hr := Lz6 hb
          have hq : (1048576 : Int).fdiv (2 ^ y.Depth.toNat) = 2 ^ (20 - y.Depth.toNat) := by
            rw [tz9]
            have e : (1048576 : Int) = 2 ^ y.Depth.toNat * 2 ^ (20 - y.Depth.toNat) := by
              rw [← Int.pow_add, show y.Depth.toNat + (20 - y.Depth.toNat) = 20 by omega]; decide
            rw [e, Int.mul_ediv_cancel_left _ (by have := bzh y.Depth.toNat; omega)]
          have hp := Szt l j
          rw [az5 h4, azb (by omega), hq, w64 (x := y.Index * _) (by omega) (by omega), w64 (x := plc l j + _) (by omega) (by omega)]
          simp only [hb]
          by_cases h : y.Index * 2 ^ (20 - y.Depth.toNat) = plc l j
          · have e1 : (y.Index * 2 ^ (20 - y.Depth.toNat) != plc l j) = false := by simpa using h
            have e2 : plc l (j + 1) = plc l j + 2 ^ (20 - y.Depth.toNat) := by rw [← h]; simp only [plc, hb]
            rw [bzg h, e1, e2]; rfl
          · have e1 : (y.Index * 2 ^ (20 - y.Depth.toNat) != plc l j) = true := by simpa using h
            rw [bzl h, e1]; rfl
theorem Kz0 {R S : Type} {g : Nat → Bool} {r : Nat → R} {f : R → S} : ∀ (n i : Nat), scan (fun j => sw (g j) (f (r j))) n i = (scan (fun j => sw (g j) (r j)) n i).map f
  | 0, _ => rfl
  | n + 1, i => by
    simp only [scan]
    cases g i with
    | true => rfl
    | false => exact Kz0 n (i + 1)
def Rzt (l : List az4) : Int × Int := bif (rz8 l).2 then (0, 0) else ((rz8 l).1, 2001)
theorem zzb {g : Nat → Bool} {n : Nat} {r : Int × Bool} (h : scan (fun j => sw (g j) ((j : Int), false)) n 0 = some r) : r.2 = false := by
  obtain ⟨j, -, -, h3, -⟩ := dzc _ _ h
  cases hb : g j with
  | false => rw [hb] at h3; cases h3
  | true => rw [hb] at h3; simp only [sw, cond_true, Option.some.injEq] at h3; rw [← h3]
theorem Bz2 (x : azp) : (szk x).o = some (Rzt x.pieces) := by
  show (lzq x).run NN = _
  generalize hl : x.pieces = l
  simp only [lzq, T.run, hl, Rzt, rz8]
  have em : ∀ n, scan (fun j => sw (badT l j) ((j : Int), (2001 : Int))) n 0 = (scan (fun j => sw (badT l j) ((j : Int), false)) n 0).map fun r => (r.1, 2001) := fun n => Kz0 (r := fun j => ((j : Int), false)) (f := fun r => (r.1, (2001 : Int))) n 0
  by_cases h : l.length ≤ 4096
  · rw [if_pos h]
    refine (jza (fun j => (plc l j, (j : Int))) (fun j => sw (badT l j) ((j : Int), 2001)) (plc l l.length) l.length rfl (show l.length < 4294967296 by omega) (fun j hj => ?_) ?_).trans ?_
    · rw [az7 (by simpa using hj), azb ⟨by simp, by simpa using hj⟩]
      simp only [Int.toNat_natCast]
      rw [wn (by omega)]
      exact Gzv l (by omega) ((j : Int), 2001) (fun z => (z, ((j + 1 : Nat) : Int))) _ rfl
    · rw [az5 (by simp)]
    · rw [em]
      cases hs : scan (fun j => sw (badT l j) ((j : Int), false)) l.length 0 with
      | none =>
        simp only [Option.map_none]
        by_cases hp : plc l l.length = 1048576
        · rw [bzg hp]; simp only [hp]; rfl
        · have e : (plc l l.length == 1048576) = false := by simpa using hp
          rw [bzl hp]; simp only [e]; rfl
      | some r => simp only [Option.map_some, zzb hs, cond_false]
  · rw [if_neg h]
    refine (Kzk (fun j => (plc l j, (j : Int))) (fun j => sw (badT l j) ((j : Int), 2001)) (4096, 2001) 4096 rfl (show 4096 < 4294967296 by omega) (fun j hj => ?_) ?_).trans ?_
    · rw [az7 (by simp; omega), azb ⟨by simp, by simp; omega⟩]
      simp only [Int.toNat_natCast]
      rw [wn (by omega)]
      exact Gzv l (by omega) ((j : Int), 2001) (fun z => (z, ((j + 1 : Nat) : Int))) _ rfl
    · rw [az7 (by simp; omega), azb ⟨by simp, by simp; omega⟩]; rfl
    · rw [em]
      cases hs : scan (fun j => sw (badT l j) ((j : Int), false)) 4096 0 with
      | none => rfl
      | some r => simp only [Option.map_some, zzb hs, cond_false]
theorem Dz6 {l : List az4} (h : (rz8 l).2 = true) : l.length ≤ 4096 ∧ ∀ j, j < l.length → begV (l.getD j default) ≠ none := by
  unfold rz8 at h
  split at h
  · rename_i hl
    refine ⟨hl, fun j hj hn => ?_⟩
    split at h
    · rename_i hs; rw [zzb hs] at h; cases h
    · rename_i hs
      have := (dzm _ _).1 hs j (Nat.zero_le _) (by omega)
      have hb : badT l j = true := by unfold badT; rw [hn]
      rw [hb] at this; cases this
  · split at h
    · rename_i hs; rw [zzb hs] at h; cases h
    · cases h
theorem yz2 {r : azj} {c : List Int} (h : azu r c = true) : fzd c = true ∧ c.length = r.Joints.length ∧ r.Joints.length ≤ 10 ∧ fzb r = 0 := by
  simp only [azu, Bool.and_eq_true, decide_eq_true_eq] at h
  obtain ⟨h1, h2, h3⟩ := h
  refine ⟨noneB_iff.2 fun i hi => ?_, h2, (jzh h1).2.1, h1⟩
  have := noneB_iff.1 h3 i hi
  have jo := izj h1 (show i < r.Joints.length by omega)
  have rb := Ezi (r.Joints.getD i default).Kind
  have jl := jo.lim
  simp only [outJ, Bool.or_eq_false_iff, decide_eq_false_iff_not] at this
  simp only [big1, Bool.or_eq_false_iff, decide_eq_false_iff_not]
  omega
theorem Ozv {r : azj} {p q : List Int} (hp : azu r p = true) (hq : azu r q = true) {x : az4} (hx : begV x ≠ none) : czc p q x.Depth x.Index = (tab (sz7 p q x.Depth.toNat x.Index) p.length, true) := by
  have h1 := yz2 hp
  have h2 := yz2 hq
  unfold begV at hx
  split at hx
  · rename_i hc
    unfold czc
    rw [if_pos ⟨motionV_iff.2 ⟨h1.1, h2.1, by omega, by omega, by omega⟩, by omega, by omega⟩]
  · exact absurd rfl hx
theorem Gz8 (p q : List Int) (d i : Int) (hp : p.length < 4294967296) : (czc p q d i).1.length < 4294967296 := by
  unfold czc; split
  · simp only [czs]; exact hp
  · simp [nl]
noncomputable def notF (s : az8) (p q : List Int) (l : List az4) (j : Nat) : Bool := !kzn s (czc p q (l.getD j default).Depth (l.getD j default).Index).1 (l.getD j default).Normals
noncomputable def hzq (s : az8) (p q : List Int) (l : List az4) : Int × Int :=
  if bzq s ≠ 0 then (0, 904) else if (azu s.Robot p && azu s.Robot q) = false then (0, 1201) else if (rz8 l).2 = false then ((rz8 l).1, 2001) else
  match scan (fun j => sw (notF s p q l j) ((j : Int), (2002 : Int))) l.length 0 with | some r => r | none => (0, 0)
section
variable (s : az8) (p q : List Int) (l : List az4) (hp : p.length < 4294967296) (hq : q.length < 4294967296)
include hp hq
theorem ozb : (iz2 s p q l).o = some (hzq s p q l) := by
  show (iz3 s p q l).run NN = _
  have e1 : (uza ⟨s, p, q, l⟩).o = some (0, if bzq s = 0 then 0 else 904) := by
    show (nzv ⟨s, p, q, l⟩).run NN = _
    simp only [nzv, T.run, fz9, Option.bind_some]
    by_cases h : bzq s = 0
    · rw [bzg h, if_pos h]
    · rw [bzl h, if_neg h]
  have e2 : (szj ⟨s, p, q, l⟩).o = some (0, bif azu s.Robot p && azu s.Robot q then 0 else 1201) := by
    show (lzp ⟨s, p, q, l⟩).run NN = _
    simp only [lzp, T.run, lz7, Option.bind_some, bz0, aza]
    cases azu s.Robot p <;> cases azu s.Robot q <;> rfl
  simp only [iz3, T.run, e1, Option.bind_some, hzq]
  rw [azb (by decide), azb (by decide), azb (by decide), azb (by decide)]
  by_cases h : bzq s = 0
  · rw [if_pos h, if_neg (by simpa using h), bzg rfl, e2, Option.bind_some]
    cases hi : azu s.Robot p && azu s.Robot q
    · rfl
    · simp only [cond_true, Bool.true_eq_false, if_false, Bz2, Option.bind_some, Rzt]
      rw [bzg rfl]
      cases hc : (rz8 l).2
      · rfl
      · have hl := Dz6 hc
        simp only [Bool.and_eq_true] at hi
        simp only [cond_true, Bool.true_eq_false, if_false]
        rw [bzg rfl]
        have e3 : (mzi ⟨s, p, q, l⟩).o = some (match scan (fun j => sw (notF s p q l j) ((j : Int), (2002 : Int))) l.length 0 with | some r => r | none => (0, 0)) := by
          show (hzd ⟨s, p, q, l⟩).run NN = _
          simp only [hzd, T.run]
          refine (izl (fun j => sw (notF s p q l j) ((j : Int), (2002 : Int))) l.length (by omega) (fun j hj => ?_) ?_).trans ?_
          · have ho := Ozv hi.1 hi.2 (hl.2 j hj)
            rw [az7 (by omega), azb (by omega), wn (by omega), Int.toNat_natCast, ← ezh]
            simp only [nz2 p q _ _ hp hq, Option.bind_some]
            have ho2 : (czc p q (l.getD j default).Depth (l.getD j default).Index).2 = true := by rw [ho]
            rw [ho2]
            simp only [Bool.not_true, cond_false, fzf s _ _ (Gz8 p q _ _ hp), Option.bind_some, aza]; rfl
          · rw [az5 (by omega)]
          · cases scan (fun j => sw (notF s p q l j) ((j : Int), (2002 : Int))) l.length 0 <;> rfl
        simp only [e3, Option.bind_some]
        cases hs : scan (fun j => sw (notF s p q l j) ((j : Int), (2002 : Int))) l.length 0 with
        | none => rfl
        | some r =>
          obtain ⟨j, -, -, h3, -⟩ := dzc _ _ hs
          cases hb : notF s p q l j with
          | false => rw [hb] at h3; cases h3
          | true => rw [hb] at h3; simp only [sw, cond_true, Option.some.injEq] at h3; rw [← h3]; rfl
  · rw [if_neg h, if_pos h]; rfl
end
theorem Fz8 {s : az8} {p q : List Int} {l : List az4} (h : (hzq s p q l).2 = 0) : bzq s = 0 ∧ azu s.Robot p = true ∧ azu s.Robot q = true ∧ l.length ≤ 4096 := by
  unfold hzq at h
  split at h
  · cases h
  · rename_i h1
    split at h
    · cases h
    · rename_i h2
      split at h
      · cases h
      · rename_i h3
        simp only [Bool.not_eq_false, Bool.and_eq_true] at h2 h3
        exact ⟨by simpa using h1, h2.1, h2.2, (Dz6 h3).1⟩
section
variable (J : az4 → az4 → Option az4)
def kzq : List az4 → az4 → List az4
  | [], x => [x]
  | a :: rs, x => match J a x with
    | some w => kzq rs w
    | none => x :: a :: rs
def Azk (l : List az4) : List az4 := (l.foldl (kzq J) []).reverse
end
section
variable {J : az4 → az4 → Option az4}
theorem Lzy {α : Type} [Inhabited α] {l : List α} {i : Nat} (h : i < l.length) : l.getD i default = l[i] := by
  rw [List.getD_eq_getElem?_getD, List.getElem?_eq_getElem h]; rfl
end
noncomputable def mz0 (s : az8) (p q : List Int) (a b : az4) : Option az4 :=
  if a.Depth ≠ b.Depth ∨ a.Depth ≤ 0 ∨ a.Index.tmod 2 ≠ 0 ∨ b.Index ≠ IntKind.i64.wrap (a.Index + 1) then none else
  if (czc p q (IntKind.i64.wrap (a.Depth - 1)) (IntKind.i64.wrap (a.Index.tdiv 2))).2 = false then none else
  if kzn s (czc p q (IntKind.i64.wrap (a.Depth - 1)) (IntKind.i64.wrap (a.Index.tdiv 2))).1 a.Normals then some ⟨IntKind.i64.wrap (a.Depth - 1), IntKind.i64.wrap (a.Index.tdiv 2), a.Normals⟩ else
  if kzn s (czc p q (IntKind.i64.wrap (a.Depth - 1)) (IntKind.i64.wrap (a.Index.tdiv 2))).1 b.Normals then some ⟨IntKind.i64.wrap (a.Depth - 1), IntKind.i64.wrap (a.Index.tdiv 2), b.Normals⟩ else none
section
variable (s : az8) {p q : List Int} (hp : p.length < 4294967296) (hq : q.length < 4294967296) (a b : az4)
include hp hq
theorem Bzm : (mzz s p q a b).o = some (match mz0 s p q a b with | some x => (x, true) | none => (⟨0, 0, nl⟩, false)) := by
  show (nz0 s p q a b).run NN = _
  simp only [nz0, T.run, mz0, nz2 p q _ _ hp hq, fzf s _ _ (Gz8 p q _ _ hp), Option.bind_some]
  by_cases h1 : a.Depth = b.Depth
  · rw [bzg h1]
    by_cases h2 : a.Depth ≤ 0
    · rw [az7 h2, aza, if_pos (Or.inr (Or.inl h2))]; rfl
    · rw [az5 h2]
      by_cases h3 : a.Index.tmod 2 = 0
      · rw [bzg h3, aza]
        by_cases h4 : b.Index = IntKind.i64.wrap (a.Index + 1)
        · rw [bzg h4, if_neg (fun h => by rcases h with h | h | h | h; · exact h h1
                                          · exact h2 h
                                          · exact h h3
                                          · exact h h4)]
          generalize czc p q (IntKind.i64.wrap (a.Depth - 1)) (IntKind.i64.wrap (a.Index.tdiv 2)) = B
          cases hB : B.2
          · rfl
          · simp only [Bool.not_true, cond_false, Bool.true_eq_false, if_false]
            refine (izl (fun i => sw (kzn s B.1 (([a, b] : List az4).getD i default).Normals) ((⟨IntKind.i64.wrap (a.Depth - 1), IntKind.i64.wrap (a.Index.tdiv 2), (([a, b] : List az4).getD i default).Normals⟩ : az4), true)) 2 (by decide) (fun j hj => ?_) ?_).trans ?_
            · rw [az7 (by simp; omega), azb ⟨by omega, by simp; omega⟩, Int.toNat_natCast, azb (by simpa using hj), wn (by omega), ← ezh]
            · rfl
            · simp only [scan, List.getD_cons_zero, List.getD_cons_succ, sw]
              cases kzn s B.1 a.Normals <;> cases kzn s B.1 b.Normals <;> rfl
        · rw [bzl h4, if_pos (Or.inr (Or.inr (Or.inr h4)))]
      · rw [bzl h3, aza, if_pos (Or.inr (Or.inr (Or.inl h3)))]; rfl
  · rw [bzl h1, aza, if_pos (Or.inl h1)]; rfl
end
theorem Kzh {s : az8} {p q : List Int} {a b w : az4} (h : mz0 s p q a b = some w) : w.Normals = a.Normals ∨ w.Normals = b.Normals := by
  unfold mz0 at h
  split at h
  · cases h
  · split at h
    · cases h
    · split at h
      · cases h; exact Or.inl rfl
      · split at h
        · cases h; exact Or.inr rfl
        · cases h
theorem Lzj (l : List V3) (h : l.length < 4294967296) : (eza l).o = some l := by
  show (czp l).run NN = _
  cases l with
  | nil => rfl
  | cons a l =>
    simp only [czp, T.run]
    simp only [List.length_cons] at h
    rw [azb (by simp), azb ⟨by simp only [List.length_nil, List.length_cons]; omega, by simp only [List.length_nil, List.length_cons, bz8]; omega⟩]; rfl
theorem Hzf (l : List az4) (h : l.length < 4294967296) : (dze l).o = some l := by
  show (cz3 l).run NN = _
  cases l with
  | nil => rfl
  | cons a l =>
    simp only [cz3, T.run]
    simp only [List.length_cons] at h
    rw [azb (by simp), azb ⟨by simp only [List.length_nil, List.length_cons]; omega, by simp only [List.length_nil, List.length_cons, bz8]; omega⟩]; rfl
theorem Kz1 {α : Type} [Inhabited α] {l : List α} {i : Nat} (h : i < l.length) : l.set i (l.getD i default) = l := by
  rw [Lzy h]; exact List.set_getElem_self h
theorem rz7 (l : List az4) (h : l.length < 4294967296) (hn : ∀ x ∈ l, x.Normals.length < 4294967296) : (gzk l).o = some l := by
  show (lz5 l).run NN = _
  simp only [lz5, T.run, Hzf l h, Option.bind_some]
  refine (ez8 (fun j => (l, (j : Int))) l l.length rfl h (fun j hj => ?_) ?_).trans rfl
  · rw [az7 (by simpa using hj), azb ⟨by simp, by simpa using hj⟩]
    simp only [Int.toNat_natCast]
    rw [azb hj, Lzj _ (hn _ (ezq hj)), Option.bind_some, azb ⟨by omega, by omega⟩, azb ⟨hj, by omega⟩, wn (by omega)]
    exact congrArg (fun x => some (Step3.next (x, ((j + 1 : Nat) : Int)))) (Kz1 hj)
  · rw [az5 (by simp)]
noncomputable def Jzh (s : az8) (p q : List Int) (l : List az4) : List az4 := if (hzq s p q l).2 ≠ 0 then l else Azk (mz0 s p q) l
section
variable (s : az8) {p q : List Int} (hp : p.length < 4294967296) (hq : q.length < 4294967296) (l : List az4)
include hp hq
theorem zzq (hl : l.length < 4294967296) (hn : ∀ x ∈ l, x.Normals.length < 4294967296) : (rz6 s p q l).o = some (Jzh s p q l) := by
  show (lz4 s p q l).run NN = _
  simp only [lz4, T.run, ozb s p q l hp hq, Option.bind_some, Jzh]
  by_cases h : (hzq s p q l).2 = 0
  · have hl := (Fz8 h).2.2.2
    rw [bzg h, if_neg (by simpa using h)]
    let F : Nat → List az4 := fun j => ((l.take j).foldl (kzq (mz0 s p q)) []).reverse
    have push_ok : ∀ (rs : List az4) (x : az4), (∀ y ∈ rs, y.Normals.length < 4294967296) → x.Normals.length < 4294967296 → (∀ y ∈ kzq (mz0 s p q) rs x, y.Normals.length < 4294967296) ∧ (kzq (mz0 s p q) rs x).length ≤ rs.length + 1 := by
      intro rs
      induction rs with
      | nil => intro x _ hx; simp only [kzq, List.mem_singleton]; exact ⟨fun y hy => by subst hy; exact hx, by simp⟩
      | cons a rs ih =>
        intro x hr hx
        simp only [kzq]
        split
        · rename_i w hw
          have hw' : w.Normals.length < 4294967296 := by
            rcases Kzh hw with e | e
            · rw [e]; exact hr a (by simp)
            · rw [e]; exact hx
          have := ih w (fun y hy => hr y (by simp [hy])) hw'
          exact ⟨this.1, by have := this.2; simp only [List.length_cons]; omega⟩
        · refine ⟨fun y hy => ?_, by simp⟩
          rcases List.mem_cons.1 hy with rfl | hy
          · exact hx
          · exact hr y hy
    have F_ok : ∀ j, j ≤ l.length → (∀ y ∈ F j, y.Normals.length < 4294967296) ∧ (F j).length ≤ j := by
      intro j
      induction j with
      | zero => intro _; simp [F]
      | succ j ih =>
        intro hj
        have := ih (by omega)
        have hx : (l.getD j default).Normals.length < 4294967296 := hn _ (ezq (by omega))
        have e : F (j + 1) = (kzq (mz0 s p q) (F j).reverse (l.getD j default)).reverse := by
          simp only [F]; rw [Gzu (by omega), List.foldl_append, List.reverse_reverse]; rfl
        have h2 := push_ok (F j).reverse (l.getD j default) (fun y hy => this.1 y (by simpa using hy)) hx
        rw [e]
        refine ⟨fun y hy => h2.1 y (by simpa using hy), ?_⟩
        have := h2.2; simp only [List.length_reverse] at this ⊢; omega
    refine (ez8 (fun j => (F j, (j : Int))) (F l.length) l.length rfl (show l.length < 4294967296 by omega) (fun j hj => ?_) ?_).trans ?_
    · have hf := F_ok j (by omega)
      rw [az7 (by simpa using hj), azb ⟨by simp, by simpa using hj⟩]
      simp only [Int.toNat_natCast]
      rw [wn (by omega)]
      generalize hx0 : l.getD j default = x0
      have hx : x0.Normals.length < 4294967296 := by rw [← hx0]; exact hn _ (ezq (by omega))
      have e : F (j + 1) = (kzq (mz0 s p q) (F j).reverse x0).reverse := by
        simp only [F]; rw [Gzu (by omega), List.foldl_append, List.reverse_reverse, hx0]; rfl
      rw [e]
      have inner : ∀ (n N : Nat) (rs : List az4) (x : az4), rs.length = n → n < N → n ≤ 4096 → ∃ y : List az4 × Int × Int × List V3, iter (fun (x231 : List az4 × Int × Int × List V3) =>
          (bif decide (((x231.1.length : Nat) : Int) > 0) then
            grd (0 ≤ (IntKind.i64.wrap (((x231.1.length : Nat) : Int) - 1)) ∧ (IntKind.i64.wrap (((x231.1.length : Nat) : Int) - 1)) < ((x231.1.length : Nat) : Int))
            (grd (((IntKind.i64.wrap (((x231.1.length : Nat) : Int) - 1))).toNat < x231.1.length)
            ((mzz s p q (x231.1.getD (((IntKind.i64.wrap (((x231.1.length : Nat) : Int) - 1))).toNat) default) (⟨x231.2.1, x231.2.2.1, x231.2.2.2⟩ : az4)).o.bind fun y236 =>
             bif !y236.2 then some (.out (x231.1, x231.2.1, x231.2.2.1, x231.2.2.2)) else
              grd (0 ≤ (IntKind.i64.wrap (((x231.1.length : Nat) : Int) - 1)) ∧ (IntKind.i64.wrap (((x231.1.length : Nat) : Int) - 1)) ≤ ((x231.1.length : Nat) : Int) ∧ 0 ≤ ((IntKind.i64.wrap (((x231.1.length : Nat) : Int) - 1))).toNat)
              (some (.next ((x231.1.take (((IntKind.i64.wrap (((x231.1.length : Nat) : Int) - 1))).toNat)), y236.1.Depth, y236.1.Index, y236.1.Normals)))))
           else some (.out (x231.1, x231.2.1, x231.2.2.1, x231.2.2.2)) : Option (Step3 (List az4 × Int × Int × List V3) (List az4 × Int × Int × List V3) (Step3 (List az4 × Int) (List az4) (List az4))))) N (rs.reverse, x.Depth, x.Index, x.Normals) = some (.inl y) ∧
          y.1 ++ [(⟨y.2.1, y.2.2.1, y.2.2.2⟩ : az4)] = (kzq (mz0 s p q) rs x).reverse ∧ y.1.length ≤ n := by
        intro n
        induction n with
        | zero =>
          intro N rs x hr hN _
          obtain rfl := List.eq_nil_of_length_eq_zero hr
          obtain ⟨M, rfl⟩ : ∃ M, N = M + 1 := ⟨N - 1, by omega⟩
          exact ⟨([], x.Depth, x.Index, x.Normals), by simp [iter], by simp [kzq], by simp⟩
        | succ n ih =>
          intro N rs x hr hN hn4
          obtain ⟨M, rfl⟩ : ∃ M, N = M + 1 := ⟨N - 1, by omega⟩
          obtain ⟨a, rs', rfl⟩ : ∃ a rs', rs = a :: rs' := by cases rs with
            | nil => simp at hr
            | cons a rs' => exact ⟨a, rs', rfl⟩
          have hr' : rs'.length = n := by simpa using hr
          have hlen : ((a :: rs').reverse).length = n + 1 := by simp [hr']
          have hw : IntKind.i64.wrap (((n + 1 : Nat) : Int) - 1) = (n : Int) := by rw [w64 (by omega) (by omega)]; omega
          have hget : ((a :: rs').reverse).getD n default = a := by
            rw [List.reverse_cons, List.getD_eq_getElem?_getD, List.getElem?_append_right (by simp [hr'])]; simp [hr']
          have htake : ((a :: rs').reverse).take n = rs'.reverse := by rw [List.reverse_cons, List.take_left' (by simp [hr'])]
          simp only [iter]
          rw [hlen, hw, az7 (by omega), azb ⟨by omega, by omega⟩, Int.toNat_natCast, azb (by omega), hget, htake, Bzm s hp hq, Option.bind_some]
          simp only [kzq]
          cases hJ : mz0 s p q a x with
          | none => exact ⟨_, rfl, by simp, by simp [hr']⟩
          | some w =>
            simp only [Bool.not_true, cond_false]
            rw [azb ⟨by omega, by omega, by omega⟩]
            obtain ⟨y, y1, y2, y3⟩ := ih M rs' w hr' (by omega) (by omega)
            exact ⟨y, y1, y2, by omega⟩
      obtain ⟨y, y1, y2, y3⟩ := inner (F j).reverse.length NN (F j).reverse x0 rfl (show (F j).reverse.length < 4294967296 by simp only [List.length_reverse]; omega) (by simp only [List.length_reverse]; omega)
      rw [List.reverse_reverse] at y1
      simp only [List.length_reverse] at y3
      refine (zz2 y1).trans ?_
      rw [azb ⟨by simp only [List.length_singleton]; omega, by simp only [List.length_singleton, bz8]; omega⟩, y2]
    · rw [az5 (by simp)]
    · have hf := F_ok l.length (Nat.le_refl _)
      show (gzk (F l.length)).o.bind _ = _
      rw [rz7 _ (by omega) hf.1]
      simp only [F, List.take_length]; rfl
  · rw [bzl h, if_pos h, rz7 l hl hn]; rfl
end
def cenF (l : List IV3) (i : Nat) : V3 := (midV (l.getD i default).1, midV (l.getD i default).2.1, midV (l.getD i default).2.2)
def cenV (l : List IV3) : List V3 := if bzd l then tab (cenF l) l.length else nl
theorem tza {σ τ R β : Type} {f : σ → Option (Step3 σ τ R)} {k : τ → Option R} {g : β → R} {P : β → Prop} {x : σ} (n : Nat) (hn : n < 4294967296) (I : Nat → σ → Prop) (Q : τ → Prop) (h0 : I 0 x)
    (hs : ∀ j y, j < n → I j y → ∃ y', f y = some (.next y') ∧ I (j + 1) y') (he : ∀ y, I n y → ∃ z, f y = some (.out z) ∧ Q z) (hk : ∀ z, Q z → ∃ b, k z = some (g b) ∧ P b) : ∃ b, andK (iter f NN x) k = some (g b) ∧ P b := by
  have key : ∀ (m j N : Nat) (y : σ), j + m = n → m < N → I j y → ∃ z, iter f N y = some (.inl z) ∧ Q z := by
    intro m
    induction m with
    | zero =>
      intro j N y hj hN hI
      obtain ⟨M, rfl⟩ : ∃ M, N = M + 1 := ⟨N - 1, by omega⟩
      obtain rfl : j = n := by omega
      obtain ⟨z, h1, h2⟩ := he y hI
      exact ⟨z, by simp [iter, h1], h2⟩
    | succ m ih =>
      intro j N y hj hN hI
      obtain ⟨M, rfl⟩ : ∃ M, N = M + 1 := ⟨N - 1, by omega⟩
      obtain ⟨y', h1, h2⟩ := hs j y (by omega) hI
      simp only [iter, h1]
      exact ih (j + 1) M y' (by omega) (by omega) h2
  obtain ⟨z, h1, h2⟩ := key n 0 NN x (by omega) hn h0
  obtain ⟨b, h3, h4⟩ := hk z h2
  exact ⟨b, by rw [h1]; exact h3, h4⟩
theorem InR.max {a b : Int} (ha : InR a) (hb : InR b) : InR (max a b) := by
  obtain ⟨h1, h2⟩ := ha; obtain ⟨h3, h4⟩ := hb; exact ⟨by omega, by omega⟩
theorem sze (a : Int) : (fz1 a).o = some (max a (IntKind.i64.wrap (0 - a))) := rfl
theorem dz2 {σ τ R : Type} {f : σ → Option (Step3 σ τ R)} {k : τ → Option R} {P : R → Prop} {x : σ} (I : Nat → σ → Prop) (Q : τ → Prop) (m : Nat) (h0 : I m x) (hN : m < 4294967296)
    (hr : ∀ m x, I m x → (∃ x' m', f x = some (.next x') ∧ m' < m ∧ I m' x') ∨ (∃ y, f x = some (.out y) ∧ Q y) ∨ ∃ r, f x = some (.fin r) ∧ P r) (hk : ∀ y, Q y → ∃ r, k y = some r ∧ P r) : ∃ r, andK (iter f NN x) k = some r ∧ P r := by
  have go : ∀ (N m : Nat) (x : σ), I m x → m < N → (∃ y, iter f N x = some (.inl y) ∧ Q y) ∨ ∃ r, iter f N x = some (.inr r) ∧ P r := by
    intro N
    induction N with
    | zero => intro m x _ h; omega
    | succ N ih =>
      intro m x hi h
      rcases hr m x hi with ⟨x', m', h1, h2, h3⟩ | ⟨y, h1, h2⟩ | ⟨r, h1, h2⟩
      · simp only [iter, h1]; exact ih m' x' h3 (by omega)
      · exact .inl ⟨y, by simp [iter, h1], h2⟩
      · exact .inr ⟨r, by simp [iter, h1], h2⟩
  rcases go NN m x h0 hN with ⟨y, e1, e2⟩ | ⟨r, e1, e2⟩
  · rw [zz2 e1]; exact hk y e2
  · rw [Nzv e1]; exact ⟨r, rfl, e2⟩
theorem jzb {x k : Int} (hk : 0 < k) (hk2 : k ≤ 4611686018427387904) : (gz6 x k).o = some (x % k) := by
  show (rzw x k).run NN = _
  have h2 := Int.tmod_lt_of_pos x hk
  have h3 := Int.lt_tmod_of_pos x hk
  have h1 := Int.mul_tdiv_add_tmod x k
  have e := Int.emod_add_mul_ediv x k
  have e2 := Int.emod_nonneg x (show k ≠ 0 by omega)
  have e3 := Int.emod_lt_of_pos x hk
  simp only [rzw, T.run]
  rw [azb (by omega)]
  by_cases h : x.tmod k < 0
  · rw [az7 h, aza, w64 (by omega) (by omega)]
    congr 1
    have : x % k = x.tmod k + k := by
      have := oza (a := x) (b := k) (q := x.tdiv k - 1) (r := x.tmod k + k) (by omega) (by omega) (by rw [Int.mul_sub]; omega)
      rw [this, Int.mul_sub] at e; omega
    omega
  · rw [az5 h, aza]
    congr 1
    have := oza (a := x) (b := k) (q := x.tdiv k) (r := x.tmod k) (by omega) (by omega) (by omega)
    rw [this] at e; omega
section
variable {l : List Int} (hl : l.length < 4294967296) {n : Int} (h0 : 0 ≤ n) (h1 : n ≤ (l.length : Int))
include hl h0 h1
theorem azi {k : Int} (hk : 0 < k) (hk2 : k ≤ 4611686018427387904) : ∃ r n', (azd l n k).o = some (r, l, n') ∧ 0 ≤ r ∧ r < k ∧ 0 ≤ n' ∧ n' ≤ (l.length : Int) := by
  have e0 : (azd l n k).o = (ozt l n k).run NN := rfl
  rw [e0]
  simp only [ozt, T.run]
  by_cases h : n ≥ (l.length : Int)
  · rw [az7 h]; exact ⟨_, _, rfl, by omega, by omega, h0, h1⟩
  · rw [az5 h, w64 (x := n + 1) (by omega) (by omega), w64 (by omega) (by omega), azb ⟨by omega, by omega⟩, jzb hk hk2, Option.bind_some]
    exact ⟨_, _, rfl, Int.emod_nonneg _ (by omega), Int.emod_lt_of_pos _ hk, by omega, by omega⟩
theorem bzu {k : Int} (hk : 0 ≤ k) (hk2 : k ≤ 1000000) : ∃ r n', (bz3 l n k).o = some (r, l, n') ∧ -k ≤ r ∧ r ≤ k ∧ 0 ≤ n' ∧ n' ≤ (l.length : Int) := by
  have e0 : (bz3 l n k).o = (kzx l n k).run NN := rfl
  rw [e0]
  simp only [kzx, T.run]
  rw [w64 (x := 2 * k) (by omega) (by omega), w64 (x := 2 * k + 1) (by omega) (by omega)]
  obtain ⟨r, n', e1, e2, e3, e4, e5⟩ := azi hl h0 h1 (k := 2 * k + 1) (by omega) (by omega)
  rw [e1, Option.bind_some, w64 (by omega) (by omega)]
  exact ⟨_, _, rfl, by omega, by omega, e4, e5⟩
def JB (j : azk) : Prop := -1048576 ≤ j.Lo ∧ j.Lo ≤ j.Hi ∧ j.Hi ≤ 1048576
theorem Fzz {i : Int} (i0 : 0 ≤ i) (i1 : i ≤ 2) : ∃ j n', (rzz l n i).o = some (j, l, n') ∧ JB j ∧ 0 ≤ n' ∧ n' ≤ (l.length : Int) := by
  have e0 : (rzz l n i).o = (sz0 l n i).run NN := rfl
  rw [e0]
  simp only [sz0, T.run]
  have el : ∃ b, (pzj i).o = some b := by
    have e1 : (pzj i).o = (pzk i).run NN := rfl
    rw [e1]
    simp only [pzk, T.run]
    rw [w64 (x := i + 1) (by omega) (by omega), azb ⟨by omega, by omega, by rw [show ((⟨#[97, 98, 99, 100, 101, 102, 103, 104, 105, 106]⟩ : ByteArray).size) = 10 from rfl]; omega⟩]
    exact ⟨_, rfl⟩
  obtain ⟨nm, el⟩ := el
  obtain ⟨r1, n1, e1, a1, b1, c1, d1⟩ := azi hl h0 h1 (k := 4) (by decide) (by decide)
  obtain ⟨r2, n2, e2, a2, b2, c2, d2⟩ := azi hl c1 d1 (k := 3) (by decide) (by decide)
  obtain ⟨r3, n3, e3, a3, b3, c3, d3⟩ := azi hl c2 d2 (k := 8) (by decide) (by decide)
  obtain ⟨r4, n4, e4, a4, b4, c4, d4⟩ := azi hl c3 d3 (k := 4) (by decide) (by decide)
  rw [el, Option.bind_some, e1, Option.bind_some, e2, Option.bind_some, e3, Option.bind_some, azb ⟨by simp only; omega, by simp only; omega⟩, e4, Option.bind_some]
  generalize hK : ([3, 3, 1, 2, 4, 5, 3, 0] : List Int).getD r3.toNat 0 = K
  have rest : ∀ (m pr : Int), 0 ≤ m → m ≤ (l.length : Int) → ∃ j n', (andC (bif decide (i > 0) then (bz3 l m 2).o.bind fun y21 => (bz3 y21.2.1 y21.2.2 1).o.bind fun y22 => some (.out (y22.2.1, y22.2.2, 131072, IntKind.i64.wrap (y21.1 * 32768), IntKind.i64.wrap (y22.1 * 32768))) else some (.out (l, m, 0, 0, 0)) : Option (Step3 Unit (List Int × Int × Int × Int × Int) (azk × List Int × Int))) fun y20 =>
      andC (bif K == 0 then some (.out (y20.1, y20.2.1, 0, 0)) else andC (bif K == 4 then some (.out (K == 4)) else some (.out (K == 5)) : Option (Step3 Unit Bool (Step3 Unit (List Int × Int × Int × Int) (azk × List Int × Int)))) fun y36 =>
        bif y36 then (azd y20.1 y20.2.1 3).o.bind fun y37 => (azd y37.2.1 y37.2.2 4).o.bind fun y38 => some (.out (y38.2.1, y38.2.2, IntKind.i64.wrap (IntKind.i64.wrap (0 - y37.1) * 65536), IntKind.i64.wrap (y38.1 * 32768)))
        else (azd y20.1 y20.2.1 5).o.bind fun y39 => (azd y39.2.1 y39.2.2 4).o.bind fun y40 => (azd y40.2.1 y40.2.2 3).o.bind fun y41 =>
          some (.out (y41.2.1, y41.2.2, IntKind.i64.wrap ((IntKind.i64.wrap (IntKind.i64.wrap (0 - y39.1) * 65536)).tdiv 8), IntKind.i64.wrap (IntKind.i64.wrap ((IntKind.i64.wrap (IntKind.i64.wrap (1 + y40.1) * 65536)).tdiv 8) + y41.1))) : Option (Step3 Unit (List Int × Int × Int × Int) (azk × List Int × Int))) fun y35 =>
      some ((⟨nm, K, pr, (y20.2.2.1, y20.2.2.2.1, y20.2.2.2.2), y35.2.2.1, y35.2.2.2, IntKind.i64.wrap (1 + r1), 65536, IntKind.i64.wrap (65536 + r2), 327680⟩ : azk), y35.1, y35.2.1)) = some (j, l, n') ∧ JB j ∧ 0 ≤ n' ∧ n' ≤ (l.length : Int) := by
    intro m pr m0 m1
    have lim : ∀ (m : Int) (o1 o2 o3 : Int), 0 ≤ m → m ≤ (l.length : Int) → ∃ j n', (andC (bif K == 0 then some (.out (l, m, 0, 0)) else andC (bif K == 4 then some (.out (K == 4)) else some (.out (K == 5)) : Option (Step3 Unit Bool (Step3 Unit (List Int × Int × Int × Int) (azk × List Int × Int)))) fun y36 =>
        bif y36 then (azd l m 3).o.bind fun y37 => (azd y37.2.1 y37.2.2 4).o.bind fun y38 => some (.out (y38.2.1, y38.2.2, IntKind.i64.wrap (IntKind.i64.wrap (0 - y37.1) * 65536), IntKind.i64.wrap (y38.1 * 32768)))
        else (azd l m 5).o.bind fun y39 => (azd y39.2.1 y39.2.2 4).o.bind fun y40 => (azd y40.2.1 y40.2.2 3).o.bind fun y41 =>
          some (.out (y41.2.1, y41.2.2, IntKind.i64.wrap ((IntKind.i64.wrap (IntKind.i64.wrap (0 - y39.1) * 65536)).tdiv 8), IntKind.i64.wrap (IntKind.i64.wrap ((IntKind.i64.wrap (IntKind.i64.wrap (1 + y40.1) * 65536)).tdiv 8) + y41.1))) : Option (Step3 Unit (List Int × Int × Int × Int) (azk × List Int × Int))) fun y35 =>
      some ((⟨nm, K, pr, (o1, o2, o3), y35.2.2.1, y35.2.2.2, IntKind.i64.wrap (1 + r1), 65536, IntKind.i64.wrap (65536 + r2), 327680⟩ : azk), y35.1, y35.2.1)) = some (j, l, n') ∧ JB j ∧ 0 ≤ n' ∧ n' ≤ (l.length : Int) := by
      intro m o1 o2 o3 m0 m1
      cases K == 0
      · simp only [cond_false, bz0, aza]
        cases (bif K == 4 then K == 4 else K == 5)
        · obtain ⟨s1, n1, e1, a1, b1, c1, d1⟩ := azi hl m0 m1 (k := 5) (by decide) (by decide)
          obtain ⟨s2, n2, e2, a2, b2, c2, d2⟩ := azi hl c1 d1 (k := 4) (by decide) (by decide)
          obtain ⟨s3, n3, e3, a3, b3, c3, d3⟩ := azi hl c2 d2 (k := 3) (by decide) (by decide)
          simp only [cond_false]
          rw [e1, Option.bind_some, e2, Option.bind_some, e3, Option.bind_some, aza]
          refine ⟨_, _, rfl, ?_, c3, d3⟩
          simp only [JB]
          rw [w64 (x := 0 - s1) (by omega) (by omega), w64 (x := (0 - s1) * 65536) (by omega) (by omega), w64 (x := 1 + s2) (by omega) (by omega), w64 (x := (1 + s2) * 65536) (by omega) (by omega), fza (a := (1 + s2) * 65536) (by omega),
            show (0 - s1) * 65536 = -(s1 * 65536) by omega, Bzc, fza (by omega), w64 (x := -(s1 * 65536 / 8)) (by omega) (by omega), w64 (x := (1 + s2) * 65536 / 8) (by omega) (by omega), w64 (x := (1 + s2) * 65536 / 8 + s3) (by omega) (by omega)]
          omega
        · obtain ⟨s1, n1, e1, a1, b1, c1, d1⟩ := azi hl m0 m1 (k := 3) (by decide) (by decide)
          obtain ⟨s2, n2, e2, a2, b2, c2, d2⟩ := azi hl c1 d1 (k := 4) (by decide) (by decide)
          simp only [cond_true]
          rw [e1, Option.bind_some, e2, Option.bind_some, aza]
          refine ⟨_, _, rfl, ?_, c2, d2⟩
          simp only [JB]
          rw [w64 (x := 0 - s1) (by omega) (by omega), w64 (x := (0 - s1) * 65536) (by omega) (by omega), w64 (x := s2 * 32768) (by omega) (by omega)]
          omega
      · exact ⟨_, _, rfl, by simp only [JB]; omega, m0, m1⟩
    cases decide (i > 0)
    · simp only [cond_false, aza]; exact lim m 0 0 0 m0 m1
    · obtain ⟨s1, n1, e1, a1, b1, c1, d1⟩ := bzu hl m0 m1 (k := 2) (by decide) (by decide)
      obtain ⟨s2, n2, e2, a2, b2, c2, d2⟩ := bzu hl c1 d1 (k := 1) (by decide) (by decide)
      simp only [cond_true]
      rw [e1, Option.bind_some, e2, Option.bind_some, aza]
      exact lim n2 _ _ _ c2 d2
  cases r4 == 1
  · exact rest n4 _ c4 d4
  · exact rest n4 _ c4 d4
theorem Gz1 : ∃ b : azj × List Int × Int, (mzb l n).o = some b ∧ b.2.1 = l ∧ (1 ≤ b.1.Joints.length ∧ b.1.Joints.length ≤ 3 ∧ ∀ j ∈ b.1.Joints, JB j) ∧ 0 ≤ b.2.2 ∧ b.2.2 ≤ (l.length : Int) := by
  have e0 : (mzb l n).o = (sz1 l n).run NN := rfl
  rw [e0]
  simp only [sz1, T.run]
  obtain ⟨r1, n1, e1, a1, b1, c1, d1⟩ := azi hl h0 h1 (k := 3) (by decide) (by decide)
  rw [e1, Option.bind_some]
  simp only
  rw [w64 (x := 1 + r1) (by omega) (by omega)]
  obtain ⟨R, hR⟩ : ∃ R : Nat, 1 + r1 = (R : Int) := ⟨(1 + r1).toNat, by omega⟩
  rw [hR]
  refine tza (g := fun b => b) R (by omega) (fun j (y : List Int × Int × List azk × Int) => y.1 = l ∧ 0 ≤ y.2.1 ∧ y.2.1 ≤ (l.length : Int) ∧ y.2.2.1.length = j ∧ (∀ x ∈ y.2.2.1, JB x) ∧ y.2.2.2 = (j : Int))
    (fun (z : List Int × Int × List azk) => z.1 = l ∧ 0 ≤ z.2.1 ∧ z.2.1 ≤ (l.length : Int) ∧ z.2.2.length = R ∧ ∀ x ∈ z.2.2, JB x) ⟨rfl, c1, d1, rfl, by simp [nl], rfl⟩ (fun j y hj hy => ?_) (fun y hy => ?_) (fun z hz => ?_)
  · obtain ⟨f1, f2, f3, f4, f5, f6⟩ := hy
    obtain ⟨jt, n', ej, hj1, hj2, hj3⟩ := Fzz hl f2 f3 (i := (j : Int)) (by omega) (by omega)
    rw [f6, f1, az7 (by omega), ej, Option.bind_some]
    simp only
    rw [azb ⟨by simp; omega, by simp [bz8]; omega⟩, wn (by omega)]
    refine ⟨_, rfl, rfl, hj2, hj3, by simp; omega, fun x hx => ?_, rfl⟩
    rcases List.mem_append.1 hx with hx | hx
    · exact f5 x hx
    · rw [List.mem_singleton.1 hx]; exact hj1
  · obtain ⟨f1, f2, f3, f4, f5, f6⟩ := hy
    rw [f6, az5 (by omega)]; exact ⟨_, rfl, f1, f2, f3, f4, f5⟩
  · obtain ⟨f1, f2, f3, f4, f5⟩ := hz
    obtain ⟨r2, n2, e2, a2, b2, c2, d2⟩ := azi hl f2 f3 (k := 3) (by decide) (by decide)
    rw [f1, e2, Option.bind_some]
    simp only
    obtain ⟨M, hM⟩ : ∃ M : Nat, r2 = (M : Int) := ⟨r2.toNat, by omega⟩
    rw [hM]
    refine tza (g := fun b => b) M (by omega) (fun j (y : List Int × Int × List bzc × Int) => y.1 = l ∧ 0 ≤ y.2.1 ∧ y.2.1 ≤ (l.length : Int) ∧ y.2.2.1.length = j ∧ y.2.2.2 = (M : Int) - (j : Int))
      (fun (w : List Int × Int × List bzc) => w.1 = l ∧ 0 ≤ w.2.1 ∧ w.2.1 ≤ (l.length : Int)) ⟨rfl, c2, d2, rfl, by simp⟩ (fun j y hj hy => ?_) (fun y hy => ?_) (fun w hw => ?_)
    · obtain ⟨g1, g2, g3, g4, g5⟩ := hy
      obtain ⟨s1, m1, q1, u1, v1, w1, x1⟩ := azi hl g2 g3 (k := (R : Int)) (by omega) (by omega)
      obtain ⟨s2, m2, q2, u2, v2, w2, x2⟩ := azi hl w1 x1 (k := 9000) (by decide) (by decide)
      obtain ⟨s3, m3, q3, u3, v3, w3, x3⟩ := bzu hl w2 x2 (k := 3) (by decide) (by decide)
      obtain ⟨s4, m4, q4, u4, v4, w4, x4⟩ := bzu hl w3 x3 (k := 2) (by decide) (by decide)
      rw [g5, g1, az7 (by omega), q1, Option.bind_some, q2, Option.bind_some, q3, Option.bind_some, q4, Option.bind_some]
      simp only
      rw [azb ⟨by simp; omega, by simp [bz8]; omega⟩, w64 (x := (M : Int) - (j : Int) - 1) (by omega) (by omega)]
      exact ⟨_, rfl, rfl, w4, x4, by simp; omega, by simp only; omega⟩
    · obtain ⟨g1, g2, g3, g4, g5⟩ := hy
      rw [g5, az5 (by omega)]; exact ⟨_, rfl, g1, g2, g3⟩
    · exact ⟨_, rfl, hw.1, ⟨by simp only; omega, by simp only; omega, f5⟩, hw.2.1, hw.2.2⟩
theorem Gz0 : ∃ r n', (mzb l n).o = some (r, l, n') ∧ (1 ≤ r.Joints.length ∧ r.Joints.length ≤ 3 ∧ ∀ j ∈ r.Joints, JB j) ∧ 0 ≤ n' ∧ n' ≤ (l.length : Int) := by
  obtain ⟨⟨r, l', n'⟩, g1, g2, g3, g4, g5⟩ := Gz1 hl h0 h1
  simp only at g2; subst g2
  exact ⟨r, n', g1, g3, g4, g5⟩
theorem Ez5 (c : V3) : ∃ b : List V3 × List Int × Int, (gzv l n c).o = some b ∧ b.2.1 = l ∧ 0 ≤ b.2.2 ∧ b.2.2 ≤ (l.length : Int) := by
  have e0 : (gzv l n c).o = (pzl l n c).run NN := rfl
  rw [e0]
  simp only [pzl, T.run, T.ix]
  obtain ⟨r1, n1, e1, a1, b1, c1, d1⟩ := azi hl h0 h1 (k := 4) (by decide) (by decide)
  rw [e1, Option.bind_some]
  simp only
  obtain ⟨M, hM⟩ : ∃ M : Nat, r1 = (M : Int) := ⟨r1.toNat, by omega⟩
  rw [hM]
  refine tza (g := fun b => b) M (by omega) (fun j (y : List Int × Int × List V3 × Int) => y.1 = l ∧ 0 ≤ y.2.1 ∧ y.2.1 ≤ (l.length : Int) ∧ y.2.2.1.length = j + 1 ∧ y.2.2.2 = (M : Int) - (j : Int))
    (fun (w : List Int × Int × List V3) => w.1 = l ∧ 0 ≤ w.2.1 ∧ w.2.1 ≤ (l.length : Int)) ⟨rfl, c1, d1, rfl, by simp⟩ (fun j y hj hy => ?_) (fun y hy => ?_) (fun w hw => ⟨_, rfl, hw⟩)
  · obtain ⟨g1, g2, g3, g4, g5⟩ := hy
    obtain ⟨s1, m1, q1, u1, v1, w1, x1⟩ := bzu hl g2 g3 (k := 3) (by decide) (by decide)
    obtain ⟨s2, m2, q2, u2, v2, w2, x2⟩ := bzu hl w1 x1 (k := 2) (by decide) (by decide)
    obtain ⟨s3, m3, q3, u3, v3, w3, x3⟩ := bzu hl w2 x2 (k := 2) (by decide) (by decide)
    rw [g5, g1, az7 (by omega), q1, Option.bind_some, q2, Option.bind_some, q3, Option.bind_some]
    simp only
    rw [azb ⟨by simp; omega, by simp [bz8]; omega⟩, w64 (x := (M : Int) - (j : Int) - 1) (by omega) (by omega)]
    exact ⟨_, rfl, rfl, w3, x3, by simp; omega, by simp only; omega⟩
  · obtain ⟨g1, g2, g3, g4, g5⟩ := hy
    rw [g5, az5 (by omega)]; exact ⟨_, rfl, g1, g2, g3⟩
theorem vzr (c : V3) : ∃ ps n', (gzv l n c).o = some (ps, l, n') ∧ 0 ≤ n' ∧ n' ≤ (l.length : Int) := by
  obtain ⟨⟨r, l', n'⟩, g1, g2, g4, g5⟩ := Ez5 hl h0 h1 c
  simp only at g2; subst g2
  exact ⟨r, n', g1, g4, g5⟩
end
theorem Fzy (l : List Int) (hl : l.length < 4294967296) : ∃ s : az8, (rzx l).o = some s ∧ (1 ≤ s.Robot.Joints.length ∧ s.Robot.Joints.length ≤ 3 ∧ ∀ j ∈ s.Robot.Joints, JB j) := by
  have e0 : (rzx l).o = (rzy l).run NN := rfl
  rw [e0]
  simp only [rzy, T.run]
  have ef : (iz7 l).o = some (l, 0) := rfl
  rw [ef, Option.bind_some]
  obtain ⟨r, n0, er, hr, m0, m1⟩ := Gz0 hl (n := 0) (by omega) (by omega)
  rw [er, Option.bind_some]
  simp only
  refine tza (g := fun b => b) r.Joints.length (by omega) (fun j (y : List Int × Int × List azo × Int) => y.1 = l ∧ 0 ≤ y.2.1 ∧ y.2.1 ≤ (l.length : Int) ∧ y.2.2.1.length ≤ j ∧ y.2.2.2 = (j : Int))
    (fun (w : List Int × Int × List azo) => w.1 = l ∧ 0 ≤ w.2.1 ∧ w.2.1 ≤ (l.length : Int) ∧ w.2.2.length ≤ 3) ⟨rfl, m0, m1, by simp [nl], rfl⟩ (fun j y hj hy => ?_) (fun y hy => ?_) (fun z hz => ?_)
  · obtain ⟨g1, g2, g3, g4, g5⟩ := hy
    obtain ⟨s1, p1, q1, u1, v1, w1, x1⟩ := azi hl g2 g3 (k := 5) (by decide) (by decide)
    obtain ⟨s2, p2, q2, u2, v2, w2, x2⟩ := azi hl w1 x1 (k := 3) (by decide) (by decide)
    obtain ⟨s3, p3, q3, u3, v3, w3, x3⟩ := azi hl w2 x2 (k := 4) (by decide) (by decide)
    obtain ⟨ps, p4, q4, w4, x4⟩ := vzr hl w3 x3 (IntKind.i64.wrap (s3 * 32768), 0, 0)
    rw [g5, g1, az7 (by omega), q1, Option.bind_some, wn (by omega)]
    cases decide (s1 < 4)
    · exact ⟨_, rfl, rfl, w1, x1, by simp only; omega, rfl⟩
    · simp only [cond_true]
      rw [q2, Option.bind_some, q3, Option.bind_some, q4, Option.bind_some]
      simp only
      rw [azb ⟨by simp; omega, by simp [bz8]; omega⟩, aza]
      exact ⟨_, rfl, rfl, w4, x4, by simp; omega, rfl⟩
  · obtain ⟨g1, g2, g3, g4, g5⟩ := hy
    rw [g5, az5 (by omega)]; exact ⟨_, rfl, g1, g2, g3, by simp only; omega⟩
  · obtain ⟨g1, g2, g3, g4⟩ := hz
    obtain ⟨s1, p1, q1, u1, v1, w1, x1⟩ := azi hl g2 g3 (k := 3) (by decide) (by decide)
    rw [g1, q1, Option.bind_some]
    simp only
    rw [w64 (x := 1 + s1) (by omega) (by omega)]
    obtain ⟨M, hM⟩ : ∃ M : Nat, 1 + s1 = (M : Int) := ⟨(1 + s1).toNat, by omega⟩
    rw [hM]
    refine tza (g := fun b => b) M (by omega) (fun j (y : List Int × Int × List azo × Int) => y.1 = l ∧ 0 ≤ y.2.1 ∧ y.2.1 ≤ (l.length : Int) ∧ y.2.2.1.length ≤ 3 + j ∧ y.2.2.2 = (M : Int) - (j : Int))
      (fun (w : List Int × Int × List azo) => w.1 = l ∧ 0 ≤ w.2.1 ∧ w.2.1 ≤ (l.length : Int)) ⟨rfl, w1, x1, by simp only; omega, by simp⟩ (fun j y hj hy => ?_) (fun y hy => ?_) (fun w hw => ?_)
    · obtain ⟨g1, g2, g3, g4, g5⟩ := hy
      obtain ⟨t1, p1, q1, u1, v1, w1, x1⟩ := bzu hl g2 g3 (k := 9) (by decide) (by decide)
      obtain ⟨t2, p2, q2, u2, v2, w2, x2⟩ := bzu hl w1 x1 (k := 9) (by decide) (by decide)
      obtain ⟨t3, p3, q3, u3, v3, w3, x3⟩ := bzu hl w2 x2 (k := 2) (by decide) (by decide)
      obtain ⟨t4, p4, q4, u4, v4, w4, x4⟩ := azi hl w3 x3 (k := 4) (by decide) (by decide)
      obtain ⟨ps, p5, q5, w5, x5⟩ := vzr hl w4 x4 (IntKind.i64.wrap (t1 * 32768), IntKind.i64.wrap (t2 * 32768), IntKind.i64.wrap (t3 * 32768))
      rw [g5, g1, az7 (by omega), q1, Option.bind_some, q2, Option.bind_some, q3, Option.bind_some, q4, Option.bind_some, q5, Option.bind_some]
      simp only
      rw [azb ⟨by simp; omega, by simp [bz8]; omega⟩, w64 (x := (M : Int) - (j : Int) - 1) (by omega) (by omega)]
      exact ⟨_, rfl, rfl, w5, x5, by simp; omega, by simp only; omega⟩
    · obtain ⟨g1, g2, g3, g4, g5⟩ := hy
      rw [g5, az5 (by omega)]; exact ⟨_, rfl, g1, g2, g3⟩
    · obtain ⟨g1, g2, g3⟩ := hw
      obtain ⟨s1, p1, q1, u1, v1, w1, x1⟩ := azi hl g2 g3 (k := 5) (by decide) (by decide)
      obtain ⟨s2, p2, q2, u2, v2, w2, x2⟩ := azi hl w1 x1 (k := (r.Joints.length : Int)) (by omega) (by omega)
      rw [g1, q1, Option.bind_some]
      cases s1 == 1
      · exact ⟨_, rfl, hr⟩
      · simp only [cond_true]
        rw [q2, Option.bind_some]
        simp only
        rw [azb ⟨by simp, by simp [bz8]⟩]
        exact ⟨_, rfl, hr⟩
def PB (n : Nat) (l : List az4) : Prop := l.length ≤ n ∧ ∀ x ∈ l, x.Normals.length ≤ 1048576
def tW (w : List Int) : Nat → Int
  | 0 => 0
  | j + 1 => IntKind.i64.wrap (tW w j + w.getD j default)
def cW (w : List Int) (g : Nat → Int) : Nat → Int
  | 0 => 0
  | j + 1 => IntKind.i64.wrap (cW w g j + IntKind.i64.wrap (w.getD j default * g j))
def cV (l : List IV3) (w : List Int) (j : Nat) : IV3 :=
  (⟨cW w (fun i => (l.getD i default).1.Lo) j, cW w (fun i => (l.getD i default).1.Hi) j⟩, ⟨cW w (fun i => (l.getD i default).2.1.Lo) j, cW w (fun i => (l.getD i default).2.1.Hi) j⟩, ⟨cW w (fun i => (l.getD i default).2.2.Lo) j, cW w (fun i => (l.getD i default).2.2.Hi) j⟩)
def badW (w : List Int) (j : Nat) : Bool := decide (w.getD j default < 0) || decide (w.getD j default > 65536)
def zc : IV3 × Int × Bool := ((⟨0, 0⟩, ⟨0, 0⟩, ⟨0, 0⟩), 0, false)
def okC (l : List IV3) (w : List Int) : Prop := bzd l = true ∧ w.length = l.length ∧ bzs (badW w) w.length = true ∧ 1 ≤ tW w w.length ∧ tW w w.length ≤ 65536
instance (l : List IV3) (w : List Int) : Decidable (okC l w) := by unfold okC; infer_instance
def azq (l : List IV3) (w : List Int) : IV3 × Int × Bool := if okC l w then (cV l w w.length, tW w w.length, true) else zc
theorem badW_iff {w : List Int} {n : Nat} : bzs (badW w) n = true ↔ ∀ j, j < n → 0 ≤ w.getD j default ∧ w.getD j default ≤ 65536 := by
  rw [noneB_iff]
  refine forall_congr' fun j => imp_congr Iff.rfl ?_
  simp only [badW, Bool.or_eq_false_iff, decide_eq_false_iff_not]; omega
theorem Pzk {w : List Int} {n : Nat} (h : ∀ j, j < n → 0 ≤ w.getD j default ∧ w.getD j default ≤ 65536) (hn : n ≤ 8) : ∀ j, j ≤ n → 0 ≤ tW w j ∧ tW w j ≤ 65536 * (j : Int) ∧ ∀ i, i ≤ j → tW w i ≤ tW w j
  | 0, _ => ⟨by simp [tW], by simp [tW], fun i hi => by obtain rfl : i = 0 := by omega
                                                        exact Int.le_refl _⟩
  | j + 1, hj => by
    obtain ⟨h1, h2, h3⟩ := Pzk h hn j (by omega)
    obtain ⟨q1, q2⟩ := h j (by omega)
    have e : tW w (j + 1) = tW w j + w.getD j default := by simp only [tW]; exact w64 (by omega) (by omega)
    refine ⟨by omega, by omega, fun i hi => ?_⟩
    by_cases e1 : i = j + 1
    · rw [e1]; omega
    · have := h3 i (by omega); omega
theorem Gz4 {l : List IV3} {w : List Int} (hp : bzd l = false) : ¬ okC l w := fun h => by obtain ⟨h1, _⟩ := h; rw [hp] at h1; cases h1
theorem Bz8 (l : List IV3) (w : List Int) : (lzt l w).o = some (azq l w) := by
  show (lzu l w).run NN = _
  simp only [lzu, T.run, T.ix, dz5, Option.bind_some, bz0, aza, azq]
  cases hp : bzd l
  · rw [if_neg (Gz4 hp)]; rfl
  · have hl8 := czj hp
    simp only [Bool.not_true, cond_false]
    by_cases hl : w.length = l.length
    · rw [bzg (by omega)]
      refine (jza (fun j => ((cV l w j).1.Lo, (cV l w j).1.Hi, (cV l w j).2.1.Lo, (cV l w j).2.1.Hi, (cV l w j).2.2.Lo, (cV l w j).2.2.Hi, tW w j, (j : Int))) (fun j => sw (badW w j) zc) ((cV l w w.length).1.Lo, (cV l w w.length).1.Hi, (cV l w w.length).2.1.Lo, (cV l w w.length).2.1.Hi, (cV l w w.length).2.2.Lo, (cV l w w.length).2.2.Hi, tW w w.length) w.length rfl (show w.length < 4294967296 by omega) (fun j hj => ?_) ?_).trans ?_
      · dsimp only
        rw [az7 (by omega), azb ⟨by omega, by omega⟩, Int.toNat_natCast, dz9, show (decide (w.getD j default < 0) || decide (w.getD j default > 65536)) = badW w j from rfl]
        cases badW w j
        · rw [cond_false, azb ⟨by omega, by omega⟩, wn (by omega)]; rfl
        · rfl
      · dsimp only
        rw [az5 (by omega)]
      · rw [dzu]
        cases hb : bzs (badW w) w.length
        · rw [if_neg (fun h => by obtain ⟨_, _, h3, _⟩ := h; rw [hb] at h3; cases h3)]; rfl
        · simp only [sw, Bool.not_true, cond_false, dz9]
          by_cases h1 : tW w w.length < 1
          · rw [if_neg (fun h => by obtain ⟨_, _, _, h4, _⟩ := h; omega), decide_eq_true h1]; rfl
          · by_cases h2 : tW w w.length > 65536
            · rw [if_neg (fun h => by obtain ⟨_, _, _, _, h5⟩ := h; omega), decide_eq_false h1, decide_eq_true h2]; rfl
            · rw [if_pos (show okC l w from ⟨hp, hl, hb, by omega, by omega⟩), decide_eq_false h1, decide_eq_false h2]; rfl
    · rw [bzl (by omega), if_neg (fun h => by obtain ⟨_, h2, _⟩ := h; exact hl h2)]; rfl
def badR (w : List Int) (j : Nat) : Bool := decide (w.getD j default < 0) || decide (w.getD j default > IntKind.i64.wrap (65536 - tW w j))
theorem Nzx {w : List Int} {n : Nat} (hn : n ≤ 8) : bzs (badR w) n = true ↔ bzs (badW w) n = true ∧ tW w n ≤ 65536 := by
  rw [badW_iff]
  constructor
  · intro h
    rw [noneB_iff] at h
    have key : ∀ j, j ≤ n → 0 ≤ tW w j ∧ tW w j ≤ 65536 := by
      intro j
      induction j with
      | zero => intro _; simp [tW]
      | succ j ih =>
        intro hj
        obtain ⟨h1, h2⟩ := ih (by omega)
        have := h j (by omega)
        simp only [badR, Bool.or_eq_false_iff, decide_eq_false_iff_not] at this
        rw [w64 (x := 65536 - tW w j) (by omega) (by omega)] at this
        have e : tW w (j + 1) = tW w j + w.getD j default := by simp only [tW]; exact w64 (by omega) (by omega)
        omega
    refine ⟨fun j hj => ?_, (key n (Nat.le_refl _)).2⟩
    have h0 := key j (by omega)
    have := h j hj
    simp only [badR, Bool.or_eq_false_iff, decide_eq_false_iff_not] at this
    rw [w64 (x := 65536 - tW w j) (by omega) (by omega)] at this
    omega
  · rintro ⟨h, ht⟩
    rw [noneB_iff]
    intro j hj
    have h1 := Pzk h hn n (Nat.le_refl _)
    have h0 := Pzk h hn j (by omega)
    have h2 := h1.2.2 (j + 1) (by omega)
    have e : tW w (j + 1) = tW w j + w.getD j default := by simp only [tW]; have := h j hj; exact w64 (by omega) (by omega)
    have := h j hj
    simp only [badR, Bool.or_eq_false_iff, decide_eq_false_iff_not]
    rw [w64 (x := 65536 - tW w j) (by omega) (by omega)]
    omega
theorem lzn (l : List IV3) (w : List Int) : (lzl l w).o = some (azq l w) := by
  show (lzm l w).run NN = _
  simp only [lzm, T.run, T.ix, Cz1, Option.bind_some, bz0, aza, azq]
  cases hp : bzd l
  · rw [if_neg (Gz4 hp)]; rfl
  · have hl8 := czj hp
    simp only [Bool.not_true, cond_false]
    by_cases hl : w.length = l.length
    · rw [bzg (by omega)]
      refine (jza (fun j => (tW w j, (j : Int))) (fun j => sw (badR w j) zc) (tW w w.length) w.length rfl (show w.length < 4294967296 by omega) (fun j hj => ?_) ?_).trans ?_
      · dsimp only
        rw [az7 (by omega), azb ⟨by omega, by omega⟩, azb ⟨by omega, by omega⟩, azb ⟨by omega, by omega⟩, bz0, aza, Int.toNat_natCast, dz9, show (decide (w.getD j default < 0) || decide (w.getD j default > IntKind.i64.wrap (65536 - tW w j))) = badR w j from rfl, wn (by omega)]
        cases badR w j <;> rfl
      · dsimp only
        rw [az5 (by omega)]
      · rw [dzu]
        have hiff := Nzx (w := w) (n := w.length) (by omega)
        cases hb : bzs (badR w) w.length
        · rw [if_neg (fun h => by obtain ⟨_, _, h3, _, h5⟩ := h; rw [hiff.2 ⟨h3, h5⟩] at hb; cases hb)]; rfl
        · obtain ⟨hb1, hb2⟩ := hiff.1 hb
          simp only [sw, Bool.not_true, cond_false]
          by_cases h1 : tW w w.length < 1
          · rw [if_neg (fun h => by obtain ⟨_, _, _, h4, _⟩ := h; omega), az7 h1]; rfl
          · rw [if_pos (show okC l w from ⟨hp, hl, hb1, by omega, by omega⟩), az5 h1]
            refine (ez8 (fun j => ((cV l w j).1.Lo, (cV l w j).1.Hi, (cV l w j).2.1.Lo, (cV l w j).2.1.Hi, (cV l w j).2.2.Lo, (cV l w j).2.2.Hi, (j : Int))) ((cV l w w.length).1.Lo, (cV l w w.length).1.Hi, (cV l w w.length).2.1.Lo, (cV l w w.length).2.1.Hi, (cV l w w.length).2.2.Lo, (cV l w w.length).2.2.Hi) w.length rfl (show w.length < 4294967296 by omega) (fun j hj => ?_) ?_).trans rfl
            · dsimp only
              rw [az7 (by omega)]
              simp only [azb (show 0 ≤ (j : Int) ∧ (j : Int) < (w.length : Int) by omega), azb (show 0 ≤ (j : Int) ∧ (j : Int) < (l.length : Int) by omega), Int.toNat_natCast]
              rw [wn (by omega)]; rfl
            · dsimp only
              rw [az5 (by omega)]
    · rw [bzl (by omega), if_neg (fun h => by obtain ⟨_, h2, _⟩ := h; exact hl h2)]; rfl
theorem Szl {a b : Int} (ha : 0 ≤ a ∧ a ≤ 65536) (hb : -268435456 ≤ b ∧ b ≤ 268435456) : -17592186044416 ≤ a * b ∧ a * b ≤ 17592186044416 := by
  have h : (a * b).natAbs ≤ 65536 * 268435456 := by rw [Int.natAbs_mul]; exact Nat.mul_le_mul (by omega) (by omega)
  omega
theorem Qzb {w : List Int} {g : Nat → Int} {n : Nat} (h : ∀ j, j < n → 0 ≤ w.getD j default ∧ w.getD j default ≤ 65536) (hg : ∀ j, j < n → -268435456 ≤ g j ∧ g j ≤ 268435456) (hn : n ≤ 8) : ∀ j, j ≤ n → -17592186044416 * (j : Int) ≤ cW w g j ∧ cW w g j ≤ 17592186044416 * (j : Int)
  | 0, _ => by simp [cW]
  | j + 1, hj => by
    obtain ⟨h1, h2⟩ := Qzb h hg hn j (by omega)
    have hm := Szl (h j (by omega)) (hg j (by omega))
    simp only [cW]
    rw [w64 (x := w.getD j default * g j) (by omega) (by omega), w64 (by omega) (by omega)]; omega
def sm (x : Int) : Prop := -140737488355328 ≤ x ∧ x ≤ 140737488355328
def smV (v : IV3) : Prop := (sm v.1.Lo ∧ sm v.1.Hi) ∧ (sm v.2.1.Lo ∧ sm v.2.1.Hi) ∧ sm v.2.2.Lo ∧ sm v.2.2.Hi
theorem ozy {l : List IV3} {w : List Int} (h : (azq l w).2.2 = true) : 1 ≤ (azq l w).2.1 ∧ (azq l w).2.1 ≤ 65536 ∧ smV (azq l w).1 := by
  unfold azq at h ⊢
  by_cases hk : okC l w
  · rw [if_pos hk]
    obtain ⟨h1, h2, h3, h4, h5⟩ := hk
    have h8 := czj h1
    have hb := badW_iff.1 h3
    have hr : ∀ j, j < w.length → czm (l.getD j default) = true := fun j hj => dz8 h1 (by omega)
    have key : ∀ g : IV3 → Int, (∀ v : IV3, czm v = true → -268435456 ≤ g v ∧ g v ≤ 268435456) → sm (cW w (fun i => g (l.getD i default)) w.length) := fun g hg => by
      have := Qzb hb (g := fun i => g (l.getD i default)) (fun j hj => hg _ (hr j hj)) (by omega) w.length (Nat.le_refl _)
      unfold sm; omega
    have rr : ∀ v : IV3, czm v = true → (-268435456 ≤ v.1.Lo ∧ v.1.Lo ≤ v.1.Hi ∧ v.1.Hi ≤ 268435456) ∧ (-268435456 ≤ v.2.1.Lo ∧ v.2.1.Lo ≤ v.2.1.Hi ∧ v.2.1.Hi ≤ 268435456) ∧ (-268435456 ≤ v.2.2.Lo ∧ v.2.2.Lo ≤ v.2.2.Hi ∧ v.2.2.Hi ≤ 268435456) := fun v hv => by
      simp only [czm, Bool.and_eq_true, Ezl] at hv; exact hv
    exact ⟨h4, h5, ⟨key (fun v => v.1.Lo) (fun v hv => by have := rr v hv; omega), key (fun v => v.1.Hi) (fun v hv => by have := rr v hv; omega)⟩, ⟨key (fun v => v.2.1.Lo) (fun v hv => by have := rr v hv; omega), key (fun v => v.2.1.Hi) (fun v hv => by have := rr v hv; omega)⟩, key (fun v => v.2.2.Lo) (fun v hv => by have := rr v hv; omega), key (fun v => v.2.2.Hi) (fun v hv => by have := rr v hv; omega)⟩
  · rw [if_neg hk] at h; cases h
def mxV (p q : Int) : Int := max (max (IntKind.i64.wrap p) (IntKind.i64.wrap (0 - IntKind.i64.wrap p))) (max (IntKind.i64.wrap q) (IntKind.i64.wrap (0 - IntKind.i64.wrap q)))
theorem xz3 {p q : Int} (hp : -281474976710656 ≤ p ∧ p ≤ 281474976710656) (hq : -281474976710656 ≤ q ∧ q ≤ 281474976710656) : (ezt [IntKind.i64.wrap p, IntKind.i64.wrap q]).o = some (mxV p q) := by
  show (hz3 [IntKind.i64.wrap p, IntKind.i64.wrap q]).run NN = _
  simp only [hz3, T.run]
  refine (ez8 (fun j => ((match j with | 0 => 0 | 1 => max (max 0 (IntKind.i64.wrap p)) (IntKind.i64.wrap (0 - IntKind.i64.wrap p)) | _ => max (max (max (max 0 (IntKind.i64.wrap p)) (IntKind.i64.wrap (0 - IntKind.i64.wrap p))) (IntKind.i64.wrap q)) (IntKind.i64.wrap (0 - IntKind.i64.wrap q)) : Int), (j : Int))) (max (max (max (max 0 (IntKind.i64.wrap p)) (IntKind.i64.wrap (0 - IntKind.i64.wrap p))) (IntKind.i64.wrap q)) (IntKind.i64.wrap (0 - IntKind.i64.wrap q))) 2 rfl (by decide) (fun j hj => ?_) ?_).trans ?_
  · rw [az7 (by simp; omega), azb ⟨by simp, by simp; omega⟩, wn (by omega)]
    match j, hj with
    | 0, _ => rfl
    | 1, _ => rfl
  · rw [az5 (by simp)]; rfl
  · simp only [Option.some.injEq, mxV]
    rw [w64 (x := p) (by omega) (by omega), w64 (x := q) (by omega) (by omega), w64 (x := 0 - p) (by omega) (by omega), w64 (x := 0 - q) (by omega) (by omega)]
    omega
theorem Mzq {p q t : Int} (hp : -281474976710656 ≤ p ∧ p ≤ 281474976710656) (hq : -281474976710656 ≤ q ∧ q ≤ 281474976710656) (ht : 1 ≤ t ∧ t ≤ 65536) :
    IntKind.i64.wrap ((IntKind.i64.wrap (IntKind.i64.wrap (mxV p q + t) - 1)).tdiv t) = cdiv (mxV p q) t := by
  have hm : 0 ≤ mxV p q ∧ mxV p q ≤ 281474976710656 := by
    unfold mxV
    rw [w64 (x := p) (by omega) (by omega), w64 (x := q) (by omega) (by omega), w64 (x := 0 - p) (by omega) (by omega), w64 (x := 0 - q) (by omega) (by omega)]
    omega
  generalize mxV p q = H at hm
  rw [w64 (x := H + t) (by omega) (by omega), w64 (x := H + t - 1) (by omega) (by omega), fza (by omega)]
  have e : (H + t - 1) / t = cdiv H t := by
    symm
    rw [rz5 (by omega)]
    have h1 := zzu (a := H + t - 1) (b := t) (by omega)
    have h2 := Fzd (a := H + t - 1) (b := t) (by omega)
    omega
  rw [e]
  have := rz4 (a := H) (b := t) (by omega)
  by_cases h0 : 0 < H
  · exact w64 (by omega) (by omega)
  · exact w64 (by omega) (by omega)
theorem Iz6 (a : Int) : (hz4 a).o = some (radV a) := by
  show (hz5 a).run NN = _
  have h := jz3 a
  rw [show (jz2 a).o = (fzu a).run NN from rfl] at h
  rw [← h]
  simp only [hz5, fzu, T.run]
theorem Lzv (u v : List Int) (a : List IV3) (ra : Int) (b : List IV3) (rb : Int) : (qzo u v a ra b rb).o = (fzt u v a ra b rb).o := by
  show (kz6 u v a ra b rb).run NN = (dzt u v a ra b rb).run NN
  simp only [kz6, dzt, T.run, T.ix, Bz8, lzn, Iz6, jz3, Option.bind_some, bz0, aza, sze]
  cases h1 : (azq a u).2.2
  · rfl
  · cases h2 : (azq b v).2.2
    · rfl
    · obtain ⟨t1, t2, q1, q2, q3⟩ := ozy h1
      obtain ⟨_, _, r1, r2, r3⟩ := ozy h2
      unfold sm at q1 q2 q3 r1 r2 r3
      simp only [Bool.not_true, cond_false]
      cases (bif (azq a u).2.1 != (azq b v).2.1 then true else bif !radV ra then true else !radV rb)
      · simp only [cond_false, azb (show (azq a u).2.1 ≠ 0 by omega)]
        have hc : ∀ p q : Int, (gz2 (max (max (IntKind.i64.wrap p) (IntKind.i64.wrap (0 - IntKind.i64.wrap p))) (max (IntKind.i64.wrap q) (IntKind.i64.wrap (0 - IntKind.i64.wrap q)))) (azq a u).2.1).o = some (cdiv (mxV p q) (azq a u).2.1) :=
          fun p q => vz0 (((InR.wr _).max (InR.wr _)).max ((InR.wr _).max (InR.wr _))) (by omega)
        simp only [hc, Option.bind_some]
        rw [xz3 (p := (azq a u).1.1.Lo - (azq b v).1.1.Hi) (q := (azq a u).1.1.Hi - (azq b v).1.1.Lo) (by omega) (by omega), Option.bind_some, Mzq (by omega) (by omega) ⟨t1, t2⟩,
          xz3 (p := (azq a u).1.2.1.Lo - (azq b v).1.2.1.Hi) (q := (azq a u).1.2.1.Hi - (azq b v).1.2.1.Lo) (by omega) (by omega), Option.bind_some, Mzq (by omega) (by omega) ⟨t1, t2⟩,
          xz3 (p := (azq a u).1.2.2.Lo - (azq b v).1.2.2.Hi) (q := (azq a u).1.2.2.Hi - (azq b v).1.2.2.Lo) (by omega) (by omega), Option.bind_some, Mzq (by omega) (by omega) ⟨t1, t2⟩]
      · rfl
theorem Iz7 (u v : List Int) (a : List IV3) (ra : Int) (b : List IV3) (rb : Int) : (ezs u v a ra b rb).o = (dzh u v a ra b rb).o := by
  show (hz2 u v a ra b rb).run NN = (czx u v a ra b rb).run NN
  simp only [hz2, czx, T.run, Lzv]
theorem yzv (u v : List Int) (a : List IV3) (ra : Int) (b : List IV3) (rb : Int) : ∃ y : Bool, (dzh u v a ra b rb).o = some y := by
  have ex : ∃ y : Int × Bool, (fzt u v a ra b rb).o = some y := by
    have e0 : (fzt u v a ra b rb).o = (dzt u v a ra b rb).run NN := rfl
    rw [e0]
    have hx : (azq a u).2.2 = true → 1 ≤ (azq a u).2.1 := fun h => (ozy h).1
    generalize hX : azq a u = x at hx
    simp only [dzt, T.run, T.ix, lzn, hX, jz3, Option.bind_some, bz0, aza]
    generalize azq b v = y
    cases hx2 : x.2.2
    · exact ⟨_, rfl⟩
    · have hx1 := hx hx2
      cases (bif !true then true else bif !y.2.2 then true else bif x.2.1 != y.2.1 then true else bif !radV ra then true else !radV rb)
      · have hc : ∀ p q : Int, (gz2 (max (max (IntKind.i64.wrap p) (IntKind.i64.wrap (0 - IntKind.i64.wrap p))) (max (IntKind.i64.wrap q) (IntKind.i64.wrap (0 - IntKind.i64.wrap q)))) x.2.1).o = some (cdiv (max (max (IntKind.i64.wrap p) (IntKind.i64.wrap (0 - IntKind.i64.wrap p))) (max (IntKind.i64.wrap q) (IntKind.i64.wrap (0 - IntKind.i64.wrap q)))) x.2.1) :=
          fun p q => vz0 (((InR.wr _).max (InR.wr _)).max ((InR.wr _).max (InR.wr _))) (by omega)
        simp only [cond_false, sze, Option.bind_some, hc]
        generalize cdiv _ _ = c1
        cases decide (c1 > IntKind.i64.wrap (ra + rb))
        · simp only [cond_false]
          generalize cdiv _ _ = c2
          cases decide (c2 > IntKind.i64.wrap (ra + rb))
          · simp only [cond_false]
            generalize cdiv _ _ = c3
            cases decide (c3 > IntKind.i64.wrap (ra + rb)) <;> exact ⟨_, rfl⟩
          · exact ⟨_, rfl⟩
        · exact ⟨_, rfl⟩
      · exact ⟨_, rfl⟩
  obtain ⟨y, ey⟩ := ex
  have e0 : (dzh u v a ra b rb).o = (czx u v a ra b rb).run NN := rfl
  rw [e0]
  simp only [czx, T.run]
  rw [ey, Option.bind_some]
  cases y.2 <;> exact ⟨_, rfl⟩
noncomputable def ovV (u v : List Int) (a : List IV3) (ra : Int) (b : List IV3) (rb : Int) : Bool := (dzh u v a ra b rb).o.getD false
theorem yzu (u v : List Int) (a : List IV3) (ra : Int) (b : List IV3) (rb : Int) : (dzh u v a ra b rb).o = some (ovV u v a ra b rb) := by
  obtain ⟨y, hy⟩ := yzv u v a ra b rb
  rw [ovV, hy]; rfl
theorem mzd (u v : List Int) (a : List IV3) (ra : Int) (b : List IV3) (rb : Int) : (ezs u v a ra b rb).o = some (ovV u v a ra b rb) := by
  rw [Iz7]; exact yzu u v a ra b rb
noncomputable def uzk (s : az8) (b : List az0) (w : azy) : Bool :=
  if (bzq s = 0 ∧ boxV s.Robot b = true) ∧ 0 ≤ w.Pair ∧ w.Pair < ((azt s).length : Int) then
    ovV w.Left w.Right (bz5 s b (pA s w.Pair.toNat)) (hzo s (pA s w.Pair.toNat)) (bz5 s b (pB s w.Pair.toNat)) (hzo s (pB s w.Pair.toNat)) else false
theorem vzc {s : az8} {b : List az0} (h : bzq s = 0 ∧ boxV s.Robot b = true) {j : Nat} (hj : j < (azt s).length) :
    (gzh ⟨s.Shapes, azt s, ize s b⟩ (j : Int)).o = some ⟨bz5 s b (pA s j), bz5 s b (pB s j), hzo s (pA s j), hzo s (pB s j)⟩ := by
  have hp := Eze h.1 hj
  show (gzi ⟨s.Shapes, azt s, ize s b⟩ (j : Int)).run NN = _
  simp only [gzi, T.run, Int.toNat_natCast, Azr h.1 h.2, czs]
  rw [azb ⟨by omega, by omega⟩, azb hp.1, azb hp.1, azb hp.2, azb hp.2, fzl (by omega), fzl (by omega)]; rfl
theorem mzx (s : az8) (b : List az0) (w : azy) (hbl : b.length < 4294967296) : (fzn s b w).o = some (uzk s b w) := by
  show (dzr s b w).run NN = _
  have e2 : (mz3 s b ⟨w⟩).o = some (uzk s b w) := by
    show (gzj s b ⟨w⟩).run NN = _
    simp only [gzj, T.run, jzq s b hbl, Option.bind_some]
    by_cases h : bzq s = 0 ∧ boxV s.Robot b = true
    · rw [if_pos h]
      simp only [cond_true]
      have e3 : (oz7 ⟨w⟩ ⟨s.Shapes, azt s, ize s b⟩).o = some (uzk s b w) := by
        show (hzw ⟨w⟩ ⟨s.Shapes, azt s, ize s b⟩).run NN = _
        simp only [hzw, T.run, bz0, aza, dz9, uzk]
        by_cases hp : 0 ≤ w.Pair ∧ w.Pair < ((azt s).length : Int)
        · rw [if_pos ⟨h, hp⟩, decide_eq_false (p := w.Pair < 0) (by omega), decide_eq_false (p := w.Pair ≥ ((azt s).length : Int)) (by omega)]
          simp only [Bool.or_self, cond_false]
          obtain ⟨j, hj⟩ : ∃ j : Nat, w.Pair = (j : Int) := ⟨w.Pair.toNat, by omega⟩
          rw [hj, vzc h (by omega), Option.bind_some, mzd, Option.bind_some, Int.toNat_natCast]
        · rw [if_neg (fun h' => hp h'.2)]
          by_cases h1 : w.Pair < 0
          · rw [decide_eq_true h1]; rfl
          · rw [decide_eq_true (p := w.Pair ≥ ((azt s).length : Int)) (by omega), Bool.or_true]; rfl
      simp only [e3, Option.bind_some]
    · rw [if_neg h, uzk, if_neg (fun h' => h h'.1)]; rfl
  simp only [dzr, T.run, e2, Option.bind_some]
section
variable (s : az8) (p q : List Int) (hp : p.length < 4294967296) (hq : q.length < 4294967296)
include hp hq
end
open Go.Proofs
theorem tzv (a : az0) : (fzp a).o = some (bif vV a then IntKind.i64.wrap (a.Lo + a.Hi) / 2 else 0) := by
  show (nzb a).run NN = _
  simp only [nzb, T.run, bzo, Option.bind_some]
  cases vV a with
  | false => rfl
  | true =>
    have := fz6 (IntKind.i64.wrap (a.Lo + a.Hi)) 1 (by omega)
    rw [show ((1 : Nat) : Int) = 1 from rfl] at this
    simp [this]
theorem szu (l : List IV3) : ∃ r, (bzw l).o = some r ∧ (bzd l = true → r.length = l.length) := by
  show ∃ r, (fz2 l).run NN = some r ∧ _
  simp only [fz2, T.run, T.ix, dz5, Option.bind_some, tzv]
  cases hp : bzd l with
  | false => exact ⟨nl, rfl, fun h => by cases h⟩
  | true =>
    have hl := czj hp
    rw [rz3 (by rfl), azb (by omega)]
    refine dz2 (fun m (x : List V3 × Int) => x.1.length = l.length ∧ ∃ j : Nat, x.2 = (j : Int) ∧ j + m = l.length) (fun y : List V3 => y.length = l.length) l.length ⟨by simp, 0, rfl, by omega⟩ (by omega) ?_ fun y hy => ⟨y, rfl, fun _ => hy⟩
    rintro m ⟨x, i⟩ ⟨hx, j, rfl, hm⟩
    simp only at hx ⊢
    cases m with
    | zero => exact .inr (.inl ⟨x, by rw [az5 (by omega)], hx⟩)
    | succ m =>
      refine .inl ⟨?w, m, ?e, Nat.lt_succ_self m, ?i⟩
      case e => rw [az7 (by omega), azb (by omega), azb (by omega), azb (by simp; omega), azb (by simp; omega), azb (by simp; omega), azb (by simp; omega), azb (by simp; omega)]
      case i => exact ⟨by simp [hx], j + 1, by simp only [wn (show j < 4294967296 by omega)], by omega⟩
theorem vzy (l : List V3) (hl : l.length < 4294967296) : ∃ r, (pzo l).o = some r := by
  show ∃ r, (pzp l).run NN = some r
  simp only [pzp, T.run, T.ix]
  suffices h : ∃ r, _ = some r ∧ True from h.imp fun _ h => h.1
  refine dz2 (fun m (x : Int × Int × Int × Int) => ∃ j : Nat, x.2.2.2 = (j : Int) ∧ j + m = l.length) (fun _ => True) l.length ⟨0, rfl, by omega⟩ hl ?_ fun y _ => ⟨_, rfl, trivial⟩
  rintro m ⟨a, b, c, i⟩ ⟨j, hj, hm⟩
  simp only at hj ⊢
  subst hj
  cases m with
  | zero => exact .inr (.inl ⟨_, by rw [az5 (by omega)], trivial⟩)
  | succ m =>
    refine .inl ⟨?w, m, ?e, Nat.lt_succ_self m, ?i⟩
    case e => rw [az7 (by omega), azb (by omega)]
    case i => exact ⟨j + 1, by simp only [wn (show j < 4294967296 by omega)], by omega⟩
theorem Eza {x : Int} {m : Nat} (h : x.natAbs < 2 ^ (m + 1)) : (x.tdiv 2).natAbs < 2 ^ m := by
  have e : (x.tdiv 2).natAbs = x.natAbs / 2 := by
    rcases Int.le_total 0 x with hx | hx
    · rw [Int.tdiv_eq_ediv_of_nonneg hx]; omega
    · have : x = -(-x) := by omega
      rw [this, Int.neg_tdiv, Int.tdiv_eq_ediv_of_nonneg (by omega)]; omega
  rw [e]
  rw [Nat.pow_succ] at h
  omega
theorem qzs {v : V3} (h1 : InR v.1) (h2 : InR v.2.1) (h3 : InR v.2.2) : ∃ r, (kza v).o = some r ∧ (r.2 = true → czf r.1 = true) := by
  show ∃ r, (kzb v).run NN = some r ∧ _
  simp only [kzb, T.run, T.ix, ozo, Option.bind_some]
  have lt64 : ∀ {x : Int}, InR x → x.natAbs < 2 ^ 64 := fun {x} h => by have := h.1; have := h.2; omega
  refine dz2 (fun m (x : Int × Int × Int) => (InR x.1 ∧ InR x.2.1 ∧ InR x.2.2) ∧ x.1.natAbs < 2 ^ m ∧ x.2.1.natAbs < 2 ^ m ∧ x.2.2.natAbs < 2 ^ m) (fun y : Int × Int × Int => kz2 y 16384 = true) 64 ⟨⟨h1, h2, h3⟩, lt64 h1, lt64 h2, lt64 h3⟩ (by omega) ?_ fun y hy => ⟨_, rfl, fun hr => ?_⟩
  · rintro m ⟨a, b, c⟩ ⟨⟨r1, r2, r3⟩, b1, b2, b3⟩
    simp only at r1 r2 r3 b1 b2 b3 ⊢
    cases hn : kz2 (a, b, c) 16384 with
    | true => exact .inr (.inl ⟨_, rfl, hn⟩)
    | false =>
      cases m with
      | zero =>
        exfalso
        have : kz2 (a, b, c) 16384 = true := nearV_iff.2 (by simp only; omega)
        rw [hn] at this; cases this
      | succ m =>
        refine .inl ⟨_, m, rfl, Nat.lt_succ_self m, ?_⟩
        have q1 := r1.tdiv (b := 2) (by omega)
        have q2 := r2.tdiv (b := 2) (by omega)
        have q3 := r3.tdiv (b := 2) (by omega)
        simp only [q1.w, q2.w, q3.w]
        exact ⟨⟨q1, q2, q3⟩, Eza b1, Eza b2, Eza b3⟩
  · simp only at hr ⊢
    simp only [czf, hr, Bool.true_and]
    exact hy
theorem Bzx (a b : List IV3) : ∃ r, (izz a b).o = some r := by
  show ∃ r, (nzk a b).run NN = some r
  simp only [nzk, T.run, T.ix, dz5, Option.bind_some]
  cases ha : bzd a with
  | false => exact ⟨_, rfl⟩
  | true =>
    cases hb : bzd b with
    | false => exact ⟨_, rfl⟩
    | true =>
      obtain ⟨ca, e1, q1⟩ := szu a
      obtain ⟨cb, e2, q2⟩ := szu b
      have := czj ha
      have := czj hb
      obtain ⟨sa, e3⟩ := vzy ca (by rw [q1 ha]; omega)
      obtain ⟨sb, e4⟩ := vzy cb (by rw [q2 hb]; omega)
      obtain ⟨r, e5, _⟩ := qzs (v := (IntKind.i64.wrap (IntKind.i64.wrap (sa.1 * (b.length : Int)) - IntKind.i64.wrap (sb.1 * (a.length : Int))), IntKind.i64.wrap (IntKind.i64.wrap (sa.2.1 * (b.length : Int)) - IntKind.i64.wrap (sb.2.1 * (a.length : Int))), IntKind.i64.wrap (IntKind.i64.wrap (sa.2.2 * (b.length : Int)) - IntKind.i64.wrap (sb.2.2 * (a.length : Int))))) (InR.wr _) (InR.wr _) (InR.wr _)
      refine ⟨(r.1, r.2), ?_⟩
      simp only [e1, e2, e3, e4, e5, Option.bind_some, Bool.not_true, bz0, aza, cond_false]
theorem qzm (l : List V3) : ∃ r, (kz4 l).o = some r ∧ (r = true → 1 ≤ l.length ∧ l.length ≤ 8) := by
  show ∃ r, (kz5 l).run NN = some r ∧ _
  simp only [kz5, T.run, bz0, aza, dz9]
  by_cases h : 1 ≤ l.length ∧ l.length ≤ 8
  · rw [decide_eq_false (p := (l.length : Int) < 1) (by omega), decide_eq_false (p := (l.length : Int) > 8) (by omega)]
    rw [rz3 (by rfl)]
    refine dz2 (fun m (x : Int) => ∃ j : Nat, x = (j : Int) ∧ j + m = l.length) (fun _ => True) l.length ⟨0, rfl, by omega⟩ (by omega) ?_ fun y _ => ⟨_, rfl, fun _ => h⟩
    rintro m _ ⟨j, rfl, hm⟩
    cases m with
    | zero => exact .inr (.inl ⟨_, by rw [az5 (by omega)], trivial⟩)
    | succ m =>
      rw [az7 (by omega), azb (by omega)]
      generalize hbd : andK _ _ = bd
      have inner : ∃ r, bd = some r ∧ (r = .next ((j + 1 : Nat) : Int) ∨ r = .fin false) := by
        rw [← hbd]
        refine dz2 (fun m (x : Int) => ∃ i : Nat, x = (i : Int) ∧ i + m = 3) (fun _ => True) 3 ⟨0, rfl, rfl⟩ (by omega) ?_ fun y _ => ⟨_, rfl, .inl (by rw [wn (by omega)])⟩
        rintro m _ ⟨i, rfl, hm⟩
        cases m with
        | zero => exact .inr (.inl ⟨_, by rw [az5 (by omega)], trivial⟩)
        | succ m =>
          rw [az7 (by omega), azb (by omega)]
          generalize List.getD [_, _, _] _ _ = z
          generalize (decide (z < -268435456) || decide (z > 268435456)) = b
          cases b with
          | true => exact .inr (.inr ⟨_, rfl, .inr rfl⟩)
          | false => exact .inl ⟨_, m, rfl, Nat.lt_succ_self m, i + 1, wn (by omega), by omega⟩
      obtain ⟨r, e, hr⟩ := inner
      rcases hr with rfl | rfl
      · exact .inl ⟨_, m, e, Nat.lt_succ_self m, j + 1, rfl, by omega⟩
      · exact .inr (.inr ⟨_, e, fun hh => by cases hh⟩)
  · refine ⟨false, ?_, fun hh => by cases hh⟩
    rw [zzk (by simp only [Bool.or_eq_true, decide_eq_true_eq]; omega)]
open Go.Proofs
theorem ozh (l : List V3) (h1 : 1 ≤ l.length) (h2 : l.length < 4294967296) : ∃ r, (iza l).o = some r ∧ r.1 = l ∧ r.2.length = l.length := by
  refine ⟨(l, (List.replicate l.length (0 : Int)).set 0 65536), ?_, rfl, by simp⟩
  show (izb l).run NN = _
  simp only [izb, T.run]
  rw [azb (by omega), azb (by simp; omega), azb (by simp; omega)]
  simp
theorem Cze (l : List V3) (w : List Int) (hw : w.length = l.length) (hl : l.length < 4294967296) : ∃ r, (xzb l w).o = some r := by
  show ∃ r, (xzc l w).run NN = some r
  simp only [xzc, T.run, T.ix]
  suffices h : ∃ r, _ = some r ∧ True from h.imp fun _ h => h.1
  refine dz2 (fun m (x : Int × Int × Int × Int) => ∃ j : Nat, x.2.2.2 = (j : Int) ∧ j + m = l.length) (fun _ => True) l.length ⟨0, rfl, by omega⟩ hl ?_ fun y _ => ⟨_, rfl, trivial⟩
  rintro m ⟨a, b, c, i⟩ ⟨j, hj, hm⟩
  simp only at hj ⊢
  subst hj
  cases m with
  | zero => exact .inr (.inl ⟨_, by rw [az5 (by omega)], trivial⟩)
  | succ m =>
    refine .inl ⟨?w, m, ?e, Nat.lt_succ_self m, ?i⟩
    case e => rw [az7 (by omega), azb (by omega), azb (by omega), azb (by omega), azb (by omega), azb (by omega), azb (by omega), azb (by omega)]
    case i => exact ⟨j + 1, by simp only [wn (show j < 4294967296 by omega)], by omega⟩
def qzj (a b : V3) : V3 := (IntKind.i64.wrap (a.1 - b.1), IntKind.i64.wrap (a.2.1 - b.2.1), IntKind.i64.wrap (a.2.2 - b.2.2))
theorem sz5 (a b : V3) : (gzx a b).o = some (qzj a b) := rfl
def Ozo (a b : V3) : Int := IntKind.i64.wrap (IntKind.i64.wrap (IntKind.i64.wrap (a.1 * b.1) + IntKind.i64.wrap (a.2.1 * b.2.1)) + IntKind.i64.wrap (a.2.2 * b.2.2))
theorem pzn (a b : V3) : (eze a b).o = some (Ozo a b) := rfl
theorem xzi {a : V3} (h1 : InR a.1) (h2 : InR a.2.1) (h3 : InR a.2.2) (m : Int) : ∃ r, (ozg a m).o = some r := by
  show ∃ r, (iz9 a m).run NN = some r
  simp only [iz9, T.run]
  suffices h : ∃ r, _ = some r ∧ True from h.imp fun _ h => h.1
  refine dz2 (fun m (x : Int × Int) => ∃ j : Nat, x.2 = (j : Int) ∧ j + m = 3) (fun _ => True) 3 ⟨0, rfl, by omega⟩ (by omega) ?_ fun y _ => ⟨_, rfl, trivial⟩
  rintro m ⟨s, i⟩ ⟨j, hj, hm⟩
  simp only at hj ⊢
  subst hj
  cases m with
  | zero => exact .inr (.inl ⟨_, by rw [az5 (by omega)], trivial⟩)
  | succ m =>
    rw [az7 (by omega), azb (by omega)]
    have hc : InR (([a.1, a.2.1, a.2.2] : List Int).getD ((j : Int)).toNat 0) := by
      rw [Int.toNat_natCast]
      match j, (show j < 3 by omega) with
      | 0, _ => exact h1
      | 1, _ => exact h2
      | 2, _ => exact h3
    have hs := gzm 16 (by omega) (InR.max hc (InR.wr (0 - (([a.1, a.2.1, a.2.2] : List Int).getD ((j : Int)).toNat 0))))
    rw [show ((16 : Nat) : Int) = 16 from rfl] at hs
    rw [hs]
    exact .inl ⟨_, m, rfl, Nat.lt_succ_self m, j + 1, by simp only [wn (show j < 4294967296 by omega)], by omega⟩
theorem Fzw (l : List V3) (w : List Int) (n : V3) (h1 : 1 ≤ l.length) (h2 : l.length < 4294967296) : ∃ r, (yz5 l w n).o = some r ∧ 0 ≤ r.2 ∧ r.2 < l.length := by
  show ∃ r, (rzu l w n).run NN = some r ∧ _
  simp only [rzu, T.run, pzn, Option.bind_some]
  rw [azb (by omega)]
  refine dz2 (fun m (x : Int × Int × Int) => (∃ j : Nat, x.2.2 = (j : Int) ∧ j + m = l.length) ∧ 0 ≤ x.2.1 ∧ x.2.1 < l.length) (fun y : Int × Int => 0 ≤ y.2 ∧ y.2 < l.length) l.length ⟨⟨0, rfl, by omega⟩, by simp only; omega⟩ h2 ?_ fun y hy => ⟨_, rfl, hy⟩
  rintro m ⟨a, b, i⟩ ⟨⟨j, hj, hm⟩, hb⟩
  simp only at hj hb ⊢
  subst hj
  cases m with
  | zero => exact .inr (.inl ⟨_, by rw [az5 (by omega)], hb⟩)
  | succ m =>
    rw [az7 (by omega), azb (by omega)]
    generalize decide (Ozo n (l.getD ((j : Int)).toNat default) < a) = q
    cases q with
    | true => exact .inl ⟨_, m, rfl, Nat.lt_succ_self m, ⟨j + 1, by simp only [wn (show j < 4294967296 by omega)], by omega⟩, by simp only; omega⟩
    | false => exact .inl ⟨_, m, rfl, Nat.lt_succ_self m, ⟨j + 1, by simp only [wn (show j < 4294967296 by omega)], by omega⟩, hb⟩
theorem yzw (l : List V3) (w : List Int) (n : V3) (h1 : 1 ≤ l.length) (h2 : l.length < 4294967296) : ∃ r, (qzq l w n).o = some r ∧ 0 ≤ r.2 ∧ r.2 < l.length := by
  show ∃ r, (kz7 l w n).run NN = some r ∧ _
  simp only [kz7, T.run, pzn, Option.bind_some]
  rw [azb (by omega)]
  refine dz2 (fun m (x : Int × Int × Int) => (∃ j : Nat, x.2.2 = (j : Int) ∧ j + m = l.length) ∧ 0 ≤ x.2.1 ∧ x.2.1 < l.length) (fun y : Int × Int => 0 ≤ y.2 ∧ y.2 < l.length) l.length ⟨⟨0, rfl, by omega⟩, by simp only; omega⟩ h2 ?_ fun y hy => ⟨_, rfl, hy⟩
  rintro m ⟨a, b, i⟩ ⟨⟨j, hj, hm⟩, hb⟩
  simp only at hj hb ⊢
  subst hj
  cases m with
  | zero => exact .inr (.inl ⟨_, by rw [az5 (by omega)], hb⟩)
  | succ m =>
    rw [az7 (by omega), azb (by omega)]
    generalize decide (Ozo n (l.getD ((j : Int)).toNat default) > a) = q
    cases q with
    | true => exact .inl ⟨_, m, rfl, Nat.lt_succ_self m, ⟨j + 1, by simp only [wn (show j < 4294967296 by omega)], by omega⟩, by simp only; omega⟩
    | false => exact .inl ⟨_, m, rfl, Nat.lt_succ_self m, ⟨j + 1, by simp only [wn (show j < 4294967296 by omega)], by omega⟩, hb⟩
theorem Bzt (a b : V3) : ∃ r, (uz2 a b).o = some r := by
  show ∃ r, (nzh a b).run NN = some r
  simp only [nzh, T.run, sz5, pzn, Option.bind_some]
  rw [azb (by omega)]
  generalize decide (Ozo a (qzj a b) ≤ 0) = q
  cases q <;> exact ⟨_, rfl⟩
theorem vzp (l : List V3) (w : List Int) (i t : Int) (h0 : 0 ≤ i) (hi : i < w.length) (hw : w.length < 4294967296) : ∃ r, (pzf l w i t).o = some r ∧ r.length = w.length := by
  show ∃ r, (pzg l w i t).run NN = some r ∧ _
  simp only [pzg, T.run]
  refine dz2 (fun m (x : List Int × Int × Int) => x.1.length = w.length ∧ ∃ j : Nat, x.2.2 = (j : Int) ∧ j + m = w.length) (fun y : List Int × Int => y.1.length = w.length) w.length ⟨rfl, 0, rfl, by omega⟩ hw ?_ fun y hy => ?_
  · rintro m ⟨x, s, k⟩ ⟨hx, j, hj, hm⟩
    simp only at hj hx ⊢
    subst hj
    cases m with
    | zero => exact .inr (.inl ⟨_, by rw [az5 (by omega)], hx⟩)
    | succ m =>
      refine .inl ⟨?w, m, ?e, Nat.lt_succ_self m, ?i⟩
      case e => rw [az7 (by omega), azb (by omega), azb (by omega), azb (by omega), azb (by omega), azb (by omega), azb (by omega)]
      case i => exact ⟨by simp [hx], j + 1, by simp only [wn (show j < 4294967296 by omega)], by omega⟩
  · rw [azb (by omega), azb (by omega), azb (by omega), azb (by omega)]
    exact ⟨_, rfl, by simp [hy]⟩
theorem Izx (a : List V3) (u : List Int) (b : List V3) (v : List Int) (m : Int) (n : Nat) (hn : n ≤ 64) (hu : u.length = a.length) (hv : v.length = b.length) (ha : 1 ≤ a.length ∧ a.length < 4294967296) (hb : 1 ≤ b.length ∧ b.length < 4294967296) :
    ∃ r, (Bz9 a u b v 0 0 0 0 m (n : Int)).o = some r ∧ r.2.2.1.length = a.length ∧ r.2.2.2.2.1.length = b.length := by
  show ∃ r, (vz8 a u b v 0 0 0 0 m (n : Int)).run NN = some r ∧ _
  simp only [vz8, T.run, T.ix, sz5, Option.bind_some, uze]
  refine dz2 (fun k (x : List Int × List Int × Int × Int × Int × Int) => (x.1.length = a.length ∧ x.2.1.length = b.length) ∧ ∃ j : Nat, x.2.2.2.2.2 = (j : Int) ∧ j + k = n) (fun _ => False) n ⟨⟨hu, hv⟩, 0, rfl, by omega⟩ (by omega) ?_ fun y hy => hy.elim
  rintro k ⟨p, q, c1, c2, c3, st⟩ ⟨⟨hp, hq⟩, j, hj, hk⟩
  simp only at hp hq hj ⊢
  subst hj
  obtain ⟨s1, e1⟩ := Cze a p hp ha.2
  obtain ⟨s2, e2⟩ := Cze b q hq hb.2
  have hi : InR (qzj s1 s2).1 ∧ InR (qzj s1 s2).2.1 ∧ InR (qzj s1 s2).2.2 := ⟨InR.wr _, InR.wr _, InR.wr _⟩
  obtain ⟨cl, e3⟩ := xzi hi.1 hi.2.1 hi.2.2 m
  simp only [e1, e2, e3, Option.bind_some]
  cases cl with
  | true => exact .inr (.inr ⟨_, rfl, hp, hq⟩)
  | false =>
    have t1 := hi.1.tdiv (b := 65536) (by omega)
    have t2 := hi.2.1.tdiv (b := 65536) (by omega)
    have t3 := hi.2.2.tdiv (b := 65536) (by omega)
    obtain ⟨nm, e4, _⟩ := qzs (v := (IntKind.i64.wrap ((qzj s1 s2).1.tdiv 65536), IntKind.i64.wrap ((qzj s1 s2).2.1.tdiv 65536), IntKind.i64.wrap ((qzj s1 s2).2.2.tdiv 65536))) (InR.wr _) (InR.wr _) (InR.wr _)
    simp only [e4, Option.bind_some, cond_false]
    cases hnm : nm.2 with
    | false => exact .inr (.inr ⟨_, rfl, hp, hq⟩)
    | true =>
      obtain ⟨le, e5, l1, l2⟩ := Fzw a p nm.1 ha.1 ha.2
      obtain ⟨gr, e6, g1, g2⟩ := yzw b q nm.1 hb.1 hb.2
      simp only [e5, e6, Option.bind_some, Bool.not_true, cond_false]
      generalize decide (IntKind.i64.wrap (le.1 - gr.1) > IntKind.i64.wrap (lzj nm.1 * m)) = far
      cases far with
      | true => exact .inr (.inr ⟨_, rfl, hp, hq⟩)
      | false =>
        simp only [cond_false]
        cases k with
        | zero =>
          have hjn : j = n := by omega
          subst hjn
          rw [kze rfl]
          exact .inr (.inr ⟨_, rfl, hp, hq⟩)
        | succ k =>
          rw [gzg (by omega), azb ⟨l1, l2⟩, azb ⟨g1, g2⟩]
          obtain ⟨pt, e7⟩ := Bzt (IntKind.i64.wrap ((qzj s1 s2).1.tdiv 65536), IntKind.i64.wrap ((qzj s1 s2).2.1.tdiv 65536), IntKind.i64.wrap ((qzj s1 s2).2.2.tdiv 65536)) (qzj (a.getD le.2.toNat default) (b.getD gr.2.toNat default))
          simp only [e7, Option.bind_some]
          by_cases hpt : pt = 0
          · rw [kze hpt]; exact .inr (.inr ⟨_, rfl, hp, hq⟩)
          · rw [gzg hpt]
            obtain ⟨p', e8, hp'⟩ := vzp a p le.2 pt l1 (by rw [hp]; exact l2) (by rw [hp]; exact ha.2)
            obtain ⟨q', e9, hq'⟩ := vzp b q gr.2 pt g1 (by rw [hq]; exact g2) (by rw [hq]; exact hb.2)
            simp only [e8, e9, Option.bind_some]
            exact .inl ⟨_, k, rfl, Nat.lt_succ_self k, ⟨hp'.trans hp, hq'.trans hq⟩, j + 1, by simp only [wn (show j < 4294967296 by omega)], by omega⟩
theorem qzl (a b : List V3) (m : Int) : ∃ r, (dzg a b m 64).o = some r ∧ r.Left.length ≤ 8 ∧ r.Right.length ≤ 8 := by
  show ∃ r, (kz3 a b m 64).run NN = some r ∧ _
  obtain ⟨ua, e1, h1⟩ := qzm a
  obtain ⟨ub, e2, h2⟩ := qzm b
  simp only [kz3, T.run, e1, e2, Option.bind_some]
  cases ua with
  | false => exact ⟨_, rfl, by simp [nl], by simp [nl]⟩
  | true =>
    cases ub with
    | false => exact ⟨_, rfl, by simp [nl], by simp [nl]⟩
    | true =>
      have h1 := h1 rfl
      have h2 := h2 rfl
      simp only [Bool.not_true, cond_false, bz0, dz9, aza]
      generalize (decide (m < 0) || (decide (m > 2097152) || (decide ((64 : Int) < 0) || decide ((64 : Int) > 64)))) = q
      cases q with
      | true => exact ⟨_, rfl, by simp [nl], by simp [nl]⟩
      | false =>
        obtain ⟨la, e3, f1, f2⟩ := ozh a h1.1 (by omega)
        obtain ⟨lb, e4, f3, f4⟩ := ozh b h2.1 (by omega)
        obtain ⟨r, e5, w1, w2⟩ := Izx la.1 la.2 lb.1 lb.2 m 64 (by omega) (by rw [f1, f2]) (by rw [f3, f4]) (by rw [f1]; omega) (by rw [f3]; omega)
        rw [f1] at w1
        rw [f3] at w2
        rw [show ((64 : Nat) : Int) = 64 from rfl] at e5
        simp only [cond_false, e3, e4, e5, Option.bind_some]
        exact ⟨_, rfl, by simp only; omega, by simp only; omega⟩
open Go.Proofs
theorem vzx (a : Int) : (gzy a).o = some (radV a) := by
  show (gzz a).run NN = _
  simp only [gzz, T.run, dzl, mz2, radV, ge_iff_le]
theorem Az4 (a : az0) : (fzp a).o = some (midV a) := by
  rw [tzv]
  unfold midV
  cases h : vV a
  · rfl
  · have := vV_iff.1 h
    rw [w64 (by omega) (by omega)]; rfl
theorem szt (l : List IV3) : (bzw l).o = some (cenV l) := by
  show (fz2 l).run NN = _
  simp only [fz2, T.run, T.ix, dz5, Option.bind_some, Az4, cenV]
  cases hp : bzd l with
  | false => rfl
  | true =>
    have hl := czj hp
    rw [rz3 (by rfl), azb (by omega), if_pos rfl]
    simp only [Int.toNat_natCast]
    refine (ez8 (fun j => (half (cenF l) ((0, 0, 0) : V3) l.length j, (j : Int))) (tab (cenF l) l.length) l.length (by rw [lze]; rfl) (show l.length < 4294967296 by omega) (fun j hj => ?_) ?_).trans rfl
    · have hx : j < (half (cenF l) ((0, 0, 0) : V3) l.length j).length := by rw [mz6 (by omega)]; exact hj
      have h1 : 0 ≤ (j : Int) ∧ (j : Int) < ((half (cenF l) ((0, 0, 0) : V3) l.length j).length : Int) := by omega
      have h2 : j < (half (cenF l) ((0, 0, 0) : V3) l.length j).length ∧ 0 ≤ j := ⟨hx, by omega⟩
      rw [az7 (by omega), azb (by omega)]
      simp only [Int.toNat_natCast, List.length_set, List.set_set, Czp hx, azb h1, azb h2]
      rw [wn (by omega), ← izu hj]; rfl
    · rw [az5 (by omega), pzb]
noncomputable def Iz1 (a b : List IV3) : V3 × Bool := (izz a b).o.getD default
theorem Bzw (a b : List IV3) : (izz a b).o = some (Iz1 a b) := by
  obtain ⟨r, h⟩ := Bzx a b
  unfold Iz1; rw [h]; rfl
noncomputable def Cz3 (a b : List V3) (m : Int) : gzc := (dzg a b m 64).o.getD default
theorem qzk (a b : List V3) (m : Int) : (dzg a b m 64).o = some (Cz3 a b m) := by
  obtain ⟨r, h, _⟩ := qzl a b m
  unfold Cz3; rw [h]; rfl
theorem Nzn (a b : List V3) (m : Int) : (Cz3 a b m).Left.length ≤ 8 ∧ (Cz3 a b m).Right.length ≤ 8 := by
  obtain ⟨r, h, h1⟩ := qzl a b m
  unfold Cz3; rw [h]; exact h1
def axesL : List V3 := [(1, 0, 0), (-1, 0, 0), (0, 1, 0), (0, -1, 0), (0, 0, 1), (0, 0, -1)]
noncomputable def Jzj (a : List IV3) (ra : Int) (b : List IV3) (rb : Int) : gzc := Cz3 (cenV a) (cenV b) (IntKind.i64.wrap (ra + rb))
noncomputable def Mzg (a : List IV3) (ra : Int) (b : List IV3) (rb : Int) : List V3 := bif czf (Jzj a ra b rb).Normal then [(Jzj a ra b rb).Normal] else []
noncomputable def Ozy (a : List IV3) (ra : Int) (b : List IV3) (rb : Int) : List V3 := (bif (Iz1 a b).2 then [(Iz1 a b).1] else []) ++ (axesL ++ Mzg a ra b rb)
noncomputable def Hzd (a : List IV3) (ra : Int) (b : List IV3) (rb : Int) (hs : List V3) : List V3 := hs.filter czf ++ Ozy a ra b rb
def okF (a : List IV3) (ra : Int) (b : List IV3) (rb : Int) : Bool := bzd a && (bzd b && (radV ra && radV rb))
def ofF : Option V3 → V3 × Bool
  | some n => (n, true)
  | none => ((0, 0, 0), false)
noncomputable def ozd (a : List IV3) (ra : Int) (b : List IV3) (rb : Int) (hs : List V3) : V3 × Bool :=
  bif okF a ra b rb then ofF ((Hzd a ra b rb hs).find? fun n => sepV n a ra b rb) else ((0, 0, 0), false)
def PR (F : Option V3) (d : Bool) (x : V3) : Prop := match F with
  | some n => d = true ∧ x = n
  | none => d = false
theorem PR.yes {F : Option V3} {n : V3} (h : some n = F) : PR F true n := by subst h; exact ⟨rfl, rfl⟩
theorem PR.no {F : Option V3} {x : V3} (h : none = F) : PR F false x := by subst h; exact rfl
theorem rzh (sp : V3 → Bool) (x : V3) (l : List V3) : (x :: l).find? sp = bif sp x then some x else l.find? sp := by
  rw [List.find?_cons]; cases sp x <;> rfl
theorem Dz8 {l : List V3} {j : Nat} (h : j < l.length) : l.drop j = l.getD j default :: l.drop (j + 1) := by
  rw [List.drop_eq_getElem_cons h]
  congr 1
  rw [List.getD_eq_getElem?_getD, List.getElem?_eq_getElem h, Option.getD_some]
theorem Sz3 {o : V3 → Option Bool} {sp : V3 → Bool} (ho : ∀ x, o x = some (sp x)) (Y : YldS Tryz.prog az1 o) (a b : List IV3) (ra rb : Int) (hs : List V3) (hh : hs.length < 4294967296) :
    ∃ r, (ezn Y a b ra rb hs).o = some r ∧ (okF a ra b rb = false → r.1 = false) ∧ (okF a ra b rb = true → PR ((Hzd a ra b rb hs).find? sp) r.1 r.2.1) := by
  show ∃ r, (ezo Y a b ra rb hs).run NN = some r ∧ _
  have yc : ∀ x0 x, (Y.C false x0 x).o = o x := fun _ _ => rfl
  simp only [ezo, T.run, dz5, Option.bind_some, vzx, bz0, dz9, aza]
  have hq : (!bzd a || (!bzd b || (!radV ra || !radV rb))) = !okF a ra b rb := by
    unfold okF; cases bzd a <;> cases bzd b <;> cases radV ra <;> cases radV rb <;> rfl
  rw [hq]
  cases okF a ra b rb with
  | false => exact ⟨_, rfl, fun _ => rfl, fun h => by cases h⟩
  | true =>
    simp only [Bool.not_true, cond_false]
    generalize hF : (Hzd a ra b rb hs).find? sp = F
    suffices h : ∃ r : Bool × V3 × List IV3 × List IV3 × Int × Int × List V3, _ = some r ∧ PR F r.1 r.2.1 from h.imp fun _ h => ⟨h.1, (fun h => by cases h), fun _ => h.2⟩
    refine dz2 (fun m (x : Int × Bool × V3) => x.2.1 = false ∧ ∃ j : Nat, x.1 = (j : Int) ∧ j + m = hs.length ∧ ((hs.drop j).filter czf ++ Ozy a ra b rb).find? sp = F) (fun y : Bool × V3 => y.1 = false ∧ (Ozy a ra b rb).find? sp = F) hs.length ⟨rfl, 0, rfl, by omega, by rw [List.drop_zero]; exact hF⟩ hh ?_ ?_
    · rintro m ⟨i, d, x0⟩ ⟨hd, j, hj, hm, hf⟩
      simp only at hd hj hf ⊢
      subst hd; subst hj
      cases m with
      | zero =>
        rw [List.drop_eq_nil_of_le (by omega)] at hf
        exact .inr (.inl ⟨_, by rw [az5 (by omega)], rfl, hf⟩)
      | succ m =>
        rw [Dz8 (by omega), List.filter_cons] at hf
        rw [az7 (by omega), azb (by omega), dzj, Int.toNat_natCast]
        simp only [Option.bind_some, yc]
        cases hus : czf (hs.getD j default) with
        | false =>
          rw [hus, if_neg (by decide)] at hf
          exact .inl ⟨_, m, rfl, Nat.lt_succ_self m, rfl, j + 1, by simp only [wn (show j < 4294967296 by omega)], by omega, hf⟩
        | true =>
          rw [hus, if_pos rfl, List.cons_append, rzh] at hf
          simp only [cond_true, ho, Option.bind_some]
          cases hsp : sp (hs.getD j default) with
          | true =>
            rw [hsp] at hf
            exact .inr (.inr ⟨_, rfl, PR.yes hf⟩)
          | false =>
            rw [hsp] at hf
            exact .inl ⟨_, m, rfl, Nat.lt_succ_self m, rfl, j + 1, by simp only [wn (show j < 4294967296 by omega)], by omega, hf⟩
    · rintro ⟨d, x0⟩ ⟨hd, hf⟩
      simp only at hd hf ⊢
      subst hd
      simp only [Bzw, Option.bind_some, yc]
      have rest : ∀ (d : Bool) (x1 : V3), d = false → (axesL ++ Mzg a ra b rb).find? sp = F → ∃ r, ((nzi).o.bind fun y147 => andK (iter (fun x153 : Int × Bool × V3 => bif decide (x153.1 < ((y147.length : Nat) : Int)) then grd (0 ≤ x153.1 ∧ x153.1 < ((y147.length : Nat) : Int)) ((Y.C x153.2.1 x153.2.2 (y147.getD ((x153.1).toNat) default)).o.bind fun y162 => bif (!(!y162)) then some (Step3.fin (y162, (y147.getD ((x153.1).toNat) default), a, b, ra, rb, hs)) else some (Step3.next ((IntKind.i64.wrap (x153.1 + 1)), y162, (y147.getD ((x153.1).toNat) default)))) else some (Step3.out (x153.2.1, x153.2.2))) NN (0, d, x1)) fun y158 : Bool × V3 =>
          (bzw a).o.bind fun y166 => (bzw b).o.bind fun y167 => (dzg y166 y167 (IntKind.i64.wrap (ra + rb)) 64).o.bind fun y168 => some (czf y168.Normal) |>.bind fun y170 => bif y170 then ((Y.C y158.1 y158.2 y168.Normal).o.bind fun y171 => some (y171, y168.Normal, a, b, ra, rb, hs)) else some (y158.1, y158.2, a, b, ra, rb, hs)) = some r ∧ PR F r.1 r.2.1 := by
        intro d x1 hd hf
        subst hd
        have ea : (nzi).o = some axesL := rfl
        rw [ea]
        simp only [Option.bind_some]
        refine dz2 (fun m (x : Int × Bool × V3) => x.2.1 = false ∧ ∃ j : Nat, x.1 = (j : Int) ∧ j + m = 6 ∧ (axesL.drop j ++ Mzg a ra b rb).find? sp = F) (fun y : Bool × V3 => y.1 = false ∧ (Mzg a ra b rb).find? sp = F) 6 ⟨rfl, 0, rfl, rfl, by rw [List.drop_zero]; exact hf⟩ (by omega) ?_ ?_
        · rintro m ⟨i, d, x0⟩ ⟨hd, j, hj, hm, hf⟩
          simp only at hd hj hf ⊢
          subst hd; subst hj
          have l6 : axesL.length = 6 := rfl
          rw [l6]
          cases m with
          | zero =>
            rw [List.drop_eq_nil_of_le (by omega)] at hf
            exact .inr (.inl ⟨_, by rw [az5 (by omega)], rfl, hf⟩)
          | succ m =>
            rw [Dz8 (by omega), List.cons_append, rzh] at hf
            rw [az7 (by omega), azb (by omega), yc, Int.toNat_natCast]
            simp only [ho, Option.bind_some]
            cases hsp : sp (axesL.getD j default) with
            | true =>
              rw [hsp] at hf
              exact .inr (.inr ⟨_, rfl, PR.yes hf⟩)
            | false =>
              rw [hsp] at hf
              exact .inl ⟨_, m, rfl, Nat.lt_succ_self m, rfl, j + 1, by simp only [wn (show j < 4294967296 by omega)], by omega, hf⟩
        · rintro ⟨d, x0⟩ ⟨hd, hf⟩
          simp only at hd hf ⊢
          subst hd
          simp only [szt, qzk, Option.bind_some, yc]
          unfold Mzg Jzj at hf
          cases hus : czf (Cz3 (cenV a) (cenV b) (IntKind.i64.wrap (ra + rb))).Normal with
          | false =>
            rw [hus] at hf
            exact ⟨_, rfl, PR.no hf⟩
          | true =>
            rw [hus, cond_true, rzh] at hf
            simp only [cond_true, ho, Option.bind_some]
            refine ⟨_, rfl, ?_⟩
            simp only
            cases hsp : sp (Cz3 (cenV a) (cenV b) (IntKind.i64.wrap (ra + rb))).Normal with
            | true => rw [hsp] at hf; exact PR.yes hf
            | false => rw [hsp] at hf; exact PR.no hf
      unfold Ozy at hf
      cases hm : (Iz1 a b).2 with
      | false =>
        rw [hm] at hf
        simp only [cond_false, aza, dzj]
        exact rest false x0 rfl hf
      | true =>
        rw [hm, cond_true, List.cons_append, rzh] at hf
        simp only [cond_true, ho, Option.bind_some, aza, dzj]
        cases hsp : sp (Iz1 a b).1 with
        | true => rw [hsp] at hf; exact ⟨_, rfl, PR.yes hf⟩
        | false => rw [hsp] at hf; exact rest false (Iz1 a b).1 rfl hf
theorem Bzv (a : List IV3) (ra : Int) (b : List IV3) (rb : Int) (hs : List V3) (hh : hs.length < 4294967296) : (nzj a ra b rb hs).o = some (ozd a ra b rb hs) := by
  obtain ⟨r, hr, h0, h1⟩ := Sz3 (o := fun x => (izy a ra b rb hs x).run NN) (sp := fun n => sepV n a ra b rb) (fun x => by
    simp only [izy, T.run, ozi, Option.bind_some]
    cases sepV x a ra b rb <;> rfl) YldS.dummy a b ra rb hs hh
  have e1 : (fzi a ra b rb hs).o = some (a, b, ra, rb, hs) := rfl
  have e2 : (nzj a ra b rb hs).o = (T.run NN (.call (fzi a ra b rb hs) [] fun y1 => .ret y1)).bind fun u => (ezn (o := fun x => (izy a ra b rb hs x).run NN) YldS.dummy u.1 u.2.1 u.2.2.1 u.2.2.2.1 u.2.2.2.2).o.bind fun r => bif r.1 then some (r.2.1, true) else some ((0, 0, 0), false) := rfl
  rw [e2]
  simp only [T.run, e1, Option.bind_some, hr, ozd]
  cases hk : okF a ra b rb with
  | false => rw [h0 hk]; rfl
  | true =>
    have h := h1 hk
    generalize (Hzd a ra b rb hs).find? _ = F at h
    cases F with
    | none => have h : r.1 = false := h; rw [h]; rfl
    | some n => obtain ⟨h2, h3⟩ := (show r.1 = true ∧ r.2.1 = n from h); rw [h2, h3]; rfl
open Go.Proofs
def Ezd : azy := ⟨0, nl, nl⟩
noncomputable def fndK (s : az8) (b : List az0) (hs : List V3) (k : Nat) : V3 × Bool := ozd (bz5 s b (pA s k)) (hzo s (pA s k)) (bz5 s b (pB s k)) (hzo s (pB s k)) ((hs.drop k).take 1)
noncomputable def nrK (s : az8) (b : List az0) (k : Nat) : gzc := Jzj (bz5 s b (pA s k)) (hzo s (pA s k)) (bz5 s b (pB s k)) (hzo s (pB s k))
noncomputable def ovK (s : az8) (b : List az0) (k : Nat) : Bool := ovV (nrK s b k).Left (nrK s b k).Right (bz5 s b (pA s k)) (hzo s (pA s k)) (bz5 s b (pB s k)) (hzo s (pB s k))
noncomputable def colK (s : az8) (b : List az0) (hs : List V3) (k : Nat) : Option dz0 := sw (!(fndK s b hs k).2 && ovK s b k) ⟨2, nl, ⟨(k : Int), (nrK s b k).Left, (nrK s b k).Right⟩⟩
noncomputable def misK (s : az8) (b : List az0) (hs : List V3) (k : Nat) : Bool := !(fndK s b hs k).2
noncomputable def clsV (s : az8) (b : List az0) (hs : List V3) : dz0 := if bzq s = 0 ∧ boxV s.Robot b = true then
    (match scan (colK s b hs) (azt s).length 0 with
      | some v => v
      | none => ⟨bif bzs (misK s b hs) (azt s).length then 1 else 0, tab (fun k => (fndK s b hs k).1) (azt s).length, Ezd⟩)
  else ⟨0, nl, Ezd⟩
theorem Jz7 {a : List IV3} {ra : Int} {b : List IV3} {rb : Int} {hs : List V3} (h : (ozd a ra b rb hs).2 = false) : (ozd a ra b rb hs).1 = (0, 0, 0) := by
  unfold ozd at h ⊢
  generalize okF a ra b rb = k at h ⊢
  cases k with
  | false => rfl
  | true =>
    rw [cond_true] at h ⊢
    generalize List.find? _ _ = F at h ⊢
    cases F with
    | none => rfl
    | some n => cases h
theorem Fzh {a : List IV3} {ra : Int} {b : List IV3} {rb : Int} {hs : List V3} (h : (ozd a ra b rb hs).2 = true) : sepV (ozd a ra b rb hs).1 a ra b rb = true := by
  unfold ozd at h ⊢
  generalize okF a ra b rb = k at h ⊢
  cases k with
  | false => cases h
  | true =>
    rw [cond_true] at h ⊢
    generalize hF : List.find? _ _ = F at h ⊢
    cases F with
    | none => cases h
    | some n => exact List.find?_some (p := fun n => sepV n a ra b rb) hF
theorem Mz2 {α : Type} {f : Nat → α} {z : α} {n j : Nat} (h : j < n) (e : f j = z) : half f z n j = half f z n (j + 1) := by
  unfold half
  rw [wzr, show n - j = (n - (j + 1)) + 1 by omega, List.replicate_succ, e, List.append_assoc]; rfl
theorem Kzp {g : Nat → Bool} {n : Nat} : bzs g (n + 1) = (bzs g n && !g n) := by
  rw [Bool.eq_iff_iff, Bool.and_eq_true, noneB_iff, noneB_iff, Bool.not_eq_true']
  constructor
  · exact fun h => ⟨fun i hi => h i (by omega), h n (by omega)⟩
  · intro h i hi
    by_cases e : i = n
    · rw [e]; exact h.2
    · exact h.1 i (by omega)
theorem Qzw (hs : List V3) (j : Nat) : (hs.drop (min (j : Int) (hs.length : Int)).toNat).take ((min ((j + 1 : Nat) : Int) (hs.length : Int)).toNat - (min (j : Int) (hs.length : Int)).toNat) = (hs.drop j).take 1 := by
  by_cases h : j < hs.length
  · rw [show (min (j : Int) (hs.length : Int)).toNat = j by omega, show (min ((j + 1 : Nat) : Int) (hs.length : Int)).toNat - j = 1 by omega]
  · have e1 : hs.drop j = [] := List.drop_eq_nil_of_le (by omega)
    have e2 : hs.drop (min (j : Int) (hs.length : Int)).toNat = [] := List.drop_eq_nil_of_le (by omega)
    rw [e1, e2]; simp
theorem fzm (s : az8) (b : List az0) (hs : List V3) (hb : b.length < 4294967296) (hh : hs.length < 4294967296) : (ezj s b hs).o = some (clsV s b hs) := by
  show (mzw s b hs).run NN = _
  have hp := jzq s b hb
  have hlen := wz1 s
  simp only [mzw, T.run]
  rw [show (⟨s.Robot, s.Shapes, s.Skips⟩ : az8) = s from rfl, hp]
  simp only [Option.bind_some]
  unfold clsV
  by_cases h : bzq s = 0 ∧ boxV s.Robot b = true
  · rw [if_pos h, if_pos h]
    rw [rz3 (by rfl), azb (by simp only; omega)]
    simp only [Int.toNat_natCast]
    refine (jza (fun j => (half (fun k => (fndK s b hs k).1) ((0, 0, 0) : V3) (azt s).length j, bzs (misK s b hs) j, (j : Int))) (colK s b hs) (tab (fun k => (fndK s b hs k).1) (azt s).length, bzs (misK s b hs) (azt s).length) (azt s).length ?_ (show (azt s).length < 4294967296 by omega) (fun j hjl => ?_) ?_).trans ?_
    · rw [lze]
      have : bzs (misK s b hs) 0 = true := noneB_iff.2 fun i hi => by omega
      rw [this]; rfl
    · have hc := vzc (b := b) h hjl
      dsimp only
      rw [az7 (by omega), hc]
      simp only [Option.bind_some, wn (show j < 4294967296 by omega)]
      rw [azb (by omega), Qzw, Bzv _ _ _ _ _ (by simp; omega)]
      simp only [Option.bind_some]
      have ef : ozd (bz5 s b (pA s j)) (hzo s (pA s j)) (bz5 s b (pB s j)) (hzo s (pB s j)) ((hs.drop j).take 1) = fndK s b hs j := rfl
      rw [ef, Kzp]
      unfold colK
      have hm : misK s b hs j = !(fndK s b hs j).2 := rfl
      rw [hm]
      cases hf : (fndK s b hs j).2 with
      | true =>
        simp only [cond_true, mz6 (show j ≤ (azt s).length by omega)]
        rw [azb (by omega), azb (by omega), aza, Int.toNat_natCast, izu hjl]
        simp only [Bool.not_true, Bool.not_false, Bool.and_true, Bool.false_and, sw, cond_false]
      | false =>
        have en := Jz7 (ef ▸ hf)
        rw [ef] at en
        simp only [cond_false, szt, qzk, Option.bind_some, mzd]
        have eo : ovV (Cz3 (cenV (bz5 s b (pA s j))) (cenV (bz5 s b (pB s j))) (IntKind.i64.wrap (hzo s (pA s j) + hzo s (pB s j)))).Left (Cz3 (cenV (bz5 s b (pA s j))) (cenV (bz5 s b (pB s j))) (IntKind.i64.wrap (hzo s (pA s j) + hzo s (pB s j)))).Right (bz5 s b (pA s j)) (hzo s (pA s j)) (bz5 s b (pB s j)) (hzo s (pB s j)) = ovK s b j := rfl
        rw [eo, Mz2 hjl en]
        simp only [Bool.not_true, Bool.not_false, Bool.and_false, Bool.true_and]
        cases ovK s b j with
        | true => rfl
        | false => rfl
    · dsimp only
      rw [az5 (by omega), pzb]
    · cases scan (colK s b hs) (azt s).length 0 with
      | some v => rfl
      | none => cases bzs (misK s b hs) (azt s).length <;> rfl
  · rw [if_neg h, if_neg h]; rfl
theorem zzp (s : az8) (b : List az0) (hs : List V3) :
    ((clsV s b hs).Kind = 0 ∧ (clsV s b hs).Witness = Ezd) ∨
    ((clsV s b hs).Kind = 1 ∧ (clsV s b hs).Witness = Ezd ∧ (bzq s = 0 ∧ boxV s.Robot b = true) ∧ kzn s b (clsV s b hs).Normals = true) ∨
    ((clsV s b hs).Kind = 2 ∧ (clsV s b hs).Normals = [] ∧ uzk s b (clsV s b hs).Witness = true ∧ (clsV s b hs).Witness.Left.length ≤ 8 ∧ (clsV s b hs).Witness.Right.length ≤ 8) := by
  unfold clsV
  by_cases h : bzq s = 0 ∧ boxV s.Robot b = true
  · rw [if_pos h]
    cases hs' : scan (colK s b hs) (azt s).length 0 with
    | some v =>
      obtain ⟨j, -, hj, hc, -⟩ := dzc _ _ hs'
      unfold colK sw at hc
      cases hk : (!(fndK s b hs j).2 && ovK s b j) with
      | false => rw [hk] at hc; cases hc
      | true =>
        rw [hk] at hc
        simp only [cond_true, Option.some.injEq] at hc
        subst hc
        simp only [Bool.and_eq_true] at hk
        have l := Nzn (cenV (bz5 s b (pA s j))) (cenV (bz5 s b (pB s j))) (IntKind.i64.wrap (hzo s (pA s j) + hzo s (pB s j)))
        refine .inr (.inr ⟨rfl, rfl, ?_, l.1, l.2⟩)
        unfold uzk
        rw [if_pos ⟨h, by simp only; omega, by simp only; omega⟩]
        exact hk.2
    | none =>
      dsimp only
      cases hn : bzs (misK s b hs) (azt s).length with
      | false => exact .inl ⟨rfl, rfl⟩
      | true =>
        refine .inr (.inl ⟨rfl, rfl, h, ?_⟩)
        simp only [kzn, Bool.and_eq_true, decide_eq_true_eq, noneB_iff, sepK, Bool.not_eq_false']
        refine ⟨h.1, h.2, czs _ _, fun k hk => ?_⟩
        rw [fzl hk]
        have := noneB_iff.1 hn k hk
        simp only [misK, Bool.not_eq_false'] at this
        exact Fzh this
  · rw [if_neg h]; exact .inl ⟨rfl, rfl⟩
theorem Lzm (s : az8) (b : List az0) (hs : List V3) : (clsV s b hs).Normals.length ≤ 576 := by
  have hl := wz1 s
  rcases zzp s b hs with _ | _ | ⟨_, h, _⟩
  · unfold clsV
    split
    · split
      · rename_i hs'
        obtain ⟨j, -, hj, hc, -⟩ := dzc _ _ hs'
        unfold colK sw at hc
        cases hk : (!(fndK s b hs j).2 && ovK s b j) with
        | false => rw [hk] at hc; cases hc
        | true =>
          rw [hk] at hc
          simp only [cond_true, Option.some.injEq] at hc
          subst hc; simp [nl]
      · simp only [czs]; exact hl
    · simp [nl]
  · unfold clsV
    split
    · split
      · rename_i hs'
        obtain ⟨j, -, hj, hc, -⟩ := dzc _ _ hs'
        unfold colK sw at hc
        cases hk : (!(fndK s b hs j).2 && ovK s b j) with
        | false => rw [hk] at hc; cases hc
        | true =>
          rw [hk] at hc
          simp only [cond_true, Option.some.injEq] at hc
          subst hc; simp [nl]
      · simp only [czs]; exact hl
    · simp [nl]
  · rw [h]; simp
theorem Dzp {l m : List V3} {p : V3 → Bool} (h : (l ++ m).find? p = none) : m.find? p = none := by
  rw [List.find?_eq_none] at h ⊢
  exact fun x hx => h x (List.mem_append_right _ hx)
theorem Ezw : czf ((0, 0, 0) : V3) = false := by decide
theorem Hzq (a : List IV3) (ra : Int) (b : List IV3) (rb : Int) (hs : List V3) : ozd a ra b rb [(ozd a ra b rb hs).1] = ozd a ra b rb hs := by
  cases h : (ozd a ra b rb hs).2 with
  | true =>
    have hy := Fzh h
    have e : ozd a ra b rb hs = ((ozd a ra b rb hs).1, true) := by rw [← h]
    generalize (ozd a ra b rb hs).1 = n at hy e
    rw [e]
    have hy' := hy
    unfold sepV at hy'
    simp only [Bool.and_eq_true, Ezr] at hy'
    unfold ozd Hzd
    have ok : okF a ra b rb = true := by simp only [okF, Bool.and_eq_true]; exact hy'.1.2
    have ff : List.filter czf [n] = [n] := by rw [List.filter_cons, if_pos hy'.1.1]; rfl
    rw [ok, cond_true, ff, List.cons_append, rzh, hy]; rfl
  | false =>
    have hn := Jz7 h
    have e : ozd a ra b rb hs = ((0, 0, 0), false) := by rw [← h, ← hn]
    rw [e]
    unfold ozd at e ⊢
    cases ok : okF a ra b rb with
    | false => rfl
    | true =>
      rw [ok, cond_true] at e
      rw [cond_true]
      cases hF : (Hzd a ra b rb hs).find? fun n => sepV n a ra b rb with
      | some n => rw [hF] at e; cases e
      | none =>
        unfold Hzd at hF ⊢
        have := Dzp hF
        have ff : List.filter czf [((0, 0, 0) : V3)] = [] := by rw [List.filter_cons, if_neg (by rw [Ezw]; decide)]; rfl
        rw [ff, List.nil_append, this]; rfl
theorem Lzl {s : az8} {b : List az0} {hs : List V3} (h : (clsV s b hs).Kind = 0) : clsV s b (clsV s b hs).Normals = clsV s b hs := by
  by_cases hk : bzq s = 0 ∧ boxV s.Robot b = true
  · cases hs' : scan (colK s b hs) (azt s).length 0 with
    | some v =>
      exfalso
      obtain ⟨j, -, hj, hc, -⟩ := dzc _ _ hs'
      have e : clsV s b hs = v := by unfold clsV; rw [if_pos hk, hs']
      rw [e] at h
      unfold colK sw at hc
      cases hq : (!(fndK s b hs j).2 && ovK s b j) with
      | false => rw [hq] at hc; cases hc
      | true =>
        rw [hq] at hc
        simp only [cond_true, Option.some.injEq] at hc
        subst hc; cases h
    | none =>
      have e : (clsV s b hs).Normals = tab (fun k => (fndK s b hs k).1) (azt s).length := by unfold clsV; rw [if_pos hk, hs']
      rw [e]
      have ek : ∀ k, k < (azt s).length → fndK s b (tab (fun k => (fndK s b hs k).1) (azt s).length) k = fndK s b hs k := fun k hk' => by
        unfold fndK
        rw [Dz8 (by rw [czs]; exact hk'), fzl hk']
        exact Hzq _ _ _ _ _
      have e1 : scan (colK s b (tab (fun k => (fndK s b hs k).1) (azt s).length)) (azt s).length 0 = scan (colK s b hs) (azt s).length 0 :=
        Czo _ _ fun k _ h2 => by unfold colK; rw [ek k (by omega)]
      have e2 : bzs (misK s b (tab (fun k => (fndK s b hs k).1) (azt s).length)) (azt s).length = bzs (misK s b hs) (azt s).length := Iz5 fun k hk => by unfold misK; rw [ek k hk]
      have e3 : tab (fun k => (fndK s b (tab (fun k => (fndK s b hs k).1) (azt s).length) k).1) (azt s).length = tab (fun k => (fndK s b hs k).1) (azt s).length := Gzt fun k hk => by rw [ek k hk]
      unfold clsV
      rw [if_pos hk, if_pos hk, e1, e2, e3]
  · unfold clsV; rw [if_neg hk, if_neg hk]
end Go.Abs
