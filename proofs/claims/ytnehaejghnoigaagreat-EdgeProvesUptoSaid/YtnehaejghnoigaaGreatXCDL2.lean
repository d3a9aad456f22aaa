/-
  DL2 (a part of a claim: our own text).
-/
import Derived.Test.YtnehaejghnoigaaGreatXCDL1
namespace Go.Abs
def rng (x : az0) : Bool := !(decide (x.Lo < -268435456) || (decide (x.Lo > x.Hi) || decide (x.Hi > 268435456)))
theorem Pzz {x : az0} : rng x = true ↔ -268435456 ≤ x.Lo ∧ x.Lo ≤ x.Hi ∧ x.Hi ≤ 268435456 := by
  simp only [rng, Bool.not_eq_true', Bool.or_eq_false_iff, decide_eq_false_iff_not]; omega
def fzj (v : IV3) : Bool := rng v.1 && (rng v.2.1 && rng v.2.2)
def farL (l : List IV3) (i : Nat) : Bool := !fzj (l.getD i default)
def bz4 (l : List IV3) : Bool := decide (1 ≤ l.length ∧ l.length ≤ 8) && bzk (farL l) l.length
theorem pzc {l : List IV3} (h : bz4 l = true) {i : Nat} (hi : i < l.length) : fzj (l.getD i default) = true := by
  simp only [bz4, Bool.and_eq_true] at h
  have := noneB_iff.1 h.2 i hi
  simpa [farL] using this
theorem dz2 {l : List IV3} (h : bz4 l = true) : 1 ≤ l.length ∧ l.length ≤ 8 := by
  simp only [bz4, Bool.and_eq_true, decide_eq_true_eq] at h; exact h.1
theorem tzm (v : IV3) : (lzy v).o = some (fzj v) := by
  show (lzz v).run NN = _
  simp only [lzz, T.run, T.ix, azw, az7, czr, fzj, rng]
  cases decide (v.1.Lo < -268435456) || (decide (v.1.Lo > v.1.Hi) || decide (v.1.Hi > 268435456)) <;> cases decide (v.2.1.Lo < -268435456) || (decide (v.2.1.Lo > v.2.1.Hi) || decide (v.2.1.Hi > 268435456)) <;>
    cases decide (v.2.2.Lo < -268435456) || (decide (v.2.2.Lo > v.2.2.Hi) || decide (v.2.2.Hi > 268435456)) <;> rfl
theorem czu (l : List IV3) : (cza l).o = some (bz4 l) := by
  show (ozr l).run NN = _
  simp only [ozr, T.run, T.ix, azw, az7, czr, bz4]
  by_cases h : 1 ≤ l.length ∧ l.length ≤ 8
  · rw [decide_eq_true h, decide_eq_false (p := (l.length : Int) < 1) (by omega), decide_eq_false (p := (l.length : Int) > 8) (by omega)]
    simp only [Bool.or_self, cond_false, Bool.true_and]
    refine (fza (fun i => sw (farL l i) false) l.length (by omega) (fun j hj => ?_) ?_).trans ?_
    · rw [az6 (by omega), az8 (by omega), wn (by omega), Int.toNat_natCast, ← dzl]
      unfold farL fzj rng
      generalize l.getD j default = v
      cases decide (v.1.Lo < -268435456) || (decide (v.1.Lo > v.1.Hi) || decide (v.1.Hi > 268435456)) <;> cases decide (v.2.1.Lo < -268435456) || (decide (v.2.1.Lo > v.2.1.Hi) || decide (v.2.1.Hi > 268435456)) <;>
        cases decide (v.2.2.Lo < -268435456) || (decide (v.2.2.Lo > v.2.2.Hi) || decide (v.2.2.Hi > 268435456)) <;> rfl
    · rw [az5 (by omega)]
    · rw [cz8]; cases bzk (farL l) l.length <;> rfl
  · rw [decide_eq_false h]
    by_cases h1 : (l.length : Int) < 1
    · rw [decide_eq_true h1]; rfl
    · rw [decide_eq_false h1, decide_eq_true (p := (l.length : Int) > 8) (by omega)]; rfl
theorem ezt (l : List IV3) : (czt l).o = some (bz4 l) := by
  show (oz8 l).run NN = _
  simp only [oz8, T.run, azw, az7, tzm, Option.bind_some]
  refine (fza (fun i => sw (farL l i) false) (min l.length 9) (by omega) (fun j hj => ?_) ?_).trans ?_
  · have e : (bif decide ((j : Int) < (l.length : Int)) then decide ((j : Int) ≤ 8) else false) = true := by rw [az6 (by omega), decide_eq_true (p := (j : Int) ≤ 8) (by omega)]
    rw [e, cond_true, az8 (by omega), wn (by omega), Int.toNat_natCast, ← dzl]; rfl
  · have e : (bif decide (((min l.length 9 : Nat) : Int) < (l.length : Int)) then decide (((min l.length 9 : Nat) : Int) ≤ 8) else false) = false := by
      by_cases hl : l.length ≤ 8
      · rw [az5 (by omega)]
      · by_cases h9 : ((min l.length 9 : Nat) : Int) < (l.length : Int)
        · rw [az6 h9, decide_eq_false (p := ((min l.length 9 : Nat) : Int) ≤ 8) (by omega)]
        · rw [az5 h9]
    rw [e, cond_false]
  · rw [cz8]
    unfold bz4
    by_cases h : 1 ≤ l.length ∧ l.length ≤ 8
    · rw [decide_eq_true h, Nat.min_eq_left (by omega), Bool.true_and]
      cases bzk (farL l) l.length
      · rfl
      · show (bif decide ((l.length : Int) ≥ 1) then _ else _) = _
        rw [az6 (by omega), decide_eq_true (p := (l.length : Int) ≤ 8) (by omega)]
    · rw [decide_eq_false h, Bool.false_and]
      cases bzk (farL l) (min l.length 9)
      · rfl
      · show (bif decide ((l.length : Int) ≥ 1) then _ else _) = _
        by_cases h1 : (l.length : Int) ≥ 1
        · rw [az6 h1, decide_eq_false (p := (l.length : Int) ≤ 8) (by omega)]
        · rw [az5 h1]
def dLo (n : V3) (v : IV3) : Int := min (n.1 * v.1.Lo) (n.1 * v.1.Hi) + min (n.2.1 * v.2.1.Lo) (n.2.1 * v.2.1.Hi) + min (n.2.2 * v.2.2.Lo) (n.2.2 * v.2.2.Hi)
def dHi (n : V3) (v : IV3) : Int := max (n.1 * v.1.Lo) (n.1 * v.1.Hi) + max (n.2.1 * v.2.1.Lo) (n.2.1 * v.2.1.Hi) + max (n.2.2 * v.2.2.Lo) (n.2.2 * v.2.2.Hi)
theorem Hz0 {a b : Int} (ha : -16384 ≤ a ∧ a ≤ 16384) (hb : -268435456 ≤ b ∧ b ≤ 268435456) : -4398046511104 ≤ a * b ∧ a * b ≤ 4398046511104 := by
  have h : (a * b).natAbs ≤ 16384 * 268435456 := by rw [Int.natAbs_mul]; exact Nat.mul_le_mul (by omega) (by omega)
  omega
theorem Szi {n : V3} {v : IV3} (hn : bz0 n = true) (hv : fzj v = true) :
    IntKind.i64.wrap (IntKind.i64.wrap (IntKind.i64.wrap (0 + min (IntKind.i64.wrap (n.1 * v.1.Lo)) (IntKind.i64.wrap (n.1 * v.1.Hi))) + min (IntKind.i64.wrap (n.2.1 * v.2.1.Lo)) (IntKind.i64.wrap (n.2.1 * v.2.1.Hi))) + min (IntKind.i64.wrap (n.2.2 * v.2.2.Lo)) (IntKind.i64.wrap (n.2.2 * v.2.2.Hi))) = dLo n v ∧
    IntKind.i64.wrap (IntKind.i64.wrap (IntKind.i64.wrap (0 + max (IntKind.i64.wrap (n.1 * v.1.Lo)) (IntKind.i64.wrap (n.1 * v.1.Hi))) + max (IntKind.i64.wrap (n.2.1 * v.2.1.Lo)) (IntKind.i64.wrap (n.2.1 * v.2.1.Hi))) + max (IntKind.i64.wrap (n.2.2 * v.2.2.Lo)) (IntKind.i64.wrap (n.2.2 * v.2.2.Hi))) = dHi n v ∧
    (-13194139533312 ≤ dLo n v ∧ dLo n v ≤ 13194139533312) ∧ (-13194139533312 ≤ dHi n v ∧ dHi n v ≤ 13194139533312) := by
  obtain ⟨⟨b1, b2, b3⟩, -⟩ := Dzy hn
  simp only [fzj, Bool.and_eq_true, Pzz] at hv
  obtain ⟨v1, v2, v3⟩ := hv
  have p1 := Hz0 b1 (show -268435456 ≤ v.1.Lo ∧ v.1.Lo ≤ 268435456 by omega)
  have p2 := Hz0 b1 (show -268435456 ≤ v.1.Hi ∧ v.1.Hi ≤ 268435456 by omega)
  have p3 := Hz0 b2 (show -268435456 ≤ v.2.1.Lo ∧ v.2.1.Lo ≤ 268435456 by omega)
  have p4 := Hz0 b2 (show -268435456 ≤ v.2.1.Hi ∧ v.2.1.Hi ≤ 268435456 by omega)
  have p5 := Hz0 b3 (show -268435456 ≤ v.2.2.Lo ∧ v.2.2.Lo ≤ 268435456 by omega)
  have p6 := Hz0 b3 (show -268435456 ≤ v.2.2.Hi ∧ v.2.2.Hi ≤ 268435456 by omega)
  unfold dLo dHi
  generalize n.1 * v.1.Lo = x1 at *
  generalize n.1 * v.1.Hi = x2 at *
  generalize n.2.1 * v.2.1.Lo = x3 at *
  generalize n.2.1 * v.2.1.Hi = x4 at *
  generalize n.2.2 * v.2.2.Lo = x5 at *
  generalize n.2.2 * v.2.2.Hi = x6 at *
  rw [w64 (x := x1) (by omega) (by omega), w64 (x := x2) (by omega) (by omega), w64 (x := x3) (by omega) (by omega), w64 (x := x4) (by omega) (by omega), w64 (x := x5) (by omega) (by omega), w64 (x := x6) (by omega) (by omega)]
  rw [w64 (x := 0 + min x1 x2) (by omega) (by omega), w64 (x := 0 + max x1 x2) (by omega) (by omega), w64 (x := 0 + min x1 x2 + min x3 x4) (by omega) (by omega), w64 (x := 0 + max x1 x2 + max x3 x4) (by omega) (by omega), w64 (by omega) (by omega), w64 (by omega) (by omega)]
  refine ⟨by omega, by omega, ⟨by omega, by omega⟩, ⟨by omega, by omega⟩⟩
theorem yzw {n : V3} {v : IV3} (hn : bz0 n = true) (hv : fzj v = true) : (rzk n v).o = some (dLo n v, dHi n v) := by
  have h := Szi hn hv
  show (rzl n v).run NN = _
  simp only [rzl, T.run, T.ix, h.1, h.2.1]
theorem Dz9 {n : V3} {v : IV3} (hn : bz0 n = true) (hv : fzj v = true) : (wzf n v).o = some (dLo n v, dHi n v) := by
  have h := Szi hn hv
  show (wzg n v).run NN = _
  simp only [wzg, T.run, T.ix, ezu, tzm, hn, hv, Option.bind_some, Bool.not_true, cond_false, az7, h.1, h.2.1]
def bst (c : Int → Int → Bool) (f : Nat → Int) : Nat → Int × Int
  | 0 => (0, 0)
  | j + 1 => if decide (j = 0) || c (f j) (bst c f j).1 then (f j, (j : Int)) else bst c f j
def ltB (a b : Int) : Bool := decide (a < b)
def gtB (a b : Int) : Bool := decide (a > b)
def xze (n : V3) (l : List IV3) : Int × Int := bst ltB (fun i => dLo n (l.getD i default)) l.length
def xz9 (n : V3) (l : List IV3) : Int × Int := bst gtB (fun i => dHi n (l.getD i default)) l.length
section
variable {n : V3} {l : List IV3} (hn : bz0 n = true) (hl : bz4 l = true)
include hn hl
theorem Bzd : (rzr n.1 n.2.1 n.2.2 l).o = some ((xze n l).1, (xze n l).2, n.1, n.2.1, n.2.2) := by
  have hlen := dz2 hl
  show (kz1 n.1 n.2.1 n.2.2 l).run NN = _
  simp only [kz1, T.run]
  refine (bzn (fun j => (n.1, n.2.1, n.2.2, (bst ltB (fun i => dLo n (l.getD i default)) j).1, (bst ltB (fun i => dLo n (l.getD i default)) j).2, (j : Int))) (n.1, n.2.1, n.2.2, (xze n l).1, (xze n l).2) l.length rfl (show l.length < 4294967296 by omega) (fun j hj => ?_) ?_).trans rfl
  · rw [az6 (by simpa using hj), az8 ⟨by simp, by simpa using hj⟩]
    have e1 : (kzs (l.getD j default) n.1 n.2.1 n.2.2).o = some (dLo n (l.getD j default), n.1, n.2.1, n.2.2) := by
      show (fzs (l.getD j default) n.1 n.2.1 n.2.2).run NN = _
      simp only [fzs, T.run, yzw (n := (n.1, n.2.1, n.2.2)) hn (pzc hl hj), Option.bind_some]
    have e2 : ∀ a b, (kzt a b).o = some (ltB a b) := fun a b => rfl
    simp only [Int.toNat_natCast, e1, e2, Option.bind_some]
    rw [wn (by omega)]
    simp only [azw, az7, bst]
    have e : ((j : Int) == 0) = decide (j = 0) := by rw [Bool.eq_iff_iff]; simp
    rw [e, czr]
    cases decide (j = 0) || ltB (dLo n (l.getD j default)) (bst ltB (fun i => dLo n (l.getD i default)) j).1 <;> rfl
  · rw [az5 (by simp)]; rfl
theorem xz5 : (mzm n.1 n.2.1 n.2.2 l).o = some ((xz9 n l).1, (xz9 n l).2, n.1, n.2.1, n.2.2) := by
  have hlen := dz2 hl
  show (gzq n.1 n.2.1 n.2.2 l).run NN = _
  simp only [gzq, T.run]
  refine (bzn (fun j => (n.1, n.2.1, n.2.2, (bst gtB (fun i => dHi n (l.getD i default)) j).1, (bst gtB (fun i => dHi n (l.getD i default)) j).2, (j : Int))) (n.1, n.2.1, n.2.2, (xz9 n l).1, (xz9 n l).2) l.length rfl (show l.length < 4294967296 by omega) (fun j hj => ?_) ?_).trans rfl
  · rw [az6 (by simpa using hj), az8 ⟨by simp, by simpa using hj⟩]
    have e1 : (nzd (l.getD j default) n.1 n.2.1 n.2.2).o = some (dHi n (l.getD j default), n.1, n.2.1, n.2.2) := by
      show (iz3 (l.getD j default) n.1 n.2.1 n.2.2).run NN = _
      simp only [iz3, T.run, yzw (n := (n.1, n.2.1, n.2.2)) hn (pzc hl hj), Option.bind_some]
    have e2 : ∀ a b, (nze a b).o = some (gtB a b) := fun a b => rfl
    simp only [Int.toNat_natCast, e1, e2, Option.bind_some]
    rw [wn (by omega)]
    simp only [azw, az7, bst]
    have e : ((j : Int) == 0) = decide (j = 0) := by rw [Bool.eq_iff_iff]; simp
    rw [e, czr]
    cases decide (j = 0) || gtB (dHi n (l.getD j default)) (bst gtB (fun i => dHi n (l.getD i default)) j).1 <;> rfl
  · rw [az5 (by simp)]; rfl
end
def Fz5 (n : V3) (l : List IV3) : Int × Int × Bool := bif bz0 n && bz4 l then ((xze n l).1, (xze n l).2, true) else (0, 0, false)
def Fz3 (n : V3) (l : List IV3) : Int × Int × Bool := bif bz0 n && bz4 l then ((xz9 n l).1, (xz9 n l).2, true) else (0, 0, false)
theorem Dzv (n : V3) (l : List IV3) : (uzi n l).o = some (Fz5 n l) := by
  show (mzg n l).run NN = _
  have e1 : (nzc (n.1, n.2.1, n.2.2)).o = some (n.1, n.2.1, n.2.2) := rfl
  simp only [mzg, T.run, dzr, czu, Option.bind_some, Fz5, e1]
  cases hn : bz0 n
  · rfl
  · cases hl : bz4 l
    · rfl
    · simp only [Bool.not_true, cond_false, az7, Bzd hn hl, Option.bind_some, Bool.and_self, cond_true]
theorem yzv (n : V3) (l : List IV3) : (nzb n l).o = some (Fz3 n l) := by
  show (iz2 n l).run NN = _
  have e1 : (sza (n.1, n.2.1, n.2.2)).o = some (n.1, n.2.1, n.2.2) := rfl
  simp only [iz2, T.run, dzr, czu, Option.bind_some, Fz3, e1]
  cases hn : bz0 n
  · rfl
  · cases hl : bz4 l
    · rfl
    · simp only [Bool.not_true, cond_false, az7, xz5 hn hl, Option.bind_some, Bool.and_self, cond_true]
theorem Hza (n : V3) (l : List IV3) : (xzw n l).o = some (Fz5 n l) := by
  show (qzo n l).run NN = _
  simp only [qzo, T.run, ezu, ezt, Option.bind_some, Fz5]
  cases hn : bz0 n
  · rfl
  · cases hl : bz4 l
    · rfl
    · have hlen := dz2 hl
      simp only [Bool.not_true, cond_false, az7, Bool.and_self, cond_true]
      refine (bzn (fun j => ((bst ltB (fun i => dLo n (l.getD i default)) j).1, (bst ltB (fun i => dLo n (l.getD i default)) j).2, (j : Int))) ((xze n l).1, (xze n l).2) l.length rfl (show l.length < 4294967296 by omega) (fun j hj => ?_) ?_).trans rfl
      · rw [az6 (by simpa using hj), az8 ⟨by simp, by simpa using hj⟩]
        simp only [Int.toNat_natCast, Dz9 hn (pzc hl hj), Option.bind_some]
        rw [wn (by omega)]
        simp only [azw, az7, bst]
        have e : ((j : Int) == 0) = decide (j = 0) := by rw [Bool.eq_iff_iff]; simp
        rw [e, czr]
        have hc : ∀ a b : Int, decide (a < b) = ltB a b := fun _ _ => rfl
        rw [hc]
        cases decide (j = 0) || ltB (dLo n (l.getD j default)) (bst ltB (fun i => dLo n (l.getD i default)) j).1 <;> rfl
      · rw [az5 (by simp)]; rfl
theorem Bzi (n : V3) (l : List IV3) : (sz3 n l).o = some (Fz3 n l) := by
  show (kzd n l).run NN = _
  simp only [kzd, T.run, ezu, ezt, Option.bind_some, Fz3]
  cases hn : bz0 n
  · rfl
  · cases hl : bz4 l
    · rfl
    · have hlen := dz2 hl
      simp only [Bool.not_true, cond_false, az7, Bool.and_self, cond_true]
      refine (bzn (fun j => ((bst gtB (fun i => dHi n (l.getD i default)) j).1, (bst gtB (fun i => dHi n (l.getD i default)) j).2, (j : Int))) ((xz9 n l).1, (xz9 n l).2) l.length rfl (show l.length < 4294967296 by omega) (fun j hj => ?_) ?_).trans rfl
      · rw [az6 (by simpa using hj), az8 ⟨by simp, by simpa using hj⟩]
        simp only [Int.toNat_natCast, Dz9 hn (pzc hl hj), Option.bind_some]
        rw [wn (by omega)]
        simp only [azw, az7, bst]
        have e : ((j : Int) == 0) = decide (j = 0) := by rw [Bool.eq_iff_iff]; simp
        rw [e, czr]
        have hc : ∀ a b : Int, decide (a > b) = gtB a b := fun _ _ => rfl
        rw [hc]
        cases decide (j = 0) || gtB (dHi n (l.getD j default)) (bst gtB (fun i => dHi n (l.getD i default)) j).1 <;> rfl
      · rw [az5 (by simp)]; rfl
def radV (r : Int) : Bool := decide (0 ≤ r) && decide (r ≤ 1048576)
noncomputable def Czt (n : V3) (a : List IV3) (ra : Int) (b : List IV3) (rb : Int) : Int :=
  IntKind.i64.wrap (IntKind.i64.wrap ((xze n a).1 - (xz9 n b).1) - IntKind.i64.wrap (Lz3 n * IntKind.i64.wrap (ra + rb)))
def Lzv (n : V3) (a : List IV3) (ra : Int) (b : List IV3) (rb : Int) : Bool := bz0 n && (bz4 a && (bz4 b && (radV ra && radV rb)))
noncomputable def sepV (n : V3) (a : List IV3) (ra : Int) (b : List IV3) (rb : Int) : Bool := Lzv n a ra b rb && decide (Czt n a ra b rb > 0)
theorem gz3 (r : Int) : (dzd r).o = some (radV r) := by
  show (gz2 r).run NN = _
  simp only [gz2, T.run, czf, kzp, radV, ge_iff_le]
theorem Ezl (n : V3) (a : List IV3) (ra : Int) (b : List IV3) (rb : Int) : (vzq n a ra b rb).o = some (bif Lzv n a ra b rb then (Czt n a ra b rb, true) else (0, false)) := by
  show (ozc n a ra b rb).run NN = _
  simp only [ozc, T.run, Hza, Bzi, gz3, tzl, Option.bind_some, Fz5, Fz3, Lzv, Czt]
  cases bz0 n <;> cases bz4 a <;> cases bz4 b <;> cases radV ra <;> cases radV rb <;> rfl
theorem zzs (n : V3) (a : List IV3) (ra : Int) (b : List IV3) (rb : Int) : (pze n a ra b rb).o = some (sepV n a ra b rb) := by
  show (izl n a ra b rb).run NN = _
  simp only [izl, T.run, Ezl, Option.bind_some, sepV]
  cases Lzv n a ra b rb <;> rfl
theorem Kz2 (x : dzs) : (uzf x).o = some (bz4 x.points && radV x.radius) := by
  show (uzg x).run NN = _
  simp only [uzg, T.run, czu, Option.bind_some, radV]
  cases bz4 x.points <;> cases decide (0 ≤ x.radius) <;> rfl
theorem zzq (n : V3) (a : List IV3) (ra : Int) (b : List IV3) (rb : Int) : (pzd n a ra b rb).o = some (sepV n a ra b rb) := by
  have e1 : (Azo a ra b rb).o = some ⟨⟨a, ra⟩, ⟨b, rb⟩⟩ := rfl
  have e2 : (wz1 ⟨⟨a, ra⟩, ⟨b, rb⟩⟩ n).o = some (bif Lzv n a ra b rb then (Czt n a ra b rb, true) else (0, false)) := by
    show (ozs ⟨⟨a, ra⟩, ⟨b, rb⟩⟩ n).run NN = _
    simp only [ozs, T.run, Kz2, Dzv, yzv, ozw, Option.bind_some, Fz5, Fz3, Lzv, Czt]
    cases bz0 n <;> cases bz4 a <;> cases bz4 b <;> cases radV ra <;> cases radV rb <;> rfl
  have e3 : (pzk ⟨⟨a, ra⟩, ⟨b, rb⟩⟩ n).o = some (sepV n a ra b rb) := by
    show (izw ⟨⟨a, ra⟩, ⟨b, rb⟩⟩ n).run NN = _
    simp only [izw, T.run, e2, Option.bind_some, sepV]
    cases Lzv n a ra b rb <;> rfl
  show (izk n a ra b rb).run NN = _
  simp only [izk, T.run, e1, e3, Option.bind_some]
theorem Lz8 {c : Nat → Nat → Bool} {L : List bzf} {i : Nat} {x : bzf} : ∀ {m : Nat}, x ∈ pin c L i m → x ∈ L ∨ ∃ k, k < m ∧ x = ⟨(i : Int), ((i + 1 + k : Nat) : Int)⟩
  | 0, h => Or.inl h
  | m + 1, h => by
    simp only [pin] at h
    split at h
    · rcases List.mem_append.1 h with h | h
      · rcases Lz8 h with h | ⟨k, h1, h2⟩
        · exact Or.inl h
        · exact Or.inr ⟨k, by omega, h2⟩
      · exact Or.inr ⟨m, by omega, List.mem_singleton.1 h⟩
    · rcases Lz8 h with h | ⟨k, h1, h2⟩
      · exact Or.inl h
      · exact Or.inr ⟨k, by omega, h2⟩
theorem Pzn {c : Nat → Nat → Bool} {n : Nat} {x : bzf} : ∀ {i : Nat}, i ≤ n → x ∈ pou c n i → 0 ≤ x.A ∧ x.A < (n : Int) ∧ 0 ≤ x.B ∧ x.B < (n : Int)
  | 0, _, h => by simp [pou, nl] at h
  | i + 1, hi, h => by
    simp only [pou] at h
    rcases Lz8 h with h | ⟨k, h1, h2⟩
    · exact Pzn (by omega) h
    · subst h2; simp only; omega
theorem Gzn {α : Type} [Inhabited α] {l : List α} {i : Nat} (h : i < l.length) : l.getD i default ∈ l := by
  rw [List.getD_eq_getElem?_getD, List.getElem?_eq_getElem h, Option.getD_some]; exact List.getElem_mem h
theorem Mzp {s : aza} (h : czp s = 0) {k : Nat} (hk : k < (bzj s).length) : (0 ≤ ((bzj s).getD k default).A ∧ ((bzj s).getD k default).A < (s.Shapes.length : Int)) ∧ (0 ≤ ((bzj s).getD k default).B ∧ ((bzj s).getD k default).B < (s.Shapes.length : Int)) := by
  have hm := Gzn hk
  generalize (bzj s).getD k default = x at hm ⊢
  unfold bzj at hm
  rw [if_pos h] at hm
  have := Pzn (Nat.le_refl _) hm
  omega
theorem xzr (s : aza) : (bzj s).length ≤ 576 := by
  unfold bzj
  split
  · rename_i h
    have h1 := (uzb h).len
    have h2 := Hz7 (jzl s) (n := s.Shapes.length) s.Shapes.length
    have h3 : s.Shapes.length * s.Shapes.length ≤ 24 * 24 := Nat.mul_le_mul h1 h1
    omega
  · simp [nl]
def pA (s : aza) (k : Nat) : Nat := ((bzj s).getD k default).A.toNat
def pB (s : aza) (k : Nat) : Nat := ((bzj s).getD k default).B.toNat
def fzi (s : aza) (i : Nat) : Int := (s.Shapes.getD i default).Radius
noncomputable def sepK (s : aza) (b : List az0) (ns : List V3) (k : Nat) : Bool := !sepV (ns.getD k default) (bz3 s b (pA s k)) (fzi s (pA s k)) (bz3 s b (pB s k)) (fzi s (pB s k))
noncomputable def Ozo (s : aza) (b : List az0) (ns : List V3) : Bool :=
  decide (czp s = 0) && (boxV s.Robot b && (decide (ns.length = (bzj s).length) && bzk (sepK s b ns) (bzj s).length))
theorem Dz7 {s : aza} {b : List az0} (h : czp s = 0) (hb : boxV s.Robot b = true) : qzk s b = tab (bz3 s b) s.Shapes.length := by unfold qzk; rw [if_pos ⟨h, hb⟩]
theorem Bzb (s : aza) (b : List az0) (hbl : b.length < 4294967296) : (rzo s b).o = some (if czp s = 0 ∧ boxV s.Robot b = true then (⟨s.Shapes, bzj s, qzk s b⟩, true) else (⟨nl, nl, nl⟩, false)) := by
  show (jzy s b).run NN = _
  simp only [jzy, T.run, iz0, Option.bind_some]
  by_cases h : czp s = 0
  · rw [cze h, az7]
    by_cases hl : b.length = s.Robot.Joints.length
    · rw [cze (by omega)]
      refine (fza (fun i => sw (notV b i) ((⟨nl, nl, nl⟩ : bzo), false)) b.length hbl (fun j hj => ?_) ?_).trans ?_
      · rw [az6 (by omega), az8 (by omega), wn (by omega), Int.toNat_natCast, ← dzl]
        simp only [bzs, Option.bind_some]; rfl
      · rw [az5 (by omega)]
      · rw [cz8]
        have : boxV s.Robot b = bzk (notV b) b.length := by unfold boxV; rw [decide_eq_true hl, Bool.true_and]
        rw [this]
        cases bzk (notV b) b.length
        · rw [if_neg (fun h => by cases h.2)]; rfl
        · rw [if_pos ⟨h, rfl⟩]
          simp only [sw, Bool.not_true, cond_false, Hzm, wzc s b hbl, Option.bind_some]
    · rw [dzv (by omega), if_neg]
      rintro ⟨-, hb⟩
      simp only [boxV, Bool.and_eq_true, decide_eq_true_eq] at hb
      exact hl hb.1
  · rw [dzv h, az7, if_neg (fun h' => h h'.1)]; rfl
noncomputable def Qz6 (s : aza) (b : List az0) (k : Nat) : azl := ⟨bz3 s b (pA s k), fzi s (pA s k)⟩
noncomputable def Qz7 (s : aza) (b : List az0) (k : Nat) : azl := ⟨bz3 s b (pB s k), fzi s (pB s k)⟩
theorem Hzf (s : aza) (b : List az0) (hbl : b.length < 4294967296) : (yz3 s b).o = some (if czp s = 0 ∧ boxV s.Robot b = true then (tab (Qz6 s b) (bzj s).length, tab (Qz7 s b) (bzj s).length, true) else (nl, nl, false)) := by
  have hpl := xzr s
  show (qzx s b).run NN = _
  simp only [qzx, T.run, fzk, qzm _ b hbl, Option.bind_some]
  by_cases h : czp s = 0
  · rw [cze h, az7]
    cases hb : boxV s.Robot b
    · rw [if_neg (fun h => by cases h.2)]; rfl
    · rw [if_pos ⟨h, rfl⟩]
      simp only [Bool.not_true, cond_false, Ezj s b hbl, Jzo, Option.bind_some, Dz7 h hb]
      refine (bzn (fun j => (tab (Qz6 s b) j, tab (Qz7 s b) j, (j : Int))) (tab (Qz6 s b) (bzj s).length, tab (Qz7 s b) (bzj s).length) (bzj s).length rfl (show (bzj s).length < 4294967296 by omega) (fun j hj => ?_) ?_).trans rfl
      · have hp := Mzp h hj
        rw [az6 (by simpa using hj), az8 ⟨by simp, by simpa using hj⟩, az8 ⟨by simp, by simpa using hj⟩]
        simp only [Int.toNat_natCast, bzv]
        rw [az8 hp.1, az8 hp.1, az8 ⟨by simp; omega, by simp [bz1]; omega⟩, az8 hp.2, az8 hp.2, az8 ⟨by simp; omega, by simp [bz1]; omega⟩, wn (by omega), kzn (by omega), kzn (by omega), iz4, iz4]; rfl
      · rw [az5 (by simp)]
  · rw [dzv h, az7, if_neg (fun h' => h h'.1)]; rfl
section
variable (s : aza) (p q : List Int) (l : List azh) (hp : p.length < 4294967296) (hq : q.length < 4294967296)
include hp hq
end
def inV (v : V3) : Prop := InR v.1 ∧ InR v.2.1 ∧ InR v.2.2
theorem Nzi (a : az0) : (uzp a).o = some (midV a) := by
  show (zzy a).run NN = _
  simp only [zzy, T.run, eze, Option.bind_some, midV]
  cases h : vV a
  · rfl
  · simp only [vV_iff] at h
    rw [w64 (by omega) (by omega), cz6 ⟨by omega, by omega⟩ (by decide)]; rfl
def cenF (l : List IV3) (i : Nat) : V3 := (midV (l.getD i default).1, midV (l.getD i default).2.1, midV (l.getD i default).2.2)
def cenV (l : List IV3) : List V3 := if bz4 l then tab (cenF l) l.length else nl
theorem hzi (l : List IV3) : (czh l).o = some (cenV l) := by
  show (lzv l).run NN = _
  simp only [lzv, T.run, T.ix, ezt, Option.bind_some, cenV]
  cases h : bz4 l
  · rfl
  · have hl := dz2 h
    simp only [Bool.not_true, cond_false, if_true]
    refine (bzn (fun j => (tab (cenF l) j, (j : Int))) (tab (cenF l) l.length) l.length rfl (show l.length < 4294967296 by omega) (fun j hj => ?_) ?_).trans rfl
    · rw [az6 (by simpa using hj), az8 ⟨by simp, by simpa using hj⟩]
      simp only [Nzi, Option.bind_some]
      rw [az8 ⟨by simp, by simpa using hj⟩, az8 ⟨by simp, by simpa using hj⟩, az8 ⟨by simp [bzv]; omega, by simp [bzv, bz1]; omega⟩, wn (by omega), iz4]; rfl
    · rw [az5 (by simp)]
theorem Mzc {l : List IV3} (h : bz4 l = true) : (cenV l).length = l.length := by unfold cenV; rw [if_pos h, bzv]
theorem pzl {a : Int} (ha : InR a) : -16384 ≤ a.tdiv 562949953421312 ∧ a.tdiv 562949953421312 ≤ 16384 := by
  obtain ⟨h1, h2⟩ := ha
  have e := Int.mul_tdiv_add_tmod a 562949953421312
  have l1 := Int.tmod_lt_of_pos a (show (0 : Int) < 562949953421312 by decide)
  have l2 := Int.lt_tmod_of_pos a (show (0 : Int) < 562949953421312 by decide)
  omega
theorem vzn {v : V3} (h : inV v) : ∃ n ok, (ezs v).o = some (n, ok) ∧ inV n := by
  have e0 : (ezs v).o = (fzz v).run NN := rfl
  rw [e0]
  simp only [fzz, T.run, T.ix]
  cases (v.1 == 0) && ((v.2.1 == 0) && ((v.2.2 == 0) && true))
  · simp only [cond_false]
    have key : ∀ (m k N : Nat), k + m = 49 → m < N → ∃ n ok, andK (iter (fun (x6 : Int) => (grd (x6 ≠ 0) (grd (x6 ≠ 0) (grd (x6 ≠ 0) ((dzy ((IntKind.i64.wrap (v.1.tdiv x6)), (IntKind.i64.wrap (v.2.1.tdiv x6)), (IntKind.i64.wrap (v.2.2.tdiv x6))) 16384).o.bind fun y15 =>
        bif y15 then some (.fin (((IntKind.i64.wrap (v.1.tdiv x6)), (IntKind.i64.wrap (v.2.1.tdiv x6)), (IntKind.i64.wrap (v.2.2.tdiv x6))), true)) else some (.next (IntKind.i64.wrap (x6 * 2)))))) : Option (Step3 Int U0 (V3 × Bool)))) N (2 ^ k)) (fun _ => none) = some (n, ok) ∧ inV n := by
      intro m
      induction m with
      | zero =>
        intro k N hk hN
        obtain ⟨M, rfl⟩ : ∃ M, N = M + 1 := ⟨N - 1, by omega⟩
        obtain rfl : k = 49 := by omega
        have e : (2 : Int) ^ 49 = 562949953421312 := by decide
        have t1 := pzl h.1; have t2 := pzl h.2.1; have t3 := pzl h.2.2
        simp only [iter, e]
        rw [az8 (by decide), az8 (by decide), az8 (by decide), w64 (x := v.1.tdiv _) (by omega) (by omega), w64 (x := v.2.1.tdiv _) (by omega) (by omega), w64 (x := v.2.2.tdiv _) (by omega) (by omega), ezi _ (by decide) (by decide), Option.bind_some,
          show fz6 (v.1.tdiv 562949953421312, v.2.1.tdiv 562949953421312, v.2.2.tdiv 562949953421312) 16384 = true from nearV_iff.2 ⟨t1, t2, t3⟩]
        exact ⟨_, _, rfl, ⟨by simp only; omega, by simp only; omega⟩, ⟨by simp only; omega, by simp only; omega⟩, ⟨by simp only; omega, by simp only; omega⟩⟩
      | succ m ih =>
        intro k N hk hN
        obtain ⟨M, rfl⟩ : ∃ M, N = M + 1 := ⟨N - 1, by omega⟩
        have hp := bzw k
        have hp2 : (2 : Int) ^ k ≤ 562949953421312 := by
          have : (2 : Int) ^ k ≤ 2 ^ 49 := by exact_mod_cast Nat.pow_le_pow_right (by decide : 0 < 2) (show k ≤ 49 by omega)
          have e : (2 : Int) ^ 49 = 562949953421312 := by decide
          omega
        simp only [iter]
        rw [az8 (by omega), az8 (by omega), az8 (by omega), ezi _ (by decide) (by decide), Option.bind_some]
        cases fz6 (IntKind.i64.wrap (v.1.tdiv (2 ^ k)), IntKind.i64.wrap (v.2.1.tdiv (2 ^ k)), IntKind.i64.wrap (v.2.2.tdiv (2 ^ k))) 16384
        · simp only [cond_false]
          rw [w64 (x := 2 ^ k * 2) (by omega) (by omega), ← Int.pow_succ]
          exact ih (k + 1) M (by omega) (by omega)
        · exact ⟨_, _, rfl, InR.wr _, InR.wr _, InR.wr _⟩
    exact key 49 0 NN rfl (by decide)
  · exact ⟨_, _, rfl, h⟩
def farN (l : List V3) (i : Nat) : Bool := !fz6 (l.getD i default) 268435456
def fewV (l : List V3) : Bool := decide (1 ≤ l.length ∧ l.length ≤ 8) && bzk (farN l) l.length
theorem zzb {l : List V3} (h : fewV l = true) : 1 ≤ l.length ∧ l.length ≤ 8 := by
  simp only [fewV, Bool.and_eq_true, decide_eq_true_eq] at h; exact h.1
theorem Dza (l : List V3) : (wzh l).o = some (fewV l) := by
  show (wzi l).run NN = _
  simp only [wzi, T.run, azw, az7, ezi _ (show (0 : Int) ≤ 268435456 by decide) (by decide), Option.bind_some]
  refine (fza (fun i => sw (farN l i) false) (min l.length 9) (by omega) (fun j hj => ?_) ?_).trans ?_
  · have e : (bif decide ((j : Int) < (l.length : Int)) then decide ((j : Int) ≤ 8) else false) = true := by rw [az6 (by omega), decide_eq_true (p := (j : Int) ≤ 8) (by omega)]
    rw [e, cond_true, az8 (by omega), wn (by omega), Int.toNat_natCast, ← dzl]; rfl
  · have e : (bif decide (((min l.length 9 : Nat) : Int) < (l.length : Int)) then decide (((min l.length 9 : Nat) : Int) ≤ 8) else false) = false := by
      by_cases hl : l.length ≤ 8
      · rw [az5 (by omega)]
      · by_cases h9 : ((min l.length 9 : Nat) : Int) < (l.length : Int)
        · rw [az6 h9, decide_eq_false (p := ((min l.length 9 : Nat) : Int) ≤ 8) (by omega)]
        · rw [az5 h9]
    rw [e, cond_false]
  · rw [cz8]
    unfold fewV
    by_cases h : 1 ≤ l.length ∧ l.length ≤ 8
    · rw [decide_eq_true h, Nat.min_eq_left (by omega), Bool.true_and]
      cases bzk (farN l) l.length
      · rfl
      · show (bif decide ((l.length : Int) ≥ 1) then _ else _) = _
        rw [az6 (by omega), decide_eq_true (p := (l.length : Int) ≤ 8) (by omega)]
    · rw [decide_eq_false h, Bool.false_and]
      cases bzk (farN l) (min l.length 9)
      · rfl
      · show (bif decide ((l.length : Int) ≥ 1) then _ else _) = _
        by_cases h1 : (l.length : Int) ≥ 1
        · rw [az6 h1, decide_eq_false (p := (l.length : Int) ≤ 8) (by omega)]
        · rw [az5 h1]
theorem jz7 {σ τ R β : Type} {f : σ → Option (Step3 σ τ R)} {k : τ → Option R} {g : β → R} {P : β → Prop} {x : σ} (n : Nat) (hn : n < 4294967296) (I : Nat → σ → Prop) (Q : τ → Prop) (h0 : I 0 x)
    (hs : ∀ j y, j < n → I j y → ∃ y', f y = some (.next y') ∧ I (j + 1) y') (he : ∀ y, I n y → ∃ z, f y = some (.out z) ∧ Q z) (hk : ∀ z, Q z → ∃ b, k z = some (g b) ∧ P b) : ∃ b, andK (iter f NN x) k = some (g b) ∧ P b := by
  have key : ∀ (m j N : Nat) (y : σ), j + m = n → m < N → I j y → ∃ z, iter f N y = some (.inl z) ∧ Q z := by
    intro m
    induction m with
    | zero =>
      intro j N y hj hN hI
      obtain ⟨M, rfl⟩ : ∃ M, N = M + 1 := ⟨N - 1, by omega⟩
      obtain rfl : j = n := by omega
      obtain ⟨z, h1, h2⟩ := he y hI
      exact ⟨z, by simp [iter, h1], h2⟩
    | succ m ih =>
      intro j N y hj hN hI
      obtain ⟨M, rfl⟩ : ∃ M, N = M + 1 := ⟨N - 1, by omega⟩
      obtain ⟨y', h1, h2⟩ := hs j y (by omega) hI
      simp only [iter, h1]
      exact ih (j + 1) M y' (by omega) (by omega) h2
  obtain ⟨z, h1, h2⟩ := key n 0 NN x (by omega) hn h0
  obtain ⟨b, h3, h4⟩ := hk z h2
  exact ⟨b, by rw [h1]; exact h3, h4⟩
theorem qzv (l : List V3) (w : List Int) (h : w.length = l.length) (hl : l.length < 4294967296) : ∃ v, (mz0 l w).o = some v ∧ True := by
  have e0 : (mz0 l w).o = (mz1 l w).run NN := rfl
  rw [e0]
  simp only [mz1, T.run, T.ix]
  refine jz7 (g := fun b => b) l.length hl (fun j (y : Int × Int × Int × Int) => y.2.2.2 = (j : Int)) (fun (_ : V3) => True) rfl (fun j y hj hy => ?_) (fun y hy => ?_) (fun z _ => ⟨_, rfl, trivial⟩)
  · rw [hy, az6 (by omega), az8 ⟨by omega, by omega⟩, az8 ⟨by omega, by omega⟩, az8 ⟨by omega, by omega⟩, az8 ⟨by omega, by omega⟩, az8 ⟨by omega, by omega⟩, az8 ⟨by omega, by omega⟩, wn (by omega)]
    exact ⟨_, rfl, rfl⟩
  · rw [hy, az5 (by omega)]; exact ⟨_, rfl, trivial⟩
theorem qzw (a b : V3) : ∃ v, (hzq a b).o = some v ∧ inV v := ⟨_, rfl, InR.wr _, InR.wr _, InR.wr _⟩
theorem izm (a b : V3) : ∃ v, (fz8 a b).o = some v := ⟨_, rfl⟩
theorem InR.max {a b : Int} (ha : InR a) (hb : InR b) : InR (max a b) := by
  obtain ⟨h1, h2⟩ := ha; obtain ⟨h3, h4⟩ := hb; exact ⟨by omega, by omega⟩
theorem Jzl {v : V3} (h : inV v) (r : Int) : ∃ b, (nz4 v r).o = some b := by
  have e0 : (nz4 v r).o = (jzp v r).run NN := rfl
  rw [e0]
  simp only [jzp, T.run, T.ix, bz8 (h.1.max (InR.wr _)) (show (0 : Int) < 65536 by decide), bz8 (h.2.1.max (InR.wr _)) (show (0 : Int) < 65536 by decide), bz8 (h.2.2.max (InR.wr _)) (show (0 : Int) < 65536 by decide), Option.bind_some]
  exact ⟨_, rfl⟩
theorem tzn (n : V3) (l : List V3) (sg : Int) (h0 : 1 ≤ l.length) (hl : l.length < 4294967296) : ∃ i : Int, (dzj n l sg).o = some i ∧ 0 ≤ i ∧ i < (l.length : Int) := by
  have e0 : (dzj n l sg).o = (fz7 n l sg).run NN := rfl
  rw [e0]
  simp only [fz7, T.run]
  refine jz7 (g := fun b => b) (l.length - 1) (by omega) (fun j (y : Int × Int) => y.2 = ((j + 1 : Nat) : Int) ∧ 0 ≤ y.1 ∧ y.1 < (l.length : Int)) (fun (z : Int) => 0 ≤ z ∧ z < (l.length : Int)) ⟨rfl, by simp, by simp; omega⟩ (fun j y hj hy => ?_) (fun y hy => ?_) (fun z hz => ⟨_, rfl, hz⟩)
  · obtain ⟨h1, h2, h3⟩ := hy
    obtain ⟨d1, e1⟩ := izm n (l.getD y.2.toNat default)
    obtain ⟨d2, e2⟩ := izm n (l.getD y.1.toNat default)
    rw [e1, e2, Option.bind_some, Option.bind_some, h1, az6 (by omega), az8 ⟨by omega, by omega⟩, az8 ⟨by omega, by omega⟩, wn (by omega)]
    cases decide (IntKind.i64.wrap (sg * d1) < IntKind.i64.wrap (sg * d2))
    · exact ⟨_, rfl, rfl, h2, h3⟩
    · exact ⟨_, rfl, rfl, by simp only; omega, by simp only; omega⟩
  · obtain ⟨h1, h2, h3⟩ := hy
    rw [h1, az5 (by omega)]; exact ⟨_, rfl, h2, h3⟩
theorem lz3 (w : List Int) (t i : Int) (hl : w.length < 4294967296) (h0 : 0 ≤ i) (h1 : i < (w.length : Int)) : ∃ u, (hzo w t i).o = some u ∧ u.length = w.length := by
  have e0 : (hzo w t i).o = (hzp w t i).run NN := rfl
  rw [e0]
  simp only [hzp, T.run]
  rw [az8 ⟨by omega, by rw [bz1]; omega⟩]
  refine jz7 (g := fun b => b) w.length hl (fun j (y : List Int × Int × Int) => y.2.2 = (j : Int) ∧ y.1.length = w.length) (fun (z : List Int × Int) => z.1.length = w.length) ⟨rfl, rfl⟩ (fun j y hj hy => ?_) (fun y hy => ?_) (fun z hz => ?_)
  · obtain ⟨a1, a2⟩ := hy
    rw [a1, az6 (by omega), az8 ⟨by omega, by omega⟩, Int.toNat_natCast, az8 (by omega), az8 ⟨by omega, by omega⟩, az8 (by omega), az8 ⟨by omega, by omega⟩, az8 ⟨by omega, by omega⟩, wn (by omega)]
    exact ⟨_, rfl, rfl, by simp only [List.length_set]; exact a2⟩
  · obtain ⟨a1, a2⟩ := hy
    rw [a1, az5 (by omega)]; exact ⟨_, rfl, a2⟩
  · rw [az8 ⟨by omega, by omega⟩, az8 (by omega), az8 ⟨by omega, by omega⟩, az8 ⟨by omega, by omega⟩]
    exact ⟨_, rfl, by rw [List.length_set]; exact hz⟩
def SO (x : cz4) : Prop := inV x.Normal ∧ x.Left.length ≤ 8 ∧ x.Right.length ≤ 8
theorem Lzu {f : Int × Int × Int × List Int × List Int × Int → Option (Step3 (Int × Int × Int × List Int × List Int × Int) U0 cz4)} {k : U0 → Option cz4} {y : Int × Int × Int × List Int × List Int × Int} (I : Int × Int × Int × List Int × List Int × Int → Prop)
    (hr : ∀ y, I y → (∃ y', f y = some (.next y') ∧ I y' ∧ y'.2.2.2.2.2 = y.2.2.2.2.2 + 1) ∨ ∃ r, f y = some (.fin r) ∧ SO r) (hI : ∀ y, I y → y.2.2.2.2.2 ≤ 65) (m : Nat) (h1 : I y) (h2 : y.2.2.2.2.2 + m ≥ 66) (h3 : m < NN) : ∃ r, andK (iter f NN y) k = some r ∧ SO r := by
  have key : ∀ (m N : Nat) y, I y → y.2.2.2.2.2 + m ≥ 66 → m < N → ∃ r, iter f N y = some (.inr r) ∧ SO r := by
    intro m
    induction m with
    | zero => intro N y h1 h2; have := hI y h1; omega
    | succ m ih =>
      intro N y h1 h2 h3
      obtain ⟨M, rfl⟩ : ∃ M, N = M + 1 := ⟨N - 1, by omega⟩
      rcases hr y h1 with ⟨y', e1, e2, e3⟩ | ⟨r, e1, e2⟩
      · simp only [iter, e1]; exact ih M y' e2 (by omega) (by omega)
      · exact ⟨r, by simp [iter, e1], e2⟩
  obtain ⟨r, e1, e2⟩ := key m NN y h1 h2 h3
  exact ⟨r, by rw [e1]; rfl, e2⟩
theorem Ezm (a b : List V3) (rho steps : Int) : ∃ x, (dzc a b rho steps).o = some x ∧ SO x := by
  have z0 : inV ((0, 0, 0) : V3) := ⟨⟨by decide, by decide⟩, ⟨by decide, by decide⟩, ⟨by decide, by decide⟩⟩
  have e0 : (dzc a b rho steps).o = (gz1 a b rho steps).run NN := rfl
  rw [e0]
  simp only [gz1, T.run, T.ix, Dza, Option.bind_some, azw, az7]
  cases ha : fewV a
  · exact ⟨_, rfl, z0, by simp [nl], by simp [nl]⟩
  · cases hb : fewV b
    · exact ⟨_, rfl, z0, by simp [nl], by simp [nl]⟩
    · have la := zzb ha
      have lb := zzb hb
      simp only [Bool.not_true, cond_false, czr]
      cases hc : decide (rho < 0) || (decide (rho > 2097152) || (decide (steps < 0) || decide (steps > 64)))
      · simp only [Bool.or_eq_false_iff, decide_eq_false_iff_not] at hc
        simp only [cond_false, Int.toNat_natCast, List.length_replicate]
        rw [az8 ⟨by omega, by omega, by omega, by omega⟩, az8 ⟨by omega, by omega, by omega, by omega⟩, az8 ⟨by omega, by omega⟩, az8 ⟨by simp; omega, by omega⟩, az8 ⟨by omega, by omega⟩, az8 ⟨by simp; omega, by omega⟩]
        refine Lzu (fun y => inV (y.1, y.2.1, y.2.2.1) ∧ y.2.2.2.1.length = a.length ∧ y.2.2.2.2.1.length = b.length ∧ 0 ≤ y.2.2.2.2.2 ∧ y.2.2.2.2.2 ≤ steps) (fun y hy => ?_) (fun y hy => by have := hy.2.2.2.2; omega) 66 ⟨z0, by simp, by simp, by simp, by simp; omega⟩ (by simp) (by decide)
        obtain ⟨i1, i2, i3, i4, i5⟩ := hy
        obtain ⟨s1, es1, -⟩ := qzv a y.2.2.2.1 i2 (by omega)
        obtain ⟨s2, es2, -⟩ := qzv b y.2.2.2.2.1 i3 (by omega)
        obtain ⟨w, ew, hw⟩ := qzw s1 s2
        obtain ⟨nb, en⟩ := Jzl hw rho
        rw [es1, Option.bind_some, es2, Option.bind_some, ew, Option.bind_some, en, Option.bind_some]
        cases nb
        · simp only [cond_false]
          obtain ⟨n, ok, eN, hN⟩ := vzn (v := (IntKind.i64.wrap (w.1.tdiv 65536), IntKind.i64.wrap (w.2.1.tdiv 65536), IntKind.i64.wrap (w.2.2.tdiv 65536))) ⟨InR.wr _, InR.wr _, InR.wr _⟩
          rw [eN, Option.bind_some]
          cases ok
          · right; exact ⟨_, rfl, hN, by simp only; omega, by simp only; omega⟩
          · obtain ⟨i, ei, i0, il⟩ := tzn n a 1 la.1 (by omega)
            obtain ⟨j, ej, j0, jl⟩ := tzn n b (-1) lb.1 (by omega)
            obtain ⟨d1, ed1⟩ := izm n (a.getD i.toNat default)
            obtain ⟨d2, ed2⟩ := izm n (b.getD j.toNat default)
            obtain ⟨mm, em, hm⟩ := qzw (a.getD i.toNat default) (b.getD j.toNat default)
            obtain ⟨ee, eE, he⟩ := qzw (IntKind.i64.wrap (w.1.tdiv 65536), IntKind.i64.wrap (w.2.1.tdiv 65536), IntKind.i64.wrap (w.2.2.tdiv 65536)) mm
            obtain ⟨u, eu⟩ := izm (IntKind.i64.wrap (w.1.tdiv 65536), IntKind.i64.wrap (w.2.1.tdiv 65536), IntKind.i64.wrap (w.2.2.tdiv 65536)) ee
            obtain ⟨v, ev⟩ := izm ee ee
            obtain ⟨nv, env⟩ : ∃ nv, (nz1 n).o = some nv := ⟨_, tzl n⟩
            simp only [Bool.not_true, cond_false]
            rw [ei, Option.bind_some, ej, Option.bind_some, az8 ⟨i0, il⟩, ed1, Option.bind_some, az8 ⟨j0, jl⟩, ed2, Option.bind_some, env, Option.bind_some]
            cases decide (IntKind.i64.wrap (d1 - d2) > IntKind.i64.wrap (nv * rho))
            · simp only [cond_false]
              rw [az8 ⟨i0, il⟩, az8 ⟨j0, jl⟩, em, Option.bind_some, eE, Option.bind_some, eu, Option.bind_some, ev, Option.bind_some]
              cases hs : decide (y.2.2.2.2.2 ≥ steps) || decide (u ≤ 0)
              · simp only [Bool.or_eq_false_iff, decide_eq_false_iff_not] at hs
                simp only [cond_false]
                have hmx : max 1 (IntKind.i64.wrap (v.tdiv 256)) ≠ 0 := by omega
                rw [az8 hmx]
                generalize min 256 (IntKind.i64.wrap (u.tdiv (max 1 (IntKind.i64.wrap (v.tdiv 256))))) = t
                cases t == 0
                · simp only [cond_false]
                  obtain ⟨m1, em1, lm1⟩ := lz3 y.2.2.2.1 t i (by omega) i0 (by omega)
                  obtain ⟨m2, em2, lm2⟩ := lz3 y.2.2.2.2.1 t j (by omega) j0 (by omega)
                  left
                  rw [em1, Option.bind_some, em2, Option.bind_some, w64 (x := y.2.2.2.2.2 + 1) (by omega) (by omega)]
                  exact ⟨_, rfl, ⟨hN, by simp only; omega, by simp only; omega, by simp only; omega, by simp only; omega⟩, rfl⟩
                · right; exact ⟨_, rfl, hN, by simp only; omega, by simp only; omega⟩
              · right; exact ⟨_, rfl, hN, by simp only; omega, by simp only; omega⟩
            · right; exact ⟨_, rfl, hN, by simp only; omega, by simp only; omega⟩
        · right; exact ⟨_, rfl, i1, by simp only; omega, by simp only; omega⟩
      · exact ⟨_, rfl, z0, by simp [nl], by simp [nl]⟩
noncomputable def firB (l : List V3) (a : List IV3) (ra : Int) (b : List IV3) (rb : Int) (i : Nat) : Bool := sepV (l.getD i default) a ra b rb
theorem Hzd (l : List V3) (a : List IV3) (ra : Int) (b : List IV3) (rb : Int) (hl : l.length < 4294967296) : (yz2 l a ra b rb).o = some ((scan (fun i => sw (firB l a ra b rb i) ((i : Int), true)) l.length 0).getD (0, false)) := by
  show (qzu l a ra b rb).run NN = _
  simp only [qzu, T.run, zzs, Option.bind_some]
  refine (fza (fun i => sw (firB l a ra b rb i) ((i : Int), true)) l.length hl (fun j hj => ?_) ?_).trans ?_
  · rw [az6 (by omega), az8 (by omega), wn (by omega), Int.toNat_natCast, ← dzl]; rfl
  · rw [az5 (by omega)]
  · cases scan (fun i => sw (firB l a ra b rb i) ((i : Int), true)) l.length 0 <;> rfl
theorem Azt (a : Int) : (fz9 a).o = some (max a (IntKind.i64.wrap (0 - a))) := rfl
theorem ize {σ τ R : Type} {f : σ → Option (Step3 σ τ R)} {k : τ → Option R} {P : R → Prop} {x : σ} (I : Nat → σ → Prop) (Q : τ → Prop) (m : Nat) (h0 : I m x) (hN : m < 4294967296)
    (hr : ∀ m x, I m x → (∃ x' m', f x = some (.next x') ∧ m' < m ∧ I m' x') ∨ (∃ y, f x = some (.out y) ∧ Q y) ∨ ∃ r, f x = some (.fin r) ∧ P r) (hk : ∀ y, Q y → ∃ r, k y = some r ∧ P r) : ∃ r, andK (iter f NN x) k = some r ∧ P r := by
  have go : ∀ (N m : Nat) (x : σ), I m x → m < N → (∃ y, iter f N x = some (.inl y) ∧ Q y) ∨ ∃ r, iter f N x = some (.inr r) ∧ P r := by
    intro N
    induction N with
    | zero => intro m x _ h; omega
    | succ N ih =>
      intro m x hi h
      rcases hr m x hi with ⟨x', m', h1, h2, h3⟩ | ⟨y, h1, h2⟩ | ⟨r, h1, h2⟩
      · simp only [iter, h1]; exact ih m' x' h3 (by omega)
      · exact .inl ⟨y, by simp [iter, h1], h2⟩
      · exact .inr ⟨r, by simp [iter, h1], h2⟩
  rcases go NN m x h0 hN with ⟨y, e1, e2⟩ | ⟨r, e1, e2⟩
  · rw [Fzs e1]; exact hk y e2
  · rw [Qzl e1]; exact ⟨r, rfl, e2⟩
theorem Azj {x k : Int} (hk : 0 < k) (hk2 : k ≤ 4611686018427387904) : (mzt x k).o = some (x % k) := by
  show (tz5 x k).run NN = _
  have h2 := Int.tmod_lt_of_pos x hk
  have h3 := Int.lt_tmod_of_pos x hk
  have h1 := Int.mul_tdiv_add_tmod x k
  have e := Int.emod_add_mul_ediv x k
  have e2 := Int.emod_nonneg x (show k ≠ 0 by omega)
  have e3 := Int.emod_lt_of_pos x hk
  simp only [tz5, T.run]
  rw [az8 (by omega)]
  by_cases h : x.tmod k < 0
  · rw [az6 h, az7, w64 (by omega) (by omega)]
    congr 1
    have : x % k = x.tmod k + k := by
      have := pz4 (a := x) (b := k) (q := x.tdiv k - 1) (r := x.tmod k + k) (by omega) (by omega) (by rw [Int.mul_sub]; omega)
      rw [this, Int.mul_sub] at e; omega
    omega
  · rw [az5 h, az7]
    congr 1
    have := pz4 (a := x) (b := k) (q := x.tdiv k) (r := x.tmod k) (by omega) (by omega) (by omega)
    rw [this] at e; omega
section
variable {l : List Int} (hl : l.length < 4294967296) {n : Int} (h0 : 0 ≤ n) (h1 : n ≤ (l.length : Int))
include hl h0 h1
theorem azt {k : Int} (hk : 0 < k) (hk2 : k ≤ 4611686018427387904) : ∃ r n', (azf l n k).o = some (r, l, n') ∧ 0 ≤ r ∧ r < k ∧ 0 ≤ n' ∧ n' ≤ (l.length : Int) := by
  have e0 : (azf l n k).o = (pzp l n k).run NN := rfl
  rw [e0]
  simp only [pzp, T.run]
  by_cases h : n ≥ (l.length : Int)
  · rw [az6 h]; exact ⟨_, _, rfl, by omega, by omega, h0, h1⟩
  · rw [az5 h, w64 (x := n + 1) (by omega) (by omega), w64 (by omega) (by omega), az8 ⟨by omega, by omega⟩, Azj hk hk2, Option.bind_some]
    exact ⟨_, _, rfl, Int.emod_nonneg _ (by omega), Int.emod_lt_of_pos _ hk, by omega, by omega⟩
theorem bzy {k : Int} (hk : 0 ≤ k) (hk2 : k ≤ 1000000) : ∃ r n', (bzb l n k).o = some (r, l, n') ∧ -k ≤ r ∧ r ≤ k ∧ 0 ≤ n' ∧ n' ≤ (l.length : Int) := by
  have e0 : (bzb l n k).o = (lzb l n k).run NN := rfl
  rw [e0]
  simp only [lzb, T.run]
  rw [w64 (x := 2 * k) (by omega) (by omega), w64 (x := 2 * k + 1) (by omega) (by omega)]
  obtain ⟨r, n', e1, e2, e3, e4, e5⟩ := azt hl h0 h1 (k := 2 * k + 1) (by omega) (by omega)
  rw [e1, Option.bind_some, w64 (by omega) (by omega)]
  exact ⟨_, _, rfl, by omega, by omega, e4, e5⟩
def JB (j : azi) : Prop := -1048576 ≤ j.Lo ∧ j.Lo ≤ j.Hi ∧ j.Hi ≤ 1048576
theorem Jz2 {i : Int} (i0 : 0 ≤ i) (i1 : i ≤ 2) : ∃ j n', (tz8 l n i).o = some (j, l, n') ∧ JB j ∧ 0 ≤ n' ∧ n' ≤ (l.length : Int) := by
  have e0 : (tz8 l n i).o = (tz9 l n i).run NN := rfl
  rw [e0]
  simp only [tz9, T.run]
  have el : ∃ b, (qzf i).o = some b := by
    have e1 : (qzf i).o = (qzg i).run NN := rfl
    rw [e1]
    simp only [qzg, T.run]
    rw [w64 (x := i + 1) (by omega) (by omega), az8 ⟨by omega, by omega, by rw [show ((⟨#[97, 98, 99, 100, 101, 102, 103, 104, 105, 106]⟩ : ByteArray).size) = 10 from rfl]; omega⟩]
    exact ⟨_, rfl⟩
  obtain ⟨nm, el⟩ := el
  obtain ⟨r1, n1, e1, a1, b1, c1, d1⟩ := azt hl h0 h1 (k := 4) (by decide) (by decide)
  obtain ⟨r2, n2, e2, a2, b2, c2, d2⟩ := azt hl c1 d1 (k := 3) (by decide) (by decide)
  obtain ⟨r3, n3, e3, a3, b3, c3, d3⟩ := azt hl c2 d2 (k := 8) (by decide) (by decide)
  obtain ⟨r4, n4, e4, a4, b4, c4, d4⟩ := azt hl c3 d3 (k := 4) (by decide) (by decide)
  rw [el, Option.bind_some, e1, Option.bind_some, e2, Option.bind_some, e3, Option.bind_some, az8 ⟨by simp only; omega, by simp only; omega⟩, e4, Option.bind_some]
  generalize hK : ([3, 3, 1, 2, 4, 5, 3, 0] : List Int).getD r3.toNat 0 = K
  have rest : ∀ (m pr : Int), 0 ≤ m → m ≤ (l.length : Int) → ∃ j n', (andC (bif decide (i > 0) then (bzb l m 2).o.bind fun y21 => (bzb y21.2.1 y21.2.2 1).o.bind fun y22 => some (.out (y22.2.1, y22.2.2, 131072, IntKind.i64.wrap (y21.1 * 32768), IntKind.i64.wrap (y22.1 * 32768))) else some (.out (l, m, 0, 0, 0)) : Option (Step3 Unit (List Int × Int × Int × Int × Int) (azi × List Int × Int))) fun y20 =>
      andC (bif K == 0 then some (.out (y20.1, y20.2.1, 0, 0)) else andC (bif K == 4 then some (.out (K == 4)) else some (.out (K == 5)) : Option (Step3 Unit Bool (Step3 Unit (List Int × Int × Int × Int) (azi × List Int × Int)))) fun y36 =>
        bif y36 then (azf y20.1 y20.2.1 3).o.bind fun y37 => (azf y37.2.1 y37.2.2 4).o.bind fun y38 => some (.out (y38.2.1, y38.2.2, IntKind.i64.wrap (IntKind.i64.wrap (0 - y37.1) * 65536), IntKind.i64.wrap (y38.1 * 32768)))
        else (azf y20.1 y20.2.1 5).o.bind fun y39 => (azf y39.2.1 y39.2.2 4).o.bind fun y40 => (azf y40.2.1 y40.2.2 3).o.bind fun y41 =>
          some (.out (y41.2.1, y41.2.2, IntKind.i64.wrap ((IntKind.i64.wrap (IntKind.i64.wrap (0 - y39.1) * 65536)).tdiv 8), IntKind.i64.wrap (IntKind.i64.wrap ((IntKind.i64.wrap (IntKind.i64.wrap (1 + y40.1) * 65536)).tdiv 8) + y41.1))) : Option (Step3 Unit (List Int × Int × Int × Int) (azi × List Int × Int))) fun y35 =>
      some ((⟨nm, K, pr, (y20.2.2.1, y20.2.2.2.1, y20.2.2.2.2), y35.2.2.1, y35.2.2.2, IntKind.i64.wrap (1 + r1), 65536, IntKind.i64.wrap (65536 + r2), 327680⟩ : azi), y35.1, y35.2.1)) = some (j, l, n') ∧ JB j ∧ 0 ≤ n' ∧ n' ≤ (l.length : Int) := by
    intro m pr m0 m1
    have lim : ∀ (m : Int) (o1 o2 o3 : Int), 0 ≤ m → m ≤ (l.length : Int) → ∃ j n', (andC (bif K == 0 then some (.out (l, m, 0, 0)) else andC (bif K == 4 then some (.out (K == 4)) else some (.out (K == 5)) : Option (Step3 Unit Bool (Step3 Unit (List Int × Int × Int × Int) (azi × List Int × Int)))) fun y36 =>
        bif y36 then (azf l m 3).o.bind fun y37 => (azf y37.2.1 y37.2.2 4).o.bind fun y38 => some (.out (y38.2.1, y38.2.2, IntKind.i64.wrap (IntKind.i64.wrap (0 - y37.1) * 65536), IntKind.i64.wrap (y38.1 * 32768)))
        else (azf l m 5).o.bind fun y39 => (azf y39.2.1 y39.2.2 4).o.bind fun y40 => (azf y40.2.1 y40.2.2 3).o.bind fun y41 =>
          some (.out (y41.2.1, y41.2.2, IntKind.i64.wrap ((IntKind.i64.wrap (IntKind.i64.wrap (0 - y39.1) * 65536)).tdiv 8), IntKind.i64.wrap (IntKind.i64.wrap ((IntKind.i64.wrap (IntKind.i64.wrap (1 + y40.1) * 65536)).tdiv 8) + y41.1))) : Option (Step3 Unit (List Int × Int × Int × Int) (azi × List Int × Int))) fun y35 =>
      some ((⟨nm, K, pr, (o1, o2, o3), y35.2.2.1, y35.2.2.2, IntKind.i64.wrap (1 + r1), 65536, IntKind.i64.wrap (65536 + r2), 327680⟩ : azi), y35.1, y35.2.1)) = some (j, l, n') ∧ JB j ∧ 0 ≤ n' ∧ n' ≤ (l.length : Int) := by
      intro m o1 o2 o3 m0 m1
      cases K == 0
      · simp only [cond_false, azw, az7]
        cases (bif K == 4 then K == 4 else K == 5)
        · obtain ⟨s1, n1, e1, a1, b1, c1, d1⟩ := azt hl m0 m1 (k := 5) (by decide) (by decide)
          obtain ⟨s2, n2, e2, a2, b2, c2, d2⟩ := azt hl c1 d1 (k := 4) (by decide) (by decide)
          obtain ⟨s3, n3, e3, a3, b3, c3, d3⟩ := azt hl c2 d2 (k := 3) (by decide) (by decide)
          simp only [cond_false]
          rw [e1, Option.bind_some, e2, Option.bind_some, e3, Option.bind_some, az7]
          refine ⟨_, _, rfl, ?_, c3, d3⟩
          simp only [JB]
          rw [w64 (x := 0 - s1) (by omega) (by omega), w64 (x := (0 - s1) * 65536) (by omega) (by omega), w64 (x := 1 + s2) (by omega) (by omega), w64 (x := (1 + s2) * 65536) (by omega) (by omega), fzn (a := (1 + s2) * 65536) (by omega),
            show (0 - s1) * 65536 = -(s1 * 65536) by omega, Dzw, fzn (by omega), w64 (x := -(s1 * 65536 / 8)) (by omega) (by omega), w64 (x := (1 + s2) * 65536 / 8) (by omega) (by omega), w64 (x := (1 + s2) * 65536 / 8 + s3) (by omega) (by omega)]
          omega
        · obtain ⟨s1, n1, e1, a1, b1, c1, d1⟩ := azt hl m0 m1 (k := 3) (by decide) (by decide)
          obtain ⟨s2, n2, e2, a2, b2, c2, d2⟩ := azt hl c1 d1 (k := 4) (by decide) (by decide)
          simp only [cond_true]
          rw [e1, Option.bind_some, e2, Option.bind_some, az7]
          refine ⟨_, _, rfl, ?_, c2, d2⟩
          simp only [JB]
          rw [w64 (x := 0 - s1) (by omega) (by omega), w64 (x := (0 - s1) * 65536) (by omega) (by omega), w64 (x := s2 * 32768) (by omega) (by omega)]
          omega
      · exact ⟨_, _, rfl, by simp only [JB]; omega, m0, m1⟩
    cases decide (i > 0)
    · simp only [cond_false, az7]; exact lim m 0 0 0 m0 m1
    · obtain ⟨s1, n1, e1, a1, b1, c1, d1⟩ := bzy hl m0 m1 (k := 2) (by decide) (by decide)
      obtain ⟨s2, n2, e2, a2, b2, c2, d2⟩ := bzy hl c1 d1 (k := 1) (by decide) (by decide)
      simp only [cond_true]
      rw [e1, Option.bind_some, e2, Option.bind_some, az7]
      exact lim n2 _ _ _ c2 d2
  cases r4 == 1
  · exact rest n4 _ c4 d4
  · exact rest n4 _ c4 d4
theorem Jz4 : ∃ b : azm × List Int × Int, (mzv l n).o = some b ∧ b.2.1 = l ∧ (1 ≤ b.1.Joints.length ∧ b.1.Joints.length ≤ 3 ∧ ∀ j ∈ b.1.Joints, JB j) ∧ 0 ≤ b.2.2 ∧ b.2.2 ≤ (l.length : Int) := by
  have e0 : (mzv l n).o = (tza l n).run NN := rfl
  rw [e0]
  simp only [tza, T.run]
  obtain ⟨r1, n1, e1, a1, b1, c1, d1⟩ := azt hl h0 h1 (k := 3) (by decide) (by decide)
  rw [e1, Option.bind_some]
  simp only
  rw [w64 (x := 1 + r1) (by omega) (by omega)]
  obtain ⟨R, hR⟩ : ∃ R : Nat, 1 + r1 = (R : Int) := ⟨(1 + r1).toNat, by omega⟩
  rw [hR]
  refine jz7 (g := fun b => b) R (by omega) (fun j (y : List Int × Int × List azi × Int) => y.1 = l ∧ 0 ≤ y.2.1 ∧ y.2.1 ≤ (l.length : Int) ∧ y.2.2.1.length = j ∧ (∀ x ∈ y.2.2.1, JB x) ∧ y.2.2.2 = (j : Int))
    (fun (z : List Int × Int × List azi) => z.1 = l ∧ 0 ≤ z.2.1 ∧ z.2.1 ≤ (l.length : Int) ∧ z.2.2.length = R ∧ ∀ x ∈ z.2.2, JB x) ⟨rfl, c1, d1, rfl, by simp [nl], rfl⟩ (fun j y hj hy => ?_) (fun y hy => ?_) (fun z hz => ?_)
  · obtain ⟨f1, f2, f3, f4, f5, f6⟩ := hy
    obtain ⟨jt, n', ej, hj1, hj2, hj3⟩ := Jz2 hl f2 f3 (i := (j : Int)) (by omega) (by omega)
    rw [f6, f1, az6 (by omega), ej, Option.bind_some]
    simp only
    rw [az8 ⟨by simp; omega, by simp [bz1]; omega⟩, wn (by omega)]
    refine ⟨_, rfl, rfl, hj2, hj3, by simp; omega, fun x hx => ?_, rfl⟩
    rcases List.mem_append.1 hx with hx | hx
    · exact f5 x hx
    · rw [List.mem_singleton.1 hx]; exact hj1
  · obtain ⟨f1, f2, f3, f4, f5, f6⟩ := hy
    rw [f6, az5 (by omega)]; exact ⟨_, rfl, f1, f2, f3, f4, f5⟩
  · obtain ⟨f1, f2, f3, f4, f5⟩ := hz
    obtain ⟨r2, n2, e2, a2, b2, c2, d2⟩ := azt hl f2 f3 (k := 3) (by decide) (by decide)
    rw [f1, e2, Option.bind_some]
    simp only
    obtain ⟨M, hM⟩ : ∃ M : Nat, r2 = (M : Int) := ⟨r2.toNat, by omega⟩
    rw [hM]
    refine jz7 (g := fun b => b) M (by omega) (fun j (y : List Int × Int × List bza × Int) => y.1 = l ∧ 0 ≤ y.2.1 ∧ y.2.1 ≤ (l.length : Int) ∧ y.2.2.1.length = j ∧ y.2.2.2 = (M : Int) - (j : Int))
      (fun (w : List Int × Int × List bza) => w.1 = l ∧ 0 ≤ w.2.1 ∧ w.2.1 ≤ (l.length : Int)) ⟨rfl, c2, d2, rfl, by simp⟩ (fun j y hj hy => ?_) (fun y hy => ?_) (fun w hw => ?_)
    · obtain ⟨g1, g2, g3, g4, g5⟩ := hy
      obtain ⟨s1, m1, q1, u1, v1, w1, x1⟩ := azt hl g2 g3 (k := (R : Int)) (by omega) (by omega)
      obtain ⟨s2, m2, q2, u2, v2, w2, x2⟩ := azt hl w1 x1 (k := 9000) (by decide) (by decide)
      obtain ⟨s3, m3, q3, u3, v3, w3, x3⟩ := bzy hl w2 x2 (k := 3) (by decide) (by decide)
      obtain ⟨s4, m4, q4, u4, v4, w4, x4⟩ := bzy hl w3 x3 (k := 2) (by decide) (by decide)
      rw [g5, g1, az6 (by omega), q1, Option.bind_some, q2, Option.bind_some, q3, Option.bind_some, q4, Option.bind_some]
      simp only
      rw [az8 ⟨by simp; omega, by simp [bz1]; omega⟩, w64 (x := (M : Int) - (j : Int) - 1) (by omega) (by omega)]
      exact ⟨_, rfl, rfl, w4, x4, by simp; omega, by simp only; omega⟩
    · obtain ⟨g1, g2, g3, g4, g5⟩ := hy
      rw [g5, az5 (by omega)]; exact ⟨_, rfl, g1, g2, g3⟩
    · exact ⟨_, rfl, hw.1, ⟨by simp only; omega, by simp only; omega, f5⟩, hw.2.1, hw.2.2⟩
theorem Jz3 : ∃ r n', (mzv l n).o = some (r, l, n') ∧ (1 ≤ r.Joints.length ∧ r.Joints.length ≤ 3 ∧ ∀ j ∈ r.Joints, JB j) ∧ 0 ≤ n' ∧ n' ≤ (l.length : Int) := by
  obtain ⟨⟨r, l', n'⟩, g1, g2, g3, g4, g5⟩ := Jz4 hl h0 h1
  simp only at g2; subst g2
  exact ⟨r, n', g1, g3, g4, g5⟩
theorem Gzt (c : V3) : ∃ b : List V3 × List Int × Int, (hz4 l n c).o = some b ∧ b.2.1 = l ∧ 0 ≤ b.2.2 ∧ b.2.2 ≤ (l.length : Int) := by
  have e0 : (hz4 l n c).o = (qzh l n c).run NN := rfl
  rw [e0]
  simp only [qzh, T.run, T.ix]
  obtain ⟨r1, n1, e1, a1, b1, c1, d1⟩ := azt hl h0 h1 (k := 4) (by decide) (by decide)
  rw [e1, Option.bind_some]
  simp only
  obtain ⟨M, hM⟩ : ∃ M : Nat, r1 = (M : Int) := ⟨r1.toNat, by omega⟩
  rw [hM]
  refine jz7 (g := fun b => b) M (by omega) (fun j (y : List Int × Int × List V3 × Int) => y.1 = l ∧ 0 ≤ y.2.1 ∧ y.2.1 ≤ (l.length : Int) ∧ y.2.2.1.length = j + 1 ∧ y.2.2.2 = (M : Int) - (j : Int))
    (fun (w : List Int × Int × List V3) => w.1 = l ∧ 0 ≤ w.2.1 ∧ w.2.1 ≤ (l.length : Int)) ⟨rfl, c1, d1, rfl, by simp⟩ (fun j y hj hy => ?_) (fun y hy => ?_) (fun w hw => ⟨_, rfl, hw⟩)
  · obtain ⟨g1, g2, g3, g4, g5⟩ := hy
    obtain ⟨s1, m1, q1, u1, v1, w1, x1⟩ := bzy hl g2 g3 (k := 3) (by decide) (by decide)
    obtain ⟨s2, m2, q2, u2, v2, w2, x2⟩ := bzy hl w1 x1 (k := 2) (by decide) (by decide)
    obtain ⟨s3, m3, q3, u3, v3, w3, x3⟩ := bzy hl w2 x2 (k := 2) (by decide) (by decide)
    rw [g5, g1, az6 (by omega), q1, Option.bind_some, q2, Option.bind_some, q3, Option.bind_some]
    simp only
    rw [az8 ⟨by simp; omega, by simp [bz1]; omega⟩, w64 (x := (M : Int) - (j : Int) - 1) (by omega) (by omega)]
    exact ⟨_, rfl, rfl, w3, x3, by simp; omega, by simp only; omega⟩
  · obtain ⟨g1, g2, g3, g4, g5⟩ := hy
    rw [g5, az5 (by omega)]; exact ⟨_, rfl, g1, g2, g3⟩
theorem xzh (c : V3) : ∃ ps n', (hz4 l n c).o = some (ps, l, n') ∧ 0 ≤ n' ∧ n' ≤ (l.length : Int) := by
  obtain ⟨⟨r, l', n'⟩, g1, g2, g4, g5⟩ := Gzt hl h0 h1 c
  simp only at g2; subst g2
  exact ⟨r, n', g1, g4, g5⟩
end
theorem Jz1 (l : List Int) (hl : l.length < 4294967296) : ∃ s : aza, (tz6 l).o = some s ∧ (1 ≤ s.Robot.Joints.length ∧ s.Robot.Joints.length ≤ 3 ∧ ∀ j ∈ s.Robot.Joints, JB j) := by
  have e0 : (tz6 l).o = (tz7 l).run NN := rfl
  rw [e0]
  simp only [tz7, T.run]
  have ef : (qze l).o = some (l, 0) := rfl
  rw [ef, Option.bind_some]
  obtain ⟨r, n0, er, hr, m0, m1⟩ := Jz3 hl (n := 0) (by omega) (by omega)
  rw [er, Option.bind_some]
  simp only
  refine jz7 (g := fun b => b) r.Joints.length (by omega) (fun j (y : List Int × Int × List azn × Int) => y.1 = l ∧ 0 ≤ y.2.1 ∧ y.2.1 ≤ (l.length : Int) ∧ y.2.2.1.length ≤ j ∧ y.2.2.2 = (j : Int))
    (fun (w : List Int × Int × List azn) => w.1 = l ∧ 0 ≤ w.2.1 ∧ w.2.1 ≤ (l.length : Int) ∧ w.2.2.length ≤ 3) ⟨rfl, m0, m1, by simp [nl], rfl⟩ (fun j y hj hy => ?_) (fun y hy => ?_) (fun z hz => ?_)
  · obtain ⟨g1, g2, g3, g4, g5⟩ := hy
    obtain ⟨s1, p1, q1, u1, v1, w1, x1⟩ := azt hl g2 g3 (k := 5) (by decide) (by decide)
    obtain ⟨s2, p2, q2, u2, v2, w2, x2⟩ := azt hl w1 x1 (k := 3) (by decide) (by decide)
    obtain ⟨s3, p3, q3, u3, v3, w3, x3⟩ := azt hl w2 x2 (k := 4) (by decide) (by decide)
    obtain ⟨ps, p4, q4, w4, x4⟩ := xzh hl w3 x3 (IntKind.i64.wrap (s3 * 32768), 0, 0)
    rw [g5, g1, az6 (by omega), q1, Option.bind_some, wn (by omega)]
    cases decide (s1 < 4)
    · exact ⟨_, rfl, rfl, w1, x1, by simp only; omega, rfl⟩
    · simp only [cond_true]
      rw [q2, Option.bind_some, q3, Option.bind_some, q4, Option.bind_some]
      simp only
      rw [az8 ⟨by simp; omega, by simp [bz1]; omega⟩, az7]
      exact ⟨_, rfl, rfl, w4, x4, by simp; omega, rfl⟩
  · obtain ⟨g1, g2, g3, g4, g5⟩ := hy
    rw [g5, az5 (by omega)]; exact ⟨_, rfl, g1, g2, g3, by simp only; omega⟩
  · obtain ⟨g1, g2, g3, g4⟩ := hz
    obtain ⟨s1, p1, q1, u1, v1, w1, x1⟩ := azt hl g2 g3 (k := 3) (by decide) (by decide)
    rw [g1, q1, Option.bind_some]
    simp only
    rw [w64 (x := 1 + s1) (by omega) (by omega)]
    obtain ⟨M, hM⟩ : ∃ M : Nat, 1 + s1 = (M : Int) := ⟨(1 + s1).toNat, by omega⟩
    rw [hM]
    refine jz7 (g := fun b => b) M (by omega) (fun j (y : List Int × Int × List azn × Int) => y.1 = l ∧ 0 ≤ y.2.1 ∧ y.2.1 ≤ (l.length : Int) ∧ y.2.2.1.length ≤ 3 + j ∧ y.2.2.2 = (M : Int) - (j : Int))
      (fun (w : List Int × Int × List azn) => w.1 = l ∧ 0 ≤ w.2.1 ∧ w.2.1 ≤ (l.length : Int)) ⟨rfl, w1, x1, by simp only; omega, by simp⟩ (fun j y hj hy => ?_) (fun y hy => ?_) (fun w hw => ?_)
    · obtain ⟨g1, g2, g3, g4, g5⟩ := hy
      obtain ⟨t1, p1, q1, u1, v1, w1, x1⟩ := bzy hl g2 g3 (k := 9) (by decide) (by decide)
      obtain ⟨t2, p2, q2, u2, v2, w2, x2⟩ := bzy hl w1 x1 (k := 9) (by decide) (by decide)
      obtain ⟨t3, p3, q3, u3, v3, w3, x3⟩ := bzy hl w2 x2 (k := 2) (by decide) (by decide)
      obtain ⟨t4, p4, q4, u4, v4, w4, x4⟩ := azt hl w3 x3 (k := 4) (by decide) (by decide)
      obtain ⟨ps, p5, q5, w5, x5⟩ := xzh hl w4 x4 (IntKind.i64.wrap (t1 * 32768), IntKind.i64.wrap (t2 * 32768), IntKind.i64.wrap (t3 * 32768))
      rw [g5, g1, az6 (by omega), q1, Option.bind_some, q2, Option.bind_some, q3, Option.bind_some, q4, Option.bind_some, q5, Option.bind_some]
      simp only
      rw [az8 ⟨by simp; omega, by simp [bz1]; omega⟩, w64 (x := (M : Int) - (j : Int) - 1) (by omega) (by omega)]
      exact ⟨_, rfl, rfl, w5, x5, by simp; omega, by simp only; omega⟩
    · obtain ⟨g1, g2, g3, g4, g5⟩ := hy
      rw [g5, az5 (by omega)]; exact ⟨_, rfl, g1, g2, g3⟩
    · obtain ⟨g1, g2, g3⟩ := hw
      obtain ⟨s1, p1, q1, u1, v1, w1, x1⟩ := azt hl g2 g3 (k := 5) (by decide) (by decide)
      obtain ⟨s2, p2, q2, u2, v2, w2, x2⟩ := azt hl w1 x1 (k := (r.Joints.length : Int)) (by omega) (by omega)
      rw [g1, q1, Option.bind_some]
      cases s1 == 1
      · exact ⟨_, rfl, hr⟩
      · simp only [cond_true]
        rw [q2, Option.bind_some]
        simp only
        rw [az8 ⟨by simp, by simp [bz1]⟩]
        exact ⟨_, rfl, hr⟩
theorem xzg (r : azm) (l : List Int) (hl : l.length < 4294967296) (h3 : r.Joints.length ≤ 3) (hj : ∀ j ∈ r.Joints, JB j) : ∃ c : List Int, (lz0 r l).o = some c ∧ c.length = r.Joints.length := by
  have e0 : (lz0 r l).o = (qzd r l).run NN := rfl
  rw [e0]
  simp only [qzd, T.run]
  have ef : (qze l).o = some (l, 0) := rfl
  rw [ef, Option.bind_some]
  simp only
  refine jz7 (g := fun b => b) r.Joints.length (by omega) (fun j (y : List Int × Int × List Int × Int) => y.1 = l ∧ 0 ≤ y.2.1 ∧ y.2.1 ≤ (l.length : Int) ∧ y.2.2.1.length = j ∧ y.2.2.2 = (j : Int))
    (fun (w : List Int) => w.length = r.Joints.length) ⟨rfl, by simp, by simp, by simp [nl], rfl⟩ (fun j y hj1 hy => ?_) (fun y hy => ?_) (fun z hz => ⟨_, rfl, hz⟩)
  · obtain ⟨g1, g2, g3, g4, g5⟩ := hy
    have jb := hj _ (Gzn hj1)
    unfold JB at jb
    obtain ⟨s1, p1, q1, u1, v1, w1, x1⟩ := azt hl g2 g3 (k := 6) (by decide) (by decide)
    rw [g5, g1, az6 (by omega), az8 ⟨by omega, by omega⟩, az8 ⟨by omega, by omega⟩, q1, Option.bind_some, wn (by omega), Int.toNat_natCast]
    cases s1 == 0
    · cases s1 == 1
      · simp only [cond_false]
        rw [w64 (x := (r.Joints.getD j default).Hi - (r.Joints.getD j default).Lo) (by omega) (by omega), w64 (x := (r.Joints.getD j default).Hi - (r.Joints.getD j default).Lo + 1) (by omega) (by omega)]
        obtain ⟨s2, p2, q2, u2, v2, w2, x2⟩ := azt hl w1 x1 (k := (r.Joints.getD j default).Hi - (r.Joints.getD j default).Lo + 1) (by omega) (by omega)
        rw [q2, Option.bind_some]
        simp only
        rw [az8 ⟨by simp; omega, by simp [bz1]; omega⟩, az7]
        exact ⟨_, rfl, rfl, w2, x2, by simp; omega, rfl⟩
      · simp only [cond_false, cond_true]
        rw [az8 ⟨by simp; omega, by simp [bz1]; omega⟩, az7]
        exact ⟨_, rfl, rfl, w1, x1, by simp; omega, rfl⟩
    · simp only [cond_true]
      rw [az8 ⟨by simp; omega, by simp [bz1]; omega⟩, az7]
      exact ⟨_, rfl, rfl, w1, x1, by simp; omega, rfl⟩
  · obtain ⟨g1, g2, g3, g4, g5⟩ := hy
    rw [g5, az5 (by omega)]; exact ⟨_, rfl, g4⟩
def PB (n : Nat) (l : List azh) : Prop := l.length ≤ n ∧ ∀ x ∈ l, x.Normals.length ≤ 1048576
def tW (w : List Int) : Nat → Int
  | 0 => 0
  | j + 1 => IntKind.i64.wrap (tW w j + w.getD j default)
def cW (w : List Int) (g : Nat → Int) : Nat → Int
  | 0 => 0
  | j + 1 => IntKind.i64.wrap (cW w g j + IntKind.i64.wrap (w.getD j default * g j))
def cV (l : List IV3) (w : List Int) (j : Nat) : IV3 :=
  (⟨cW w (fun i => (l.getD i default).1.Lo) j, cW w (fun i => (l.getD i default).1.Hi) j⟩, ⟨cW w (fun i => (l.getD i default).2.1.Lo) j, cW w (fun i => (l.getD i default).2.1.Hi) j⟩, ⟨cW w (fun i => (l.getD i default).2.2.Lo) j, cW w (fun i => (l.getD i default).2.2.Hi) j⟩)
def badW (w : List Int) (j : Nat) : Bool := decide (w.getD j default < 0) || decide (w.getD j default > 65536)
def zc : IV3 × Int × Bool := ((⟨0, 0⟩, ⟨0, 0⟩, ⟨0, 0⟩), 0, false)
def okC (l : List IV3) (w : List Int) : Prop := bz4 l = true ∧ w.length = l.length ∧ bzk (badW w) w.length = true ∧ 1 ≤ tW w w.length ∧ tW w w.length ≤ 65536
instance (l : List IV3) (w : List Int) : Decidable (okC l w) := by unfold okC; infer_instance
def fzt (l : List IV3) (w : List Int) : IV3 × Int × Bool := if okC l w then (cV l w w.length, tW w w.length, true) else zc
theorem badW_iff {w : List Int} {n : Nat} : bzk (badW w) n = true ↔ ∀ j, j < n → 0 ≤ w.getD j default ∧ w.getD j default ≤ 65536 := by
  rw [noneB_iff]
  refine forall_congr' fun j => imp_congr Iff.rfl ?_
  simp only [badW, Bool.or_eq_false_iff, decide_eq_false_iff_not]; omega
theorem Uzq {w : List Int} {n : Nat} (h : ∀ j, j < n → 0 ≤ w.getD j default ∧ w.getD j default ≤ 65536) (hn : n ≤ 8) : ∀ j, j ≤ n → 0 ≤ tW w j ∧ tW w j ≤ 65536 * (j : Int) ∧ ∀ i, i ≤ j → tW w i ≤ tW w j
  | 0, _ => ⟨by simp [tW], by simp [tW], fun i hi => by obtain rfl : i = 0 := by omega
                                                        exact Int.le_refl _⟩
  | j + 1, hj => by
    obtain ⟨h1, h2, h3⟩ := Uzq h hn j (by omega)
    obtain ⟨q1, q2⟩ := h j (by omega)
    have e : tW w (j + 1) = tW w j + w.getD j default := by simp only [tW]; exact w64 (by omega) (by omega)
    refine ⟨by omega, by omega, fun i hi => ?_⟩
    by_cases e1 : i = j + 1
    · rw [e1]; omega
    · have := h3 i (by omega); omega
theorem Jzb {l : List IV3} {w : List Int} (hp : bz4 l = false) : ¬ okC l w := fun h => by obtain ⟨h1, _⟩ := h; rw [hp] at h1; cases h1
theorem Dzs (l : List IV3) (w : List Int) : (mzc l w).o = some (fzt l w) := by
  show (mzd l w).run NN = _
  simp only [mzd, T.run, T.ix, czu, Option.bind_some, azw, az7, fzt]
  cases hp : bz4 l
  · rw [if_neg (Jzb hp)]; rfl
  · have hl8 := dz2 hp
    simp only [Bool.not_true, cond_false]
    by_cases hl : w.length = l.length
    · rw [cze (by omega)]
      refine (lzs (fun j => ((cV l w j).1.Lo, (cV l w j).1.Hi, (cV l w j).2.1.Lo, (cV l w j).2.1.Hi, (cV l w j).2.2.Lo, (cV l w j).2.2.Hi, tW w j, (j : Int))) (fun j => sw (badW w j) zc) ((cV l w w.length).1.Lo, (cV l w w.length).1.Hi, (cV l w w.length).2.1.Lo, (cV l w w.length).2.1.Hi, (cV l w w.length).2.2.Lo, (cV l w w.length).2.2.Hi, tW w w.length) w.length rfl (show w.length < 4294967296 by omega) (fun j hj => ?_) ?_).trans ?_
      · dsimp only
        rw [az6 (by omega), az8 ⟨by omega, by omega⟩, Int.toNat_natCast, czr, show (decide (w.getD j default < 0) || decide (w.getD j default > 65536)) = badW w j from rfl]
        cases badW w j
        · rw [cond_false, az8 ⟨by omega, by omega⟩, wn (by omega)]; rfl
        · rfl
      · dsimp only
        rw [az5 (by omega)]
      · rw [cz8]
        cases hb : bzk (badW w) w.length
        · rw [if_neg (fun h => by obtain ⟨_, _, h3, _⟩ := h; rw [hb] at h3; cases h3)]; rfl
        · simp only [sw, Bool.not_true, cond_false, czr]
          by_cases h1 : tW w w.length < 1
          · rw [if_neg (fun h => by obtain ⟨_, _, _, h4, _⟩ := h; omega), decide_eq_true h1]; rfl
          · by_cases h2 : tW w w.length > 65536
            · rw [if_neg (fun h => by obtain ⟨_, _, _, _, h5⟩ := h; omega), decide_eq_false h1, decide_eq_true h2]; rfl
            · rw [if_pos (show okC l w from ⟨hp, hl, hb, by omega, by omega⟩), decide_eq_false h1, decide_eq_false h2]; rfl
    · rw [dzv (by omega), if_neg (fun h => by obtain ⟨_, h2, _⟩ := h; exact hl h2)]; rfl
def badR (w : List Int) (j : Nat) : Bool := decide (w.getD j default < 0) || decide (w.getD j default > IntKind.i64.wrap (65536 - tW w j))
theorem Qzo {w : List Int} {n : Nat} (hn : n ≤ 8) : bzk (badR w) n = true ↔ bzk (badW w) n = true ∧ tW w n ≤ 65536 := by
  rw [badW_iff]
  constructor
  · intro h
    rw [noneB_iff] at h
    have key : ∀ j, j ≤ n → 0 ≤ tW w j ∧ tW w j ≤ 65536 := by
      intro j
      induction j with
      | zero => intro _; simp [tW]
      | succ j ih =>
        intro hj
        obtain ⟨h1, h2⟩ := ih (by omega)
        have := h j (by omega)
        simp only [badR, Bool.or_eq_false_iff, decide_eq_false_iff_not] at this
        rw [w64 (x := 65536 - tW w j) (by omega) (by omega)] at this
        have e : tW w (j + 1) = tW w j + w.getD j default := by simp only [tW]; exact w64 (by omega) (by omega)
        omega
    refine ⟨fun j hj => ?_, (key n (Nat.le_refl _)).2⟩
    have h0 := key j (by omega)
    have := h j hj
    simp only [badR, Bool.or_eq_false_iff, decide_eq_false_iff_not] at this
    rw [w64 (x := 65536 - tW w j) (by omega) (by omega)] at this
    omega
  · rintro ⟨h, ht⟩
    rw [noneB_iff]
    intro j hj
    have h1 := Uzq h hn n (Nat.le_refl _)
    have h0 := Uzq h hn j (by omega)
    have h2 := h1.2.2 (j + 1) (by omega)
    have e : tW w (j + 1) = tW w j + w.getD j default := by simp only [tW]; have := h j hj; exact w64 (by omega) (by omega)
    have := h j hj
    simp only [badR, Bool.or_eq_false_iff, decide_eq_false_iff_not]
    rw [w64 (x := 65536 - tW w j) (by omega) (by omega)]
    omega
theorem tzj (l : List IV3) (w : List Int) : (lzw l w).o = some (fzt l w) := by
  show (lzx l w).run NN = _
  simp only [lzx, T.run, T.ix, ezt, Option.bind_some, azw, az7, fzt]
  cases hp : bz4 l
  · rw [if_neg (Jzb hp)]; rfl
  · have hl8 := dz2 hp
    simp only [Bool.not_true, cond_false]
    by_cases hl : w.length = l.length
    · rw [cze (by omega)]
      refine (lzs (fun j => (tW w j, (j : Int))) (fun j => sw (badR w j) zc) (tW w w.length) w.length rfl (show w.length < 4294967296 by omega) (fun j hj => ?_) ?_).trans ?_
      · dsimp only
        rw [az6 (by omega), az8 ⟨by omega, by omega⟩, az8 ⟨by omega, by omega⟩, az8 ⟨by omega, by omega⟩, azw, az7, Int.toNat_natCast, czr, show (decide (w.getD j default < 0) || decide (w.getD j default > IntKind.i64.wrap (65536 - tW w j))) = badR w j from rfl, wn (by omega)]
        cases badR w j <;> rfl
      · dsimp only
        rw [az5 (by omega)]
      · rw [cz8]
        have hiff := Qzo (w := w) (n := w.length) (by omega)
        cases hb : bzk (badR w) w.length
        · rw [if_neg (fun h => by obtain ⟨_, _, h3, _, h5⟩ := h; rw [hiff.2 ⟨h3, h5⟩] at hb; cases hb)]; rfl
        · obtain ⟨hb1, hb2⟩ := hiff.1 hb
          simp only [sw, Bool.not_true, cond_false]
          by_cases h1 : tW w w.length < 1
          · rw [if_neg (fun h => by obtain ⟨_, _, _, h4, _⟩ := h; omega), az6 h1]; rfl
          · rw [if_pos (show okC l w from ⟨hp, hl, hb1, by omega, by omega⟩), az5 h1]
            refine (bzn (fun j => ((cV l w j).1.Lo, (cV l w j).1.Hi, (cV l w j).2.1.Lo, (cV l w j).2.1.Hi, (cV l w j).2.2.Lo, (cV l w j).2.2.Hi, (j : Int))) ((cV l w w.length).1.Lo, (cV l w w.length).1.Hi, (cV l w w.length).2.1.Lo, (cV l w w.length).2.1.Hi, (cV l w w.length).2.2.Lo, (cV l w w.length).2.2.Hi) w.length rfl (show w.length < 4294967296 by omega) (fun j hj => ?_) ?_).trans rfl
            · dsimp only
              rw [az6 (by omega)]
              simp only [az8 (show 0 ≤ (j : Int) ∧ (j : Int) < (w.length : Int) by omega), az8 (show 0 ≤ (j : Int) ∧ (j : Int) < (l.length : Int) by omega), Int.toNat_natCast]
              rw [wn (by omega)]; rfl
            · dsimp only
              rw [az5 (by omega)]
    · rw [dzv (by omega), if_neg (fun h => by obtain ⟨_, h2, _⟩ := h; exact hl h2)]; rfl
theorem Wzh {a b : Int} (ha : 0 ≤ a ∧ a ≤ 65536) (hb : -268435456 ≤ b ∧ b ≤ 268435456) : -17592186044416 ≤ a * b ∧ a * b ≤ 17592186044416 := by
  have h : (a * b).natAbs ≤ 65536 * 268435456 := by rw [Int.natAbs_mul]; exact Nat.mul_le_mul (by omega) (by omega)
  omega
theorem Vz1 {w : List Int} {g : Nat → Int} {n : Nat} (h : ∀ j, j < n → 0 ≤ w.getD j default ∧ w.getD j default ≤ 65536) (hg : ∀ j, j < n → -268435456 ≤ g j ∧ g j ≤ 268435456) (hn : n ≤ 8) : ∀ j, j ≤ n → -17592186044416 * (j : Int) ≤ cW w g j ∧ cW w g j ≤ 17592186044416 * (j : Int)
  | 0, _ => by simp [cW]
  | j + 1, hj => by
    obtain ⟨h1, h2⟩ := Vz1 h hg hn j (by omega)
    have hm := Wzh (h j (by omega)) (hg j (by omega))
    simp only [cW]
    rw [w64 (x := w.getD j default * g j) (by omega) (by omega), w64 (by omega) (by omega)]; omega
def sm (x : Int) : Prop := -140737488355328 ≤ x ∧ x ≤ 140737488355328
def smV (v : IV3) : Prop := (sm v.1.Lo ∧ sm v.1.Hi) ∧ (sm v.2.1.Lo ∧ sm v.2.1.Hi) ∧ sm v.2.2.Lo ∧ sm v.2.2.Hi
theorem Gz1 {l : List IV3} {w : List Int} (h : (fzt l w).2.2 = true) : 1 ≤ (fzt l w).2.1 ∧ (fzt l w).2.1 ≤ 65536 ∧ smV (fzt l w).1 := by
  unfold fzt at h ⊢
  by_cases hk : okC l w
  · rw [if_pos hk]
    obtain ⟨h1, h2, h3, h4, h5⟩ := hk
    have h8 := dz2 h1
    have hb := badW_iff.1 h3
    have hr : ∀ j, j < w.length → fzj (l.getD j default) = true := fun j hj => pzc h1 (by omega)
    have key : ∀ g : IV3 → Int, (∀ v : IV3, fzj v = true → -268435456 ≤ g v ∧ g v ≤ 268435456) → sm (cW w (fun i => g (l.getD i default)) w.length) := fun g hg => by
      have := Vz1 hb (g := fun i => g (l.getD i default)) (fun j hj => hg _ (hr j hj)) (by omega) w.length (Nat.le_refl _)
      unfold sm; omega
    have rr : ∀ v : IV3, fzj v = true → (-268435456 ≤ v.1.Lo ∧ v.1.Lo ≤ v.1.Hi ∧ v.1.Hi ≤ 268435456) ∧ (-268435456 ≤ v.2.1.Lo ∧ v.2.1.Lo ≤ v.2.1.Hi ∧ v.2.1.Hi ≤ 268435456) ∧ (-268435456 ≤ v.2.2.Lo ∧ v.2.2.Lo ≤ v.2.2.Hi ∧ v.2.2.Hi ≤ 268435456) := fun v hv => by
      simp only [fzj, Bool.and_eq_true, Pzz] at hv; exact hv
    exact ⟨h4, h5, ⟨key (fun v => v.1.Lo) (fun v hv => by have := rr v hv; omega), key (fun v => v.1.Hi) (fun v hv => by have := rr v hv; omega)⟩, ⟨key (fun v => v.2.1.Lo) (fun v hv => by have := rr v hv; omega), key (fun v => v.2.1.Hi) (fun v hv => by have := rr v hv; omega)⟩, key (fun v => v.2.2.Lo) (fun v hv => by have := rr v hv; omega), key (fun v => v.2.2.Hi) (fun v hv => by have := rr v hv; omega)⟩
  · rw [if_neg hk] at h; cases h
def mxV (p q : Int) : Int := max (max (IntKind.i64.wrap p) (IntKind.i64.wrap (0 - IntKind.i64.wrap p))) (max (IntKind.i64.wrap q) (IntKind.i64.wrap (0 - IntKind.i64.wrap q)))
theorem zza {p q : Int} (hp : -281474976710656 ≤ p ∧ p ≤ 281474976710656) (hq : -281474976710656 ≤ q ∧ q ≤ 281474976710656) : (ezz [IntKind.i64.wrap p, IntKind.i64.wrap q]).o = some (mxV p q) := by
  show (hze [IntKind.i64.wrap p, IntKind.i64.wrap q]).run NN = _
  simp only [hze, T.run]
  refine (bzn (fun j => ((match j with | 0 => 0 | 1 => max (max 0 (IntKind.i64.wrap p)) (IntKind.i64.wrap (0 - IntKind.i64.wrap p)) | _ => max (max (max (max 0 (IntKind.i64.wrap p)) (IntKind.i64.wrap (0 - IntKind.i64.wrap p))) (IntKind.i64.wrap q)) (IntKind.i64.wrap (0 - IntKind.i64.wrap q)) : Int), (j : Int))) (max (max (max (max 0 (IntKind.i64.wrap p)) (IntKind.i64.wrap (0 - IntKind.i64.wrap p))) (IntKind.i64.wrap q)) (IntKind.i64.wrap (0 - IntKind.i64.wrap q))) 2 rfl (by decide) (fun j hj => ?_) ?_).trans ?_
  · rw [az6 (by simp; omega), az8 ⟨by simp, by simp; omega⟩, wn (by omega)]
    match j, hj with
    | 0, _ => rfl
    | 1, _ => rfl
  · rw [az5 (by simp)]; rfl
  · simp only [Option.some.injEq, mxV]
    rw [w64 (x := p) (by omega) (by omega), w64 (x := q) (by omega) (by omega), w64 (x := 0 - p) (by omega) (by omega), w64 (x := 0 - q) (by omega) (by omega)]
    omega
theorem Pzg {p q t : Int} (hp : -281474976710656 ≤ p ∧ p ≤ 281474976710656) (hq : -281474976710656 ≤ q ∧ q ≤ 281474976710656) (ht : 1 ≤ t ∧ t ≤ 65536) :
    IntKind.i64.wrap ((IntKind.i64.wrap (IntKind.i64.wrap (mxV p q + t) - 1)).tdiv t) = cdiv (mxV p q) t := by
  have hm : 0 ≤ mxV p q ∧ mxV p q ≤ 281474976710656 := by
    unfold mxV
    rw [w64 (x := p) (by omega) (by omega), w64 (x := q) (by omega) (by omega), w64 (x := 0 - p) (by omega) (by omega), w64 (x := 0 - q) (by omega) (by omega)]
    omega
  generalize mxV p q = H at hm
  rw [w64 (x := H + t) (by omega) (by omega), w64 (x := H + t - 1) (by omega) (by omega), fzn (by omega)]
  have e : (H + t - 1) / t = cdiv H t := by
    symm
    rw [xz2 (by omega)]
    have h1 := Czc (a := H + t - 1) (b := t) (by omega)
    have h2 := Izc (a := H + t - 1) (b := t) (by omega)
    omega
  rw [e]
  have := Gz0 (a := H) (b := t) (by omega)
  by_cases h0 : 0 < H
  · exact w64 (by omega) (by omega)
  · exact w64 (by omega) (by omega)
theorem Lz4 (a : Int) : (hzf a).o = some (radV a) := by
  show (hzg a).run NN = _
  have h := gz3 a
  rw [show (dzd a).o = (gz2 a).run NN from rfl] at h
  rw [← h]
  simp only [hzg, gz2, T.run]
theorem Ozl (u v : List Int) (a : List IV3) (ra : Int) (b : List IV3) (rb : Int) : (sz0 u v a ra b rb).o = (jzd u v a ra b rb).o := by
  show (kzc u v a ra b rb).run NN = (gz0 u v a ra b rb).run NN
  simp only [kzc, gz0, T.run, T.ix, Dzs, tzj, Lz4, gz3, Option.bind_some, azw, az7, Azt]
  cases h1 : (fzt a u).2.2
  · rfl
  · cases h2 : (fzt b v).2.2
    · rfl
    · obtain ⟨t1, t2, q1, q2, q3⟩ := Gz1 h1
      obtain ⟨_, _, r1, r2, r3⟩ := Gz1 h2
      unfold sm at q1 q2 q3 r1 r2 r3
      simp only [Bool.not_true, cond_false]
      cases (bif (fzt a u).2.1 != (fzt b v).2.1 then true else bif !radV ra then true else !radV rb)
      · simp only [cond_false, az8 (show (fzt a u).2.1 ≠ 0 by omega)]
        have hc : ∀ p q : Int, (azo (max (max (IntKind.i64.wrap p) (IntKind.i64.wrap (0 - IntKind.i64.wrap p))) (max (IntKind.i64.wrap q) (IntKind.i64.wrap (0 - IntKind.i64.wrap q)))) (fzt a u).2.1).o = some (cdiv (mxV p q) (fzt a u).2.1) :=
          fun p q => bz8 (((InR.wr _).max (InR.wr _)).max ((InR.wr _).max (InR.wr _))) (by omega)
        simp only [hc, Option.bind_some]
        rw [zza (p := (fzt a u).1.1.Lo - (fzt b v).1.1.Hi) (q := (fzt a u).1.1.Hi - (fzt b v).1.1.Lo) (by omega) (by omega), Option.bind_some, Pzg (by omega) (by omega) ⟨t1, t2⟩,
          zza (p := (fzt a u).1.2.1.Lo - (fzt b v).1.2.1.Hi) (q := (fzt a u).1.2.1.Hi - (fzt b v).1.2.1.Lo) (by omega) (by omega), Option.bind_some, Pzg (by omega) (by omega) ⟨t1, t2⟩,
          zza (p := (fzt a u).1.2.2.Lo - (fzt b v).1.2.2.Hi) (q := (fzt a u).1.2.2.Hi - (fzt b v).1.2.2.Lo) (by omega) (by omega), Option.bind_some, Pzg (by omega) (by omega) ⟨t1, t2⟩]
      · rfl
theorem Lz5 (u v : List Int) (a : List IV3) (ra : Int) (b : List IV3) (rb : Int) : (hzc u v a ra b rb).o = (dzp u v a ra b rb).o := by
  show (hzd u v a ra b rb).run NN = (ezo u v a ra b rb).run NN
  simp only [hzd, ezo, T.run, Ozl]
theorem Bzk (u v : List Int) (a : List IV3) (ra : Int) (b : List IV3) (rb : Int) : ∃ y : Bool, (dzp u v a ra b rb).o = some y := by
  have ex : ∃ y : Int × Bool, (jzd u v a ra b rb).o = some y := by
    have e0 : (jzd u v a ra b rb).o = (gz0 u v a ra b rb).run NN := rfl
    rw [e0]
    have hx : (fzt a u).2.2 = true → 1 ≤ (fzt a u).2.1 := fun h => (Gz1 h).1
    generalize hX : fzt a u = x at hx
    simp only [gz0, T.run, T.ix, tzj, hX, gz3, Option.bind_some, azw, az7]
    generalize fzt b v = y
    cases hx2 : x.2.2
    · exact ⟨_, rfl⟩
    · have hx1 := hx hx2
      cases (bif !true then true else bif !y.2.2 then true else bif x.2.1 != y.2.1 then true else bif !radV ra then true else !radV rb)
      · have hc : ∀ p q : Int, (azo (max (max (IntKind.i64.wrap p) (IntKind.i64.wrap (0 - IntKind.i64.wrap p))) (max (IntKind.i64.wrap q) (IntKind.i64.wrap (0 - IntKind.i64.wrap q)))) x.2.1).o = some (cdiv (max (max (IntKind.i64.wrap p) (IntKind.i64.wrap (0 - IntKind.i64.wrap p))) (max (IntKind.i64.wrap q) (IntKind.i64.wrap (0 - IntKind.i64.wrap q)))) x.2.1) :=
          fun p q => bz8 (((InR.wr _).max (InR.wr _)).max ((InR.wr _).max (InR.wr _))) (by omega)
        simp only [cond_false, Azt, Option.bind_some, hc]
        generalize cdiv _ _ = c1
        cases decide (c1 > IntKind.i64.wrap (ra + rb))
        · simp only [cond_false]
          generalize cdiv _ _ = c2
          cases decide (c2 > IntKind.i64.wrap (ra + rb))
          · simp only [cond_false]
            generalize cdiv _ _ = c3
            cases decide (c3 > IntKind.i64.wrap (ra + rb)) <;> exact ⟨_, rfl⟩
          · exact ⟨_, rfl⟩
        · exact ⟨_, rfl⟩
      · exact ⟨_, rfl⟩
  obtain ⟨y, ey⟩ := ex
  have e0 : (dzp u v a ra b rb).o = (ezo u v a ra b rb).run NN := rfl
  rw [e0]
  simp only [ezo, T.run]
  rw [ey, Option.bind_some]
  cases y.2 <;> exact ⟨_, rfl⟩
noncomputable def ovV (u v : List Int) (a : List IV3) (ra : Int) (b : List IV3) (rb : Int) : Bool := (dzp u v a ra b rb).o.getD false
theorem sz6 (u v : List Int) (a : List IV3) (ra : Int) (b : List IV3) (rb : Int) : (dzp u v a ra b rb).o = some (ovV u v a ra b rb) := by
  obtain ⟨y, hy⟩ := Bzk u v a ra b rb
  rw [ovV, hy]; rfl
theorem xzp (u v : List Int) (a : List IV3) (ra : Int) (b : List IV3) (rb : Int) : (hzc u v a ra b rb).o = some (ovV u v a ra b rb) := by
  rw [Lz5]; exact sz6 u v a ra b rb
noncomputable def Oze (s : aza) (b : List az0) (w : bz6) : Bool :=
  if (czp s = 0 ∧ boxV s.Robot b = true) ∧ 0 ≤ w.Pair ∧ w.Pair < ((bzj s).length : Int) then
    ovV w.Left w.Right (bz3 s b (pA s w.Pair.toNat)) (fzi s (pA s w.Pair.toNat)) (bz3 s b (pB s w.Pair.toNat)) (fzi s (pB s w.Pair.toNat)) else false
theorem Fzv {s : aza} {b : List az0} (h : czp s = 0 ∧ boxV s.Robot b = true) {j : Nat} (hj : j < (bzj s).length) :
    (xz0 ⟨s.Shapes, bzj s, qzk s b⟩ (j : Int)).o = some ⟨bz3 s b (pA s j), bz3 s b (pB s j), fzi s (pA s j), fzi s (pB s j)⟩ := by
  have hp := Mzp h.1 hj
  show (pzt ⟨s.Shapes, bzj s, qzk s b⟩ (j : Int)).run NN = _
  simp only [pzt, T.run, Int.toNat_natCast, Dz7 h.1 h.2, bzv]
  rw [az8 ⟨by omega, by omega⟩, az8 hp.1, az8 hp.1, az8 hp.2, az8 hp.2, kzn (by omega), kzn (by omega)]; rfl
section
variable (s : aza) (p q : List Int) (hp : p.length < 4294967296) (hq : q.length < 4294967296)
include hp hq
omit hp hq in
theorem bl {α : Type} (l : List α) : (((l.length : Nat) : Int) == 0) = decide (l.length = 0) := by by_cases h : l.length = 0 <;> simp [h]
end
open Go.Proofs
theorem vzb (a : az0) : (fzu a).o = some (bif vV a then IntKind.i64.wrap (a.Lo + a.Hi) / 2 else 0) := by
  show (nzu a).run NN = _
  simp only [nzu, T.run, bzs, Option.bind_some]
  cases vV a with
  | false => rfl
  | true =>
    have := fze (IntKind.i64.wrap (a.Lo + a.Hi)) 1 (by omega)
    rw [show ((1 : Nat) : Int) = 1 from rfl] at this
    simp [this]
theorem uzd (l : List IV3) : ∃ r, (cz1 l).o = some r ∧ (bz4 l = true → r.length = l.length) := by
  show ∃ r, (fzb l).run NN = some r ∧ _
  simp only [fzb, T.run, T.ix, czu, Option.bind_some, vzb]
  cases hp : bz4 l with
  | false => exact ⟨nl, rfl, fun h => by cases h⟩
  | true =>
    have hl := dz2 hp
    rw [wz7 (by rfl), az8 (by omega)]
    refine ize (fun m (x : List V3 × Int) => x.1.length = l.length ∧ ∃ j : Nat, x.2 = (j : Int) ∧ j + m = l.length) (fun y : List V3 => y.length = l.length) l.length ⟨by simp, 0, rfl, by omega⟩ (by omega) ?_ fun y hy => ⟨y, rfl, fun _ => hy⟩
    rintro m ⟨x, i⟩ ⟨hx, j, rfl, hm⟩
    simp only at hx ⊢
    cases m with
    | zero => exact .inr (.inl ⟨x, by rw [az5 (by omega)], hx⟩)
    | succ m =>
      refine .inl ⟨?w, m, ?e, Nat.lt_succ_self m, ?i⟩
      case e => rw [az6 (by omega), az8 (by omega), az8 (by omega), az8 (by simp; omega), az8 (by simp; omega), az8 (by simp; omega), az8 (by simp; omega), az8 (by simp; omega)]
      case i => exact ⟨by simp [hx], j + 1, by simp only [wn (show j < 4294967296 by omega)], by omega⟩
theorem xzo (l : List V3) (hl : l.length < 4294967296) : ∃ r, (lz1 l).o = some r := by
  show ∃ r, (hza l).run NN = some r
  simp only [hza, T.run, T.ix]
  suffices h : ∃ r, _ = some r ∧ True from h.imp fun _ h => h.1
  refine ize (fun m (x : Int × Int × Int × Int) => ∃ j : Nat, x.2.2.2 = (j : Int) ∧ j + m = l.length) (fun _ => True) l.length ⟨0, rfl, by omega⟩ hl ?_ fun y _ => ⟨_, rfl, trivial⟩
  rintro m ⟨a, b, c, i⟩ ⟨j, hj, hm⟩
  simp only at hj ⊢
  subst hj
  cases m with
  | zero => exact .inr (.inl ⟨_, by rw [az5 (by omega)], trivial⟩)
  | succ m =>
    refine .inl ⟨?w, m, ?e, Nat.lt_succ_self m, ?i⟩
    case e => rw [az6 (by omega), az8 (by omega)]
    case i => exact ⟨j + 1, by simp only [wn (show j < 4294967296 by omega)], by omega⟩
theorem Hz1 {x : Int} {m : Nat} (h : x.natAbs < 2 ^ (m + 1)) : (x.tdiv 2).natAbs < 2 ^ m := by
  have e : (x.tdiv 2).natAbs = x.natAbs / 2 := by
    rcases Int.le_total 0 x with hx | hx
    · rw [Int.tdiv_eq_ediv_of_nonneg hx]; omega
    · have : x = -(-x) := by omega
      rw [this, Int.neg_tdiv, Int.tdiv_eq_ediv_of_nonneg (by omega)]; omega
  rw [e]
  rw [Nat.pow_succ] at h
  omega
theorem kzl {v : V3} (h1 : InR v.1) (h2 : InR v.2.1) (h3 : InR v.2.2) : ∃ r, (gza v).o = some r ∧ (r.2 = true → bz0 r.1 = true) := by
  show ∃ r, (ezq v).run NN = some r ∧ _
  simp only [ezq, T.run, T.ix, fzm, Option.bind_some]
  have lt64 : ∀ {x : Int}, InR x → x.natAbs < 2 ^ 64 := fun {x} h => by have := h.1; have := h.2; omega
  refine ize (fun m (x : Int × Int × Int) => (InR x.1 ∧ InR x.2.1 ∧ InR x.2.2) ∧ x.1.natAbs < 2 ^ m ∧ x.2.1.natAbs < 2 ^ m ∧ x.2.2.natAbs < 2 ^ m) (fun y : Int × Int × Int => fz6 y 16384 = true) 64 ⟨⟨h1, h2, h3⟩, lt64 h1, lt64 h2, lt64 h3⟩ (by omega) ?_ fun y hy => ⟨_, rfl, fun hr => ?_⟩
  · rintro m ⟨a, b, c⟩ ⟨⟨r1, r2, r3⟩, b1, b2, b3⟩
    simp only at r1 r2 r3 b1 b2 b3 ⊢
    cases hn : fz6 (a, b, c) 16384 with
    | true => exact .inr (.inl ⟨_, rfl, hn⟩)
    | false =>
      cases m with
      | zero =>
        exfalso
        have : fz6 (a, b, c) 16384 = true := nearV_iff.2 (by simp only; omega)
        rw [hn] at this; cases this
      | succ m =>
        refine .inl ⟨_, m, rfl, Nat.lt_succ_self m, ?_⟩
        have q1 := r1.tdiv (b := 2) (by omega)
        have q2 := r2.tdiv (b := 2) (by omega)
        have q3 := r3.tdiv (b := 2) (by omega)
        simp only [q1.w, q2.w, q3.w]
        exact ⟨⟨q1, q2, q3⟩, Hz1 b1, Hz1 b2, Hz1 b3⟩
  · simp only at hr ⊢
    simp only [bz0, hr, Bool.true_and]
    exact hy
theorem Ezh (a b : List IV3) : ∃ r, (jza a b).o = some r := by
  show ∃ r, (fzw a b).run NN = some r
  simp only [fzw, T.run, T.ix, czu, Option.bind_some]
  cases ha : bz4 a with
  | false => exact ⟨_, rfl⟩
  | true =>
    cases hb : bz4 b with
    | false => exact ⟨_, rfl⟩
    | true =>
      obtain ⟨ca, e1, q1⟩ := uzd a
      obtain ⟨cb, e2, q2⟩ := uzd b
      have := dz2 ha
      have := dz2 hb
      obtain ⟨sa, e3⟩ := xzo ca (by rw [q1 ha]; omega)
      obtain ⟨sb, e4⟩ := xzo cb (by rw [q2 hb]; omega)
      obtain ⟨r, e5, _⟩ := kzl (v := (IntKind.i64.wrap (IntKind.i64.wrap (sa.1 * (b.length : Int)) - IntKind.i64.wrap (sb.1 * (a.length : Int))), IntKind.i64.wrap (IntKind.i64.wrap (sa.2.1 * (b.length : Int)) - IntKind.i64.wrap (sb.2.1 * (a.length : Int))), IntKind.i64.wrap (IntKind.i64.wrap (sa.2.2 * (b.length : Int)) - IntKind.i64.wrap (sb.2.2 * (a.length : Int))))) (InR.wr _) (InR.wr _) (InR.wr _)
      refine ⟨(r.1, r.2), ?_⟩
      simp only [e1, e2, e3, e4, e5, Option.bind_some, Bool.not_true, azw, az7, cond_false]
theorem rzx (l : List V3) : ∃ r, (gz9 l).o = some r ∧ (r = true → 1 ≤ l.length ∧ l.length ≤ 8) := by
  show ∃ r, (ezn l).run NN = some r ∧ _
  simp only [ezn, T.run, azw, az7, czr]
  by_cases h : 1 ≤ l.length ∧ l.length ≤ 8
  · rw [decide_eq_false (p := (l.length : Int) < 1) (by omega), decide_eq_false (p := (l.length : Int) > 8) (by omega)]
    rw [wz7 (by rfl)]
    refine ize (fun m (x : Int) => ∃ j : Nat, x = (j : Int) ∧ j + m = l.length) (fun _ => True) l.length ⟨0, rfl, by omega⟩ (by omega) ?_ fun y _ => ⟨_, rfl, fun _ => h⟩
    rintro m _ ⟨j, rfl, hm⟩
    cases m with
    | zero => exact .inr (.inl ⟨_, by rw [az5 (by omega)], trivial⟩)
    | succ m =>
      rw [az6 (by omega), az8 (by omega)]
      generalize hbd : andK _ _ = bd
      have inner : ∃ r, bd = some r ∧ (r = .next ((j + 1 : Nat) : Int) ∨ r = .fin false) := by
        rw [← hbd]
        refine ize (fun m (x : Int) => ∃ i : Nat, x = (i : Int) ∧ i + m = 3) (fun _ => True) 3 ⟨0, rfl, rfl⟩ (by omega) ?_ fun y _ => ⟨_, rfl, .inl (by rw [wn (by omega)])⟩
        rintro m _ ⟨i, rfl, hm⟩
        cases m with
        | zero => exact .inr (.inl ⟨_, by rw [az5 (by omega)], trivial⟩)
        | succ m =>
          rw [az6 (by omega), az8 (by omega)]
          generalize List.getD [_, _, _] _ _ = z
          generalize (decide (z < -268435456) || decide (z > 268435456)) = b
          cases b with
          | true => exact .inr (.inr ⟨_, rfl, .inr rfl⟩)
          | false => exact .inl ⟨_, m, rfl, Nat.lt_succ_self m, i + 1, wn (by omega), by omega⟩
      obtain ⟨r, e, hr⟩ := inner
      rcases hr with rfl | rfl
      · exact .inl ⟨_, m, e, Nat.lt_succ_self m, j + 1, rfl, by omega⟩
      · exact .inr (.inr ⟨_, e, fun hh => by cases hh⟩)
  · refine ⟨false, ?_, fun hh => by cases hh⟩
    rw [Fzu (by simp only [Bool.or_eq_true, decide_eq_true_eq]; omega)]
open Go.Proofs
theorem pzb (l : List V3) (h1 : 1 ≤ l.length) (h2 : l.length < 4294967296) : ∃ r, (fzh l).o = some r ∧ r.1 = l ∧ r.2.length = l.length := by
  refine ⟨(l, (List.replicate l.length (0 : Int)).set 0 65536), ?_, rfl, by simp⟩
  show (eza l).run NN = _
  simp only [eza, T.run]
  rw [az8 (by omega), az8 (by simp; omega), az8 (by simp; omega)]
  simp
theorem Fz6 (l : List V3) (w : List Int) (hw : w.length = l.length) (hl : l.length < 4294967296) : ∃ r, (uzn l w).o = some r := by
  show ∃ r, (pz9 l w).run NN = some r
  simp only [pz9, T.run, T.ix]
  suffices h : ∃ r, _ = some r ∧ True from h.imp fun _ h => h.1
  refine ize (fun m (x : Int × Int × Int × Int) => ∃ j : Nat, x.2.2.2 = (j : Int) ∧ j + m = l.length) (fun _ => True) l.length ⟨0, rfl, by omega⟩ hl ?_ fun y _ => ⟨_, rfl, trivial⟩
  rintro m ⟨a, b, c, i⟩ ⟨j, hj, hm⟩
  simp only at hj ⊢
  subst hj
  cases m with
  | zero => exact .inr (.inl ⟨_, by rw [az5 (by omega)], trivial⟩)
  | succ m =>
    refine .inl ⟨?w, m, ?e, Nat.lt_succ_self m, ?i⟩
    case e => rw [az6 (by omega), az8 (by omega), az8 (by omega), az8 (by omega), az8 (by omega), az8 (by omega), az8 (by omega), az8 (by omega)]
    case i => exact ⟨j + 1, by simp only [wn (show j < 4294967296 by omega)], by omega⟩
def bz7 (a b : V3) : V3 := (IntKind.i64.wrap (a.1 - b.1), IntKind.i64.wrap (a.2.1 - b.2.1), IntKind.i64.wrap (a.2.2 - b.2.2))
theorem hz7 (a b : V3) : (hz6 a b).o = some (bz7 a b) := rfl
def mzk (a b : V3) : Int := IntKind.i64.wrap (IntKind.i64.wrap (IntKind.i64.wrap (a.1 * b.1) + IntKind.i64.wrap (a.2.1 * b.2.1)) + IntKind.i64.wrap (a.2.2 * b.2.2))
theorem fzg (a b : V3) : (ezh a b).o = some (mzk a b) := rfl
theorem zzm {a : V3} (h1 : InR a.1) (h2 : InR a.2.1) (h3 : InR a.2.2) (m : Int) : ∃ r, (izj a m).o = some r := by
  show ∃ r, (ez9 a m).run NN = some r
  simp only [ez9, T.run]
  suffices h : ∃ r, _ = some r ∧ True from h.imp fun _ h => h.1
  refine ize (fun m (x : Int × Int) => ∃ j : Nat, x.2 = (j : Int) ∧ j + m = 3) (fun _ => True) 3 ⟨0, rfl, by omega⟩ (by omega) ?_ fun y _ => ⟨_, rfl, trivial⟩
  rintro m ⟨s, i⟩ ⟨j, hj, hm⟩
  simp only at hj ⊢
  subst hj
  cases m with
  | zero => exact .inr (.inl ⟨_, by rw [az5 (by omega)], trivial⟩)
  | succ m =>
    rw [az6 (by omega), az8 (by omega)]
    have hc : InR (([a.1, a.2.1, a.2.2] : List Int).getD ((j : Int)).toNat 0) := by
      rw [Int.toNat_natCast]
      match j, (show j < 3 by omega) with
      | 0, _ => exact h1
      | 1, _ => exact h2
      | 2, _ => exact h3
    have hs := gzr 16 (by omega) (InR.max hc (InR.wr (0 - (([a.1, a.2.1, a.2.2] : List Int).getD ((j : Int)).toNat 0))))
    rw [show ((16 : Nat) : Int) = 16 from rfl] at hs
    rw [hs]
    exact .inl ⟨_, m, rfl, Nat.lt_succ_self m, j + 1, by simp only [wn (show j < 4294967296 by omega)], by omega⟩
theorem Jz0 (l : List V3) (w : List Int) (n : V3) (h1 : 1 ≤ l.length) (h2 : l.length < 4294967296) : ∃ r, (tz3 l w n).o = some r ∧ 0 ≤ r.2 ∧ r.2 < l.length := by
  show ∃ r, (jzj l w n).run NN = some r ∧ _
  simp only [jzj, T.run, fzg, Option.bind_some]
  rw [az8 (by omega)]
  refine ize (fun m (x : Int × Int × Int) => (∃ j : Nat, x.2.2 = (j : Int) ∧ j + m = l.length) ∧ 0 ≤ x.2.1 ∧ x.2.1 < l.length) (fun y : Int × Int => 0 ≤ y.2 ∧ y.2 < l.length) l.length ⟨⟨0, rfl, by omega⟩, by simp only; omega⟩ h2 ?_ fun y hy => ⟨_, rfl, hy⟩
  rintro m ⟨a, b, i⟩ ⟨⟨j, hj, hm⟩, hb⟩
  simp only at hj hb ⊢
  subst hj
  cases m with
  | zero => exact .inr (.inl ⟨_, by rw [az5 (by omega)], hb⟩)
  | succ m =>
    rw [az6 (by omega), az8 (by omega)]
    generalize decide (mzk n (l.getD ((j : Int)).toNat default) < a) = q
    cases q with
    | true => exact .inl ⟨_, m, rfl, Nat.lt_succ_self m, ⟨j + 1, by simp only [wn (show j < 4294967296 by omega)], by omega⟩, by simp only; omega⟩
    | false => exact .inl ⟨_, m, rfl, Nat.lt_succ_self m, ⟨j + 1, by simp only [wn (show j < 4294967296 by omega)], by omega⟩, hb⟩
theorem Bzl (l : List V3) (w : List Int) (n : V3) (h1 : 1 ≤ l.length) (h2 : l.length < 4294967296) : ∃ r, (kzi l w n).o = some r ∧ 0 ≤ r.2 ∧ r.2 < l.length := by
  show ∃ r, (ezp l w n).run NN = some r ∧ _
  simp only [ezp, T.run, fzg, Option.bind_some]
  rw [az8 (by omega)]
  refine ize (fun m (x : Int × Int × Int) => (∃ j : Nat, x.2.2 = (j : Int) ∧ j + m = l.length) ∧ 0 ≤ x.2.1 ∧ x.2.1 < l.length) (fun y : Int × Int => 0 ≤ y.2 ∧ y.2 < l.length) l.length ⟨⟨0, rfl, by omega⟩, by simp only; omega⟩ h2 ?_ fun y hy => ⟨_, rfl, hy⟩
  rintro m ⟨a, b, i⟩ ⟨⟨j, hj, hm⟩, hb⟩
  simp only at hj hb ⊢
  subst hj
  cases m with
  | zero => exact .inr (.inl ⟨_, by rw [az5 (by omega)], hb⟩)
  | succ m =>
    rw [az6 (by omega), az8 (by omega)]
    generalize decide (mzk n (l.getD ((j : Int)).toNat default) > a) = q
    cases q with
    | true => exact .inl ⟨_, m, rfl, Nat.lt_succ_self m, ⟨j + 1, by simp only [wn (show j < 4294967296 by omega)], by omega⟩, by simp only; omega⟩
    | false => exact .inl ⟨_, m, rfl, Nat.lt_succ_self m, ⟨j + 1, by simp only [wn (show j < 4294967296 by omega)], by omega⟩, hb⟩
theorem Eze (a b : V3) : ∃ r, (oz2 a b).o = some r := by
  show ∃ r, (fzv a b).run NN = some r
  simp only [fzv, T.run, hz7, fzg, Option.bind_some]
  rw [az8 (by omega)]
  generalize decide (mzk a (bz7 a b) ≤ 0) = q
  cases q <;> exact ⟨_, rfl⟩
theorem xzf (l : List V3) (w : List Int) (i t : Int) (h0 : 0 ≤ i) (hi : i < w.length) (hw : w.length < 4294967296) : ∃ r, (kzz l w i t).o = some r ∧ r.length = w.length := by
  show ∃ r, (hz1 l w i t).run NN = some r ∧ _
  simp only [hz1, T.run]
  refine ize (fun m (x : List Int × Int × Int) => x.1.length = w.length ∧ ∃ j : Nat, x.2.2 = (j : Int) ∧ j + m = w.length) (fun y : List Int × Int => y.1.length = w.length) w.length ⟨rfl, 0, rfl, by omega⟩ hw ?_ fun y hy => ?_
  · rintro m ⟨x, s, k⟩ ⟨hx, j, hj, hm⟩
    simp only at hj hx ⊢
    subst hj
    cases m with
    | zero => exact .inr (.inl ⟨_, by rw [az5 (by omega)], hx⟩)
    | succ m =>
      refine .inl ⟨?w, m, ?e, Nat.lt_succ_self m, ?i⟩
      case e => rw [az6 (by omega), az8 (by omega), az8 (by omega), az8 (by omega), az8 (by omega), az8 (by omega), az8 (by omega)]
      case i => exact ⟨by simp [hx], j + 1, by simp only [wn (show j < 4294967296 by omega)], by omega⟩
  · rw [az8 (by omega), az8 (by omega), az8 (by omega), az8 (by omega)]
    exact ⟨_, rfl, by simp [hy]⟩
theorem Lzy (a : List V3) (u : List Int) (b : List V3) (v : List Int) (m : Int) (n : Nat) (hn : n ≤ 64) (hu : u.length = a.length) (hv : v.length = b.length) (ha : 1 ≤ a.length ∧ a.length < 4294967296) (hb : 1 ≤ b.length ∧ b.length < 4294967296) :
    ∃ r, (Dzt a u b v 0 0 0 0 m (n : Int)).o = some r ∧ r.2.2.1.length = a.length ∧ r.2.2.2.2.1.length = b.length := by
  show ∃ r, (mzf a u b v 0 0 0 0 m (n : Int)).run NN = some r ∧ _
  simp only [mzf, T.run, T.ix, hz7, Option.bind_some, ozw]
  refine ize (fun k (x : List Int × List Int × Int × Int × Int × Int) => (x.1.length = a.length ∧ x.2.1.length = b.length) ∧ ∃ j : Nat, x.2.2.2.2.2 = (j : Int) ∧ j + k = n) (fun _ => False) n ⟨⟨hu, hv⟩, 0, rfl, by omega⟩ (by omega) ?_ fun y hy => hy.elim
  rintro k ⟨p, q, c1, c2, c3, st⟩ ⟨⟨hp, hq⟩, j, hj, hk⟩
  simp only at hp hq hj ⊢
  subst hj
  obtain ⟨s1, e1⟩ := Fz6 a p hp ha.2
  obtain ⟨s2, e2⟩ := Fz6 b q hq hb.2
  have hi : InR (bz7 s1 s2).1 ∧ InR (bz7 s1 s2).2.1 ∧ InR (bz7 s1 s2).2.2 := ⟨InR.wr _, InR.wr _, InR.wr _⟩
  obtain ⟨cl, e3⟩ := zzm hi.1 hi.2.1 hi.2.2 m
  simp only [e1, e2, e3, Option.bind_some]
  cases cl with
  | true => exact .inr (.inr ⟨_, rfl, hp, hq⟩)
  | false =>
    have t1 := hi.1.tdiv (b := 65536) (by omega)
    have t2 := hi.2.1.tdiv (b := 65536) (by omega)
    have t3 := hi.2.2.tdiv (b := 65536) (by omega)
    obtain ⟨nm, e4, _⟩ := kzl (v := (IntKind.i64.wrap ((bz7 s1 s2).1.tdiv 65536), IntKind.i64.wrap ((bz7 s1 s2).2.1.tdiv 65536), IntKind.i64.wrap ((bz7 s1 s2).2.2.tdiv 65536))) (InR.wr _) (InR.wr _) (InR.wr _)
    simp only [e4, Option.bind_some, cond_false]
    cases hnm : nm.2 with
    | false => exact .inr (.inr ⟨_, rfl, hp, hq⟩)
    | true =>
      obtain ⟨le, e5, l1, l2⟩ := Jz0 a p nm.1 ha.1 ha.2
      obtain ⟨gr, e6, g1, g2⟩ := Bzl b q nm.1 hb.1 hb.2
      simp only [e5, e6, Option.bind_some, Bool.not_true, cond_false]
      generalize decide (IntKind.i64.wrap (le.1 - gr.1) > IntKind.i64.wrap (Lz3 nm.1 * m)) = far
      cases far with
      | true => exact .inr (.inr ⟨_, rfl, hp, hq⟩)
      | false =>
        simp only [cond_false]
        cases k with
        | zero =>
          have hjn : j = n := by omega
          subst hjn
          rw [dzm rfl]
          exact .inr (.inr ⟨_, rfl, hp, hq⟩)
        | succ k =>
          rw [dzn (by omega), az8 ⟨l1, l2⟩, az8 ⟨g1, g2⟩]
          obtain ⟨pt, e7⟩ := Eze (IntKind.i64.wrap ((bz7 s1 s2).1.tdiv 65536), IntKind.i64.wrap ((bz7 s1 s2).2.1.tdiv 65536), IntKind.i64.wrap ((bz7 s1 s2).2.2.tdiv 65536)) (bz7 (a.getD le.2.toNat default) (b.getD gr.2.toNat default))
          simp only [e7, Option.bind_some]
          by_cases hpt : pt = 0
          · rw [dzm hpt]; exact .inr (.inr ⟨_, rfl, hp, hq⟩)
          · rw [dzn hpt]
            obtain ⟨p', e8, hp'⟩ := xzf a p le.2 pt l1 (by rw [hp]; exact l2) (by rw [hp]; exact ha.2)
            obtain ⟨q', e9, hq'⟩ := xzf b q gr.2 pt g1 (by rw [hq]; exact g2) (by rw [hq]; exact hb.2)
            simp only [e8, e9, Option.bind_some]
            exact .inl ⟨_, k, rfl, Nat.lt_succ_self k, ⟨hp'.trans hp, hq'.trans hq⟩, j + 1, by simp only [wn (show j < 4294967296 by omega)], by omega⟩
theorem rzw (a b : List V3) (m : Int) : ∃ r, (dz3 a b m 64).o = some r ∧ r.Left.length ≤ 8 ∧ r.Right.length ≤ 8 := by
  show ∃ r, (ezm a b m 64).run NN = some r ∧ _
  obtain ⟨ua, e1, h1⟩ := rzx a
  obtain ⟨ub, e2, h2⟩ := rzx b
  simp only [ezm, T.run, e1, e2, Option.bind_some]
  cases ua with
  | false => exact ⟨_, rfl, by simp [nl], by simp [nl]⟩
  | true =>
    cases ub with
    | false => exact ⟨_, rfl, by simp [nl], by simp [nl]⟩
    | true =>
      have h1 := h1 rfl
      have h2 := h2 rfl
      simp only [Bool.not_true, cond_false, azw, czr, az7]
      generalize (decide (m < 0) || (decide (m > 2097152) || (decide ((64 : Int) < 0) || decide ((64 : Int) > 64)))) = q
      cases q with
      | true => exact ⟨_, rfl, by simp [nl], by simp [nl]⟩
      | false =>
        obtain ⟨la, e3, f1, f2⟩ := pzb a h1.1 (by omega)
        obtain ⟨lb, e4, f3, f4⟩ := pzb b h2.1 (by omega)
        obtain ⟨r, e5, w1, w2⟩ := Lzy la.1 la.2 lb.1 lb.2 m 64 (by omega) (by rw [f1, f2]) (by rw [f3, f4]) (by rw [f1]; omega) (by rw [f3]; omega)
        rw [f1] at w1
        rw [f3] at w2
        rw [show ((64 : Nat) : Int) = 64 from rfl] at e5
        simp only [cond_false, e3, e4, e5, Option.bind_some]
        exact ⟨_, rfl, by simp only; omega, by simp only; omega⟩
open Go.Proofs
theorem xzm (a : Int) : (hz8 a).o = some (radV a) := by
  show (hz9 a).run NN = _
  simp only [hz9, T.run, czf, kzp, radV, ge_iff_le]
theorem Czo (a : az0) : (fzu a).o = some (midV a) := by
  rw [vzb]
  unfold midV
  cases h : vV a
  · rfl
  · have := vV_iff.1 h
    rw [w64 (by omega) (by omega)]; rfl
theorem mzb (l : List IV3) : (cz1 l).o = some (cenV l) := by
  show (fzb l).run NN = _
  simp only [fzb, T.run, T.ix, czu, Option.bind_some, Czo, cenV]
  cases hp : bz4 l with
  | false => rfl
  | true =>
    have hl := dz2 hp
    rw [wz7 (by rfl), az8 (by omega), if_pos rfl]
    simp only [Int.toNat_natCast]
    refine (bzn (fun j => (half (cenF l) ((0, 0, 0) : V3) l.length j, (j : Int))) (tab (cenF l) l.length) l.length (by rw [lzp]; rfl) (show l.length < 4294967296 by omega) (fun j hj => ?_) ?_).trans rfl
    · have hx : j < (half (cenF l) ((0, 0, 0) : V3) l.length j).length := by rw [mzo (by omega)]; exact hj
      have h1 : 0 ≤ (j : Int) ∧ (j : Int) < ((half (cenF l) ((0, 0, 0) : V3) l.length j).length : Int) := by omega
      have h2 : j < (half (cenF l) ((0, 0, 0) : V3) l.length j).length ∧ 0 ≤ j := ⟨hx, by omega⟩
      rw [az6 (by omega), az8 (by omega)]
      simp only [Int.toNat_natCast, List.length_set, List.set_set, Fzk hx, az8 h1, az8 h2]
      rw [wn (by omega), ← jz5 hj]; rfl
    · rw [az5 (by omega), qz8]
noncomputable def Czv (a b : List IV3) : V3 × Bool := (jza a b).o.getD default
theorem vzj (a b : List IV3) : (jza a b).o = some (Czv a b) := by
  obtain ⟨r, h⟩ := Ezh a b
  unfold Czv; rw [h]; rfl
noncomputable def yzp (a b : List V3) (m : Int) : cz4 := (dz3 a b m 64).o.getD default
theorem kzb (a b : List V3) (m : Int) : (dz3 a b m 64).o = some (yzp a b m) := by
  obtain ⟨r, h, _⟩ := rzw a b m
  unfold yzp; rw [h]; rfl
theorem Qza (a b : List V3) (m : Int) : (yzp a b m).Left.length ≤ 8 ∧ (yzp a b m).Right.length ≤ 8 := by
  obtain ⟨r, h, h1⟩ := rzw a b m
  unfold yzp; rw [h]; exact h1
def axesL : List V3 := [(1, 0, 0), (-1, 0, 0), (0, 1, 0), (0, -1, 0), (0, 0, 1), (0, 0, -1)]
noncomputable def Fz9 (a : List IV3) (ra : Int) (b : List IV3) (rb : Int) : cz4 := yzp (cenV a) (cenV b) (IntKind.i64.wrap (ra + rb))
noncomputable def Izz (a : List IV3) (ra : Int) (b : List IV3) (rb : Int) : List V3 := bif bz0 (Fz9 a ra b rb).Normal then [(Fz9 a ra b rb).Normal] else []
noncomputable def Nzl (a : List IV3) (ra : Int) (b : List IV3) (rb : Int) : List V3 := (bif (Czv a b).2 then [(Czv a b).1] else []) ++ (axesL ++ Izz a ra b rb)
noncomputable def Fzz (a : List IV3) (ra : Int) (b : List IV3) (rb : Int) (hs : List V3) : List V3 := hs.filter bz0 ++ Nzl a ra b rb
def okF (a : List IV3) (ra : Int) (b : List IV3) (rb : Int) : Bool := bz4 a && (bz4 b && (radV ra && radV rb))
def ofF : Option V3 → V3 × Bool
  | some n => (n, true)
  | none => ((0, 0, 0), false)
noncomputable def zzd (a : List IV3) (ra : Int) (b : List IV3) (rb : Int) (hs : List V3) : V3 × Bool :=
  bif okF a ra b rb then ofF ((Fzz a ra b rb hs).find? fun n => sepV n a ra b rb) else ((0, 0, 0), false)
def PR (F : Option V3) (d : Bool) (x : V3) : Prop := match F with
  | some n => d = true ∧ x = n
  | none => d = false
theorem PR.yes {F : Option V3} {n : V3} (h : some n = F) : PR F true n := by subst h; exact ⟨rfl, rfl⟩
theorem PR.no {F : Option V3} {x : V3} (h : none = F) : PR F false x := by subst h; exact rfl
theorem szt (sp : V3 → Bool) (x : V3) (l : List V3) : (x :: l).find? sp = bif sp x then some x else l.find? sp := by
  rw [List.find?_cons]; cases sp x <;> rfl
theorem Gz5 {l : List V3} {j : Nat} (h : j < l.length) : l.drop j = l.getD j default :: l.drop (j + 1) := by
  rw [List.drop_eq_getElem_cons h]
  congr 1
  rw [List.getD_eq_getElem?_getD, List.getElem?_eq_getElem h, Option.getD_some]
theorem Vz3 {o : V3 → Option Bool} {sp : V3 → Bool} (ho : ∀ x, o x = some (sp x)) (Y : YldS Tryz.prog az1 o) (a b : List IV3) (ra rb : Int) (hs : List V3) (hh : hs.length < 4294967296) :
    ∃ r, (ezv Y a b ra rb hs).o = some r ∧ (okF a ra b rb = false → r.1 = false) ∧ (okF a ra b rb = true → PR ((Fzz a ra b rb hs).find? sp) r.1 r.2.1) := by
  show ∃ r, (ezw Y a b ra rb hs).run NN = some r ∧ _
  have yc : ∀ x0 x, (Y.C false x0 x).o = o x := fun _ _ => rfl
  simp only [ezw, T.run, czu, Option.bind_some, xzm, azw, czr, az7]
  have hq : (!bz4 a || (!bz4 b || (!radV ra || !radV rb))) = !okF a ra b rb := by
    unfold okF; cases bz4 a <;> cases bz4 b <;> cases radV ra <;> cases radV rb <;> rfl
  rw [hq]
  cases okF a ra b rb with
  | false => exact ⟨_, rfl, fun _ => rfl, fun h => by cases h⟩
  | true =>
    simp only [Bool.not_true, cond_false]
    generalize hF : (Fzz a ra b rb hs).find? sp = F
    suffices h : ∃ r : Bool × V3 × List IV3 × List IV3 × Int × Int × List V3, _ = some r ∧ PR F r.1 r.2.1 from h.imp fun _ h => ⟨h.1, (fun h => by cases h), fun _ => h.2⟩
    refine ize (fun m (x : Int × Bool × V3) => x.2.1 = false ∧ ∃ j : Nat, x.1 = (j : Int) ∧ j + m = hs.length ∧ ((hs.drop j).filter bz0 ++ Nzl a ra b rb).find? sp = F) (fun y : Bool × V3 => y.1 = false ∧ (Nzl a ra b rb).find? sp = F) hs.length ⟨rfl, 0, rfl, by omega, by rw [List.drop_zero]; exact hF⟩ hh ?_ ?_
    · rintro m ⟨i, d, x0⟩ ⟨hd, j, hj, hm, hf⟩
      simp only at hd hj hf ⊢
      subst hd; subst hj
      cases m with
      | zero =>
        rw [List.drop_eq_nil_of_le (by omega)] at hf
        exact .inr (.inl ⟨_, by rw [az5 (by omega)], rfl, hf⟩)
      | succ m =>
        rw [Gz5 (by omega), List.filter_cons] at hf
        rw [az6 (by omega), az8 (by omega), dzr, Int.toNat_natCast]
        simp only [Option.bind_some, yc]
        cases hus : bz0 (hs.getD j default) with
        | false =>
          rw [hus, if_neg (by decide)] at hf
          exact .inl ⟨_, m, rfl, Nat.lt_succ_self m, rfl, j + 1, by simp only [wn (show j < 4294967296 by omega)], by omega, hf⟩
        | true =>
          rw [hus, if_pos rfl, List.cons_append, szt] at hf
          simp only [cond_true, ho, Option.bind_some]
          cases hsp : sp (hs.getD j default) with
          | true =>
            rw [hsp] at hf
            exact .inr (.inr ⟨_, rfl, PR.yes hf⟩)
          | false =>
            rw [hsp] at hf
            exact .inl ⟨_, m, rfl, Nat.lt_succ_self m, rfl, j + 1, by simp only [wn (show j < 4294967296 by omega)], by omega, hf⟩
    · rintro ⟨d, x0⟩ ⟨hd, hf⟩
      simp only at hd hf ⊢
      subst hd
      simp only [vzj, Option.bind_some, yc]
      have rest : ∀ (d : Bool) (x1 : V3), d = false → (axesL ++ Izz a ra b rb).find? sp = F → ∃ r, ((oz3).o.bind fun y147 => andK (iter (fun x153 : Int × Bool × V3 => bif decide (x153.1 < ((y147.length : Nat) : Int)) then grd (0 ≤ x153.1 ∧ x153.1 < ((y147.length : Nat) : Int)) ((Y.C x153.2.1 x153.2.2 (y147.getD ((x153.1).toNat) default)).o.bind fun y162 => bif (!(!y162)) then some (Step3.fin (y162, (y147.getD ((x153.1).toNat) default), a, b, ra, rb, hs)) else some (Step3.next ((IntKind.i64.wrap (x153.1 + 1)), y162, (y147.getD ((x153.1).toNat) default)))) else some (Step3.out (x153.2.1, x153.2.2))) NN (0, d, x1)) fun y158 : Bool × V3 =>
          (cz1 a).o.bind fun y166 => (cz1 b).o.bind fun y167 => (dz3 y166 y167 (IntKind.i64.wrap (ra + rb)) 64).o.bind fun y168 => some (bz0 y168.Normal) |>.bind fun y170 => bif y170 then ((Y.C y158.1 y158.2 y168.Normal).o.bind fun y171 => some (y171, y168.Normal, a, b, ra, rb, hs)) else some (y158.1, y158.2, a, b, ra, rb, hs)) = some r ∧ PR F r.1 r.2.1 := by
        intro d x1 hd hf
        subst hd
        have ea : (oz3).o = some axesL := rfl
        rw [ea]
        simp only [Option.bind_some]
        refine ize (fun m (x : Int × Bool × V3) => x.2.1 = false ∧ ∃ j : Nat, x.1 = (j : Int) ∧ j + m = 6 ∧ (axesL.drop j ++ Izz a ra b rb).find? sp = F) (fun y : Bool × V3 => y.1 = false ∧ (Izz a ra b rb).find? sp = F) 6 ⟨rfl, 0, rfl, rfl, by rw [List.drop_zero]; exact hf⟩ (by omega) ?_ ?_
        · rintro m ⟨i, d, x0⟩ ⟨hd, j, hj, hm, hf⟩
          simp only at hd hj hf ⊢
          subst hd; subst hj
          have l6 : axesL.length = 6 := rfl
          rw [l6]
          cases m with
          | zero =>
            rw [List.drop_eq_nil_of_le (by omega)] at hf
            exact .inr (.inl ⟨_, by rw [az5 (by omega)], rfl, hf⟩)
          | succ m =>
            rw [Gz5 (by omega), List.cons_append, szt] at hf
            rw [az6 (by omega), az8 (by omega), yc, Int.toNat_natCast]
            simp only [ho, Option.bind_some]
            cases hsp : sp (axesL.getD j default) with
            | true =>
              rw [hsp] at hf
              exact .inr (.inr ⟨_, rfl, PR.yes hf⟩)
            | false =>
              rw [hsp] at hf
              exact .inl ⟨_, m, rfl, Nat.lt_succ_self m, rfl, j + 1, by simp only [wn (show j < 4294967296 by omega)], by omega, hf⟩
        · rintro ⟨d, x0⟩ ⟨hd, hf⟩
          simp only at hd hf ⊢
          subst hd
          simp only [mzb, kzb, Option.bind_some, yc]
          unfold Izz Fz9 at hf
          cases hus : bz0 (yzp (cenV a) (cenV b) (IntKind.i64.wrap (ra + rb))).Normal with
          | false =>
            rw [hus] at hf
            exact ⟨_, rfl, PR.no hf⟩
          | true =>
            rw [hus, cond_true, szt] at hf
            simp only [cond_true, ho, Option.bind_some]
            refine ⟨_, rfl, ?_⟩
            simp only
            cases hsp : sp (yzp (cenV a) (cenV b) (IntKind.i64.wrap (ra + rb))).Normal with
            | true => rw [hsp] at hf; exact PR.yes hf
            | false => rw [hsp] at hf; exact PR.no hf
      unfold Nzl at hf
      cases hm : (Czv a b).2 with
      | false =>
        rw [hm] at hf
        simp only [cond_false, az7, dzr]
        exact rest false x0 rfl hf
      | true =>
        rw [hm, cond_true, List.cons_append, szt] at hf
        simp only [cond_true, ho, Option.bind_some, az7, dzr]
        cases hsp : sp (Czv a b).1 with
        | true => rw [hsp] at hf; exact ⟨_, rfl, PR.yes hf⟩
        | false => rw [hsp] at hf; exact rest false (Czv a b).1 rfl hf
theorem Ezg (a : List IV3) (ra : Int) (b : List IV3) (rb : Int) (hs : List V3) (hh : hs.length < 4294967296) : (oz4 a ra b rb hs).o = some (zzd a ra b rb hs) := by
  obtain ⟨r, hr, h0, h1⟩ := Vz3 (o := fun x => (jz9 a ra b rb hs x).run NN) (sp := fun n => sepV n a ra b rb) (fun x => by
    simp only [jz9, T.run, zzq, Option.bind_some]
    cases sepV x a ra b rb <;> rfl) YldS.dummy a b ra rb hs hh
  have e1 : (fzq a ra b rb hs).o = some (a, b, ra, rb, hs) := rfl
  have e2 : (oz4 a ra b rb hs).o = (T.run NN (.call (fzq a ra b rb hs) [] fun y1 => .ret y1)).bind fun u => (ezv (o := fun x => (jz9 a ra b rb hs x).run NN) YldS.dummy u.1 u.2.1 u.2.2.1 u.2.2.2.1 u.2.2.2.2).o.bind fun r => bif r.1 then some (r.2.1, true) else some ((0, 0, 0), false) := rfl
  rw [e2]
  simp only [T.run, e1, Option.bind_some, hr, zzd]
  cases hk : okF a ra b rb with
  | false => rw [h0 hk]; rfl
  | true =>
    have h := h1 hk
    generalize (Fzz a ra b rb hs).find? _ = F at h
    cases F with
    | none => have h : r.1 = false := h; rw [h]; rfl
    | some n => obtain ⟨h2, h3⟩ := (show r.1 = true ∧ r.2.1 = n from h); rw [h2, h3]; rfl
open Go.Proofs
def Hz4 : bz6 := ⟨0, nl, nl⟩
noncomputable def fndK (s : aza) (b : List az0) (hs : List V3) (k : Nat) : V3 × Bool := zzd (bz3 s b (pA s k)) (fzi s (pA s k)) (bz3 s b (pB s k)) (fzi s (pB s k)) ((hs.drop k).take 1)
noncomputable def nrK (s : aza) (b : List az0) (k : Nat) : cz4 := Fz9 (bz3 s b (pA s k)) (fzi s (pA s k)) (bz3 s b (pB s k)) (fzi s (pB s k))
noncomputable def ovK (s : aza) (b : List az0) (k : Nat) : Bool := ovV (nrK s b k).Left (nrK s b k).Right (bz3 s b (pA s k)) (fzi s (pA s k)) (bz3 s b (pB s k)) (fzi s (pB s k))
noncomputable def colK (s : aza) (b : List az0) (hs : List V3) (k : Nat) : Option cz5 := sw (!(fndK s b hs k).2 && ovK s b k) ⟨2, nl, ⟨(k : Int), (nrK s b k).Left, (nrK s b k).Right⟩⟩
noncomputable def misK (s : aza) (b : List az0) (hs : List V3) (k : Nat) : Bool := !(fndK s b hs k).2
noncomputable def clsV (s : aza) (b : List az0) (hs : List V3) : cz5 := if czp s = 0 ∧ boxV s.Robot b = true then
    (match scan (colK s b hs) (bzj s).length 0 with
      | some v => v
      | none => ⟨bif bzk (misK s b hs) (bzj s).length then 1 else 0, tab (fun k => (fndK s b hs k).1) (bzj s).length, Hz4⟩)
  else ⟨0, nl, Hz4⟩
theorem Rz0 {a : List IV3} {ra : Int} {b : List IV3} {rb : Int} {hs : List V3} (h : (zzd a ra b rb hs).2 = false) : (zzd a ra b rb hs).1 = (0, 0, 0) := by
  unfold zzd at h ⊢
  generalize okF a ra b rb = k at h ⊢
  cases k with
  | false => rfl
  | true =>
    rw [cond_true] at h ⊢
    generalize List.find? _ _ = F at h ⊢
    cases F with
    | none => rfl
    | some n => cases h
theorem Ozm {a : List IV3} {ra : Int} {b : List IV3} {rb : Int} {hs : List V3} (h : (zzd a ra b rb hs).2 = true) : sepV (zzd a ra b rb hs).1 a ra b rb = true := by
  unfold zzd at h ⊢
  generalize okF a ra b rb = k at h ⊢
  cases k with
  | false => cases h
  | true =>
    rw [cond_true] at h ⊢
    generalize hF : List.find? _ _ = F at h ⊢
    cases F with
    | none => cases h
    | some n => exact List.find?_some (p := fun n => sepV n a ra b rb) hF
theorem Ozr {α : Type} {f : Nat → α} {z : α} {n j : Nat} (h : j < n) (e : f j = z) : half f z n j = half f z n (j + 1) := by
  unfold half
  rw [iz4, show n - j = (n - (j + 1)) + 1 by omega, List.replicate_succ, e, List.append_assoc]; rfl
theorem Fzb {g : Nat → Bool} {n : Nat} : bzk g (n + 1) = (bzk g n && !g n) := by
  rw [Bool.eq_iff_iff, Bool.and_eq_true, noneB_iff, noneB_iff, Bool.not_eq_true']
  constructor
  · exact fun h => ⟨fun i hi => h i (by omega), h n (by omega)⟩
  · intro h i hi
    by_cases e : i = n
    · rw [e]; exact h.2
    · exact h.1 i (by omega)
theorem Tzm (hs : List V3) (j : Nat) : (hs.drop (min (j : Int) (hs.length : Int)).toNat).take ((min ((j + 1 : Nat) : Int) (hs.length : Int)).toNat - (min (j : Int) (hs.length : Int)).toNat) = (hs.drop j).take 1 := by
  by_cases h : j < hs.length
  · rw [show (min (j : Int) (hs.length : Int)).toNat = j by omega, show (min ((j + 1 : Nat) : Int) (hs.length : Int)).toNat - j = 1 by omega]
  · have e1 : hs.drop j = [] := List.drop_eq_nil_of_le (by omega)
    have e2 : hs.drop (min (j : Int) (hs.length : Int)).toNat = [] := List.drop_eq_nil_of_le (by omega)
    rw [e1, e2]; simp
theorem nzk (s : aza) (b : List az0) (hs : List V3) (hb : b.length < 4294967296) (hh : hs.length < 4294967296) : (jz1 s b hs).o = some (clsV s b hs) := by
  show (nzj s b hs).run NN = _
  have hp := Bzb s b hb
  have hlen := xzr s
  simp only [nzj, T.run]
  rw [show (⟨s.Robot, s.Shapes, s.Skips⟩ : aza) = s from rfl, hp]
  simp only [Option.bind_some]
  unfold clsV
  by_cases h : czp s = 0 ∧ boxV s.Robot b = true
  · rw [if_pos h, if_pos h]
    rw [wz7 (by rfl), az8 (by simp only; omega)]
    simp only [Int.toNat_natCast]
    refine (lzs (fun j => (half (fun k => (fndK s b hs k).1) ((0, 0, 0) : V3) (bzj s).length j, bzk (misK s b hs) j, (j : Int))) (colK s b hs) (tab (fun k => (fndK s b hs k).1) (bzj s).length, bzk (misK s b hs) (bzj s).length) (bzj s).length ?_ (show (bzj s).length < 4294967296 by omega) (fun j hjl => ?_) ?_).trans ?_
    · rw [lzp]
      have : bzk (misK s b hs) 0 = true := noneB_iff.2 fun i hi => by omega
      rw [this]; rfl
    · have hc := Fzv (b := b) h hjl
      dsimp only
      rw [az6 (by omega), hc]
      simp only [Option.bind_some, wn (show j < 4294967296 by omega)]
      rw [az8 (by omega), Tzm, Ezg _ _ _ _ _ (by simp; omega)]
      simp only [Option.bind_some]
      have ef : zzd (bz3 s b (pA s j)) (fzi s (pA s j)) (bz3 s b (pB s j)) (fzi s (pB s j)) ((hs.drop j).take 1) = fndK s b hs j := rfl
      rw [ef, Fzb]
      unfold colK
      have hm : misK s b hs j = !(fndK s b hs j).2 := rfl
      rw [hm]
      cases hf : (fndK s b hs j).2 with
      | true =>
        simp only [cond_true, mzo (show j ≤ (bzj s).length by omega)]
        rw [az8 (by omega), az8 (by omega), az7, Int.toNat_natCast, jz5 hjl]
        simp only [Bool.not_true, Bool.not_false, Bool.and_true, Bool.false_and, sw, cond_false]
      | false =>
        have en := Rz0 (ef ▸ hf)
        rw [ef] at en
        simp only [cond_false, mzb, kzb, Option.bind_some, xzp]
        have eo : ovV (yzp (cenV (bz3 s b (pA s j))) (cenV (bz3 s b (pB s j))) (IntKind.i64.wrap (fzi s (pA s j) + fzi s (pB s j)))).Left (yzp (cenV (bz3 s b (pA s j))) (cenV (bz3 s b (pB s j))) (IntKind.i64.wrap (fzi s (pA s j) + fzi s (pB s j)))).Right (bz3 s b (pA s j)) (fzi s (pA s j)) (bz3 s b (pB s j)) (fzi s (pB s j)) = ovK s b j := rfl
        rw [eo, Ozr hjl en]
        simp only [Bool.not_true, Bool.not_false, Bool.and_false, Bool.true_and]
        cases ovK s b j with
        | true => rfl
        | false => rfl
    · dsimp only
      rw [az5 (by omega), qz8]
    · cases scan (colK s b hs) (bzj s).length 0 with
      | some v => rfl
      | none => cases bzk (misK s b hs) (bzj s).length <;> rfl
  · rw [if_neg h, if_neg h]; rfl
theorem Iza (s : aza) (b : List az0) (hs : List V3) :
    ((clsV s b hs).Kind = 0 ∧ (clsV s b hs).Witness = Hz4) ∨
    ((clsV s b hs).Kind = 1 ∧ (clsV s b hs).Witness = Hz4 ∧ (czp s = 0 ∧ boxV s.Robot b = true) ∧ Ozo s b (clsV s b hs).Normals = true) ∨
    ((clsV s b hs).Kind = 2 ∧ (clsV s b hs).Normals = [] ∧ Oze s b (clsV s b hs).Witness = true ∧ (clsV s b hs).Witness.Left.length ≤ 8 ∧ (clsV s b hs).Witness.Right.length ≤ 8) := by
  unfold clsV
  by_cases h : czp s = 0 ∧ boxV s.Robot b = true
  · rw [if_pos h]
    cases hs' : scan (colK s b hs) (bzj s).length 0 with
    | some v =>
      obtain ⟨j, -, hj, hc, -⟩ := gz6 _ _ hs'
      unfold colK sw at hc
      cases hk : (!(fndK s b hs j).2 && ovK s b j) with
      | false => rw [hk] at hc; cases hc
      | true =>
        rw [hk] at hc
        simp only [cond_true, Option.some.injEq] at hc
        subst hc
        simp only [Bool.and_eq_true] at hk
        have l := Qza (cenV (bz3 s b (pA s j))) (cenV (bz3 s b (pB s j))) (IntKind.i64.wrap (fzi s (pA s j) + fzi s (pB s j)))
        refine .inr (.inr ⟨rfl, rfl, ?_, l.1, l.2⟩)
        unfold Oze
        rw [if_pos ⟨h, by simp only; omega, by simp only; omega⟩]
        exact hk.2
    | none =>
      dsimp only
      cases hn : bzk (misK s b hs) (bzj s).length with
      | false => exact .inl ⟨rfl, rfl⟩
      | true =>
        refine .inr (.inl ⟨rfl, rfl, h, ?_⟩)
        simp only [Ozo, Bool.and_eq_true, decide_eq_true_eq, noneB_iff, sepK, Bool.not_eq_false']
        refine ⟨h.1, h.2, bzv _ _, fun k hk => ?_⟩
        rw [kzn hk]
        have := noneB_iff.1 hn k hk
        simp only [misK, Bool.not_eq_false'] at this
        exact Ozm this
  · rw [if_neg h]; exact .inl ⟨rfl, rfl⟩
theorem Kzj (s : aza) (b : List az0) (hs : List V3) : (clsV s b hs).Normals.length ≤ 576 := by
  have hl := xzr s
  rcases Iza s b hs with _ | _ | ⟨_, h, _⟩
  · unfold clsV
    split
    · split
      · rename_i hs'
        obtain ⟨j, -, hj, hc, -⟩ := gz6 _ _ hs'
        unfold colK sw at hc
        cases hk : (!(fndK s b hs j).2 && ovK s b j) with
        | false => rw [hk] at hc; cases hc
        | true =>
          rw [hk] at hc
          simp only [cond_true, Option.some.injEq] at hc
          subst hc; simp [nl]
      · simp only [bzv]; exact hl
    · simp [nl]
  · unfold clsV
    split
    · split
      · rename_i hs'
        obtain ⟨j, -, hj, hc, -⟩ := gz6 _ _ hs'
        unfold colK sw at hc
        cases hk : (!(fndK s b hs j).2 && ovK s b j) with
        | false => rw [hk] at hc; cases hc
        | true =>
          rw [hk] at hc
          simp only [cond_true, Option.some.injEq] at hc
          subst hc; simp [nl]
      · simp only [bzv]; exact hl
    · simp [nl]
  · rw [h]; simp
end Go.Abs
