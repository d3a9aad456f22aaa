/-
  DL2 (a part of a claim: our own text).
-/
import Derived.Test.YtkjkbdobenmgbaaGreatXNDL1
namespace Go.Abs
open Go.Proofs
def eqV (a b : List Int) : Bool := decide (a = b)
theorem wz5 (a b : List Int) (h : a.length < 4294967296) : (iz4 a b).o = some (eqV a b) := by
  show (iz5 a b).run NN = _
  simp only [iz5, T.run]
  unfold eqV
  by_cases e : a.length = b.length
  · rw [cz9 (by omega)]
    refine (jzp (fun j => sw (a.getD j default != b.getD j default) false) a.length h (fun j hj => ?_) ?_).trans ?_
    · rw [az7 (by omega), az4 (by omega), az4 (by omega), wn (by omega), Int.toNat_natCast, ← izw]
    · rw [az6 (by omega)]
    · rw [mzl]
      by_cases hn : gzx (fun j => a.getD j default != b.getD j default) a.length = true
      · rw [hn]
        have : a = b := pzt e fun i hi => by
          have := of_decide_eq_true hn i hi
          simpa using this
        rw [decide_eq_true this]; rfl
      · have hn' : gzx (fun j => a.getD j default != b.getD j default) a.length = false := by simpa using hn
        rw [hn']
        have : a ≠ b := fun h => hn (by subst h; exact decide_eq_true (fun i _ => by simp))
        rw [decide_eq_false this]; rfl
  · rw [ezb (by omega), decide_eq_false (fun h => e (by rw [h]))]
def memB (l : List (List Int)) (c : List Int) : Bool := decide (c ∈ l)
theorem uzw (l : List (List Int)) (c : List Int) (hl : l.length < 4294967296) (hn : ∀ x ∈ l, x.length < 4294967296) : ∃ z, (gzy l c).o = some z ∧ decide (z ≥ 0) = memB l c := by
  refine ⟨match scan (fun i => sw (eqV (l.getD i default) c) (i : Int)) l.length 0 with | some x => x | none => -1, ?_, ?_⟩
  · show (dz7 l c).run NN = _
    simp only [dz7, T.run]
    refine (jzp (fun i => sw (eqV (l.getD i default) c) (i : Int)) l.length hl (fun j hj => ?_) ?_).trans ?_
    · rw [az7 (by omega), az4 (by omega), wn (by omega), Int.toNat_natCast, wz5 _ _ (hn _ (azl hj))]
      simp only [Option.bind_some]
      rw [← izw]
    · rw [az6 (by omega)]
    · cases scan (fun i => sw (eqV (l.getD i default) c) (i : Int)) l.length 0 <;> rfl
  · refine (Azk (g := fun i => eqV (l.getD i default) c) (n := l.length)).trans ?_
    unfold memB gzx
    rw [Bool.eq_iff_iff]
    simp only [Bool.not_eq_true', decide_eq_false_iff_not, decide_eq_true_eq]
    constructor
    · intro h
      simp only [Classical.not_forall] at h
      obtain ⟨i, hi, he⟩ := h
      have he : l.getD i default = c := by simpa [eqV] using he
      rw [← he]; exact azl hi
    · intro h h2
      obtain ⟨i, hi, rfl⟩ := List.getElem_of_mem h
      have := h2 i hi
      simp [eqV, List.getD_eq_getElem?_getD, hi] at this
abbrev K10 := Int × Int × Int × Int × Int × Int × Int × Int × Int × Int
def keyC (c : List Int) : K10 := ((if 0 < c.length then c.getD 0 default else 0), (if 1 < c.length then c.getD 1 default else 0), (if 2 < c.length then c.getD 2 default else 0), (if 3 < c.length then c.getD 3 default else 0), (if 4 < c.length then c.getD 4 default else 0), (if 5 < c.length then c.getD 5 default else 0), (if 6 < c.length then c.getD 6 default else 0), (if 7 < c.length then c.getD 7 default else 0), (if 8 < c.length then c.getD 8 default else 0), (if 9 < c.length then c.getD 9 default else 0))
theorem Fzu {a b : List Int} (hl : a.length = b.length) (h10 : a.length ≤ 10) (h : keyC a = keyC b) : a = b := by
  refine pzt hl fun i hi => ?_
  simp only [keyC, Prod.mk.injEq, ← hl] at h
  obtain ⟨h0, h1, h2, h3, h4, h5, h6, h7, h8, h9⟩ := h
  have hi10 : i < 10 := by omega
  match i, hi10 with
  | 0, _ => simpa [hi] using h0
  | 1, _ => simpa [hi] using h1
  | 2, _ => simpa [hi] using h2
  | 3, _ => simpa [hi] using h3
  | 4, _ => simpa [hi] using h4
  | 5, _ => simpa [hi] using h5
  | 6, _ => simpa [hi] using h6
  | 7, _ => simpa [hi] using h7
  | 8, _ => simpa [hi] using h8
  | 9, _ => simpa [hi] using h9
theorem Kz1 (a b : K10) : mz5 (azo a) (azo b) = true ↔ a = b := by
  obtain ⟨a0, a1, a2, a3, a4, a5, a6, a7, a8, a9⟩ := a
  obtain ⟨b0, b1, b2, b3, b4, b5, b6, b7, b8, b9⟩ := b
  simp only [mz5, azo, czi, if_true, Option.map_some]
  simp
def mapC (l : List (List Int)) : List (K10 × Bool) := (l.map fun c => (keyC c, true)).reverse
theorem Fzz (l : List (List Int)) (c : List Int) : nzo azo (mapC l) (azo (keyC c)) = true ↔ ∃ x ∈ l, keyC x = keyC c := by
  unfold mapC
  rw [← List.map_reverse]
  have : (∃ x ∈ l, keyC x = keyC c) ↔ ∃ x ∈ l.reverse, keyC x = keyC c := by simp
  rw [this]
  induction l.reverse with
  | nil => simp [nzo]
  | cons a l ih =>
    simp only [List.map_cons, nzo]
    by_cases e : mz5 (azo (keyC c)) (azo (keyC a)) = true
    · rw [if_pos e]
      exact ⟨fun _ => ⟨a, List.mem_cons_self .., ((Kz1 _ _).1 e).symm⟩, fun _ => rfl⟩
    · rw [if_neg e]
      refine Iff.trans ih ⟨fun ⟨x, h1, h2⟩ => ⟨x, List.mem_cons_of_mem _ h1, h2⟩, fun ⟨x, h1, h2⟩ => ?_⟩
      rcases List.mem_cons.1 h1 with rfl | h1
      · exact absurd ((Kz1 _ _).2 h2.symm) e
      · exact ⟨x, h1, h2⟩
def disL (r : az8) (pts : List (List Int)) : Nat → List (List Int)
  | 0 => []
  | j + 1 => if bzk r (pts.getD j default) = true ∧ ¬ pts.getD j default ∈ disL r pts j then disL r pts j ++ [pts.getD j default] else disL r pts j
theorem lzr (r : az8) (pts : List (List Int)) : ∀ j, (disL r pts j).length ≤ j
  | 0 => Nat.le_refl _
  | j + 1 => by
    have := lzr r pts j
    unfold disL
    split
    · simp; omega
    · omega
theorem ozn (r : az8) (pts : List (List Int)) : ∀ j x, x ∈ disL r pts j → bzk r x = true
  | 0, _, h => by cases h
  | j + 1, x, h => by
    unfold disL at h
    split at h
    · rename_i hc
      rcases List.mem_append.1 h with h | h
      · exact ozn r pts j x h
      · simp at h; subst h; exact hc.1
    · exact ozn r pts j x h
theorem xzy (r : az8) (pts : List (List Int)) : ∀ j, j ≤ pts.length → ((disL r pts j).length = j ↔ ∀ i, i < j → bzk r (pts.getD i default) = true ∧ ¬ pts.getD i default ∈ pts.take i) ∧ ((disL r pts j).length = j → disL r pts j = pts.take j)
  | 0, _ => ⟨⟨fun _ i hi => by omega, fun _ => rfl⟩, fun _ => by simp [disL]⟩
  | j + 1, hj => by
    obtain ⟨h1, h2⟩ := xzy r pts j (by omega)
    have hl := lzr r pts j
    have key : (disL r pts (j + 1)).length = j + 1 → (disL r pts j).length = j ∧ bzk r (pts.getD j default) = true ∧ ¬ pts.getD j default ∈ disL r pts j := by
      intro h
      unfold disL at h
      split at h
      · rename_i hc
        simp at h
        exact ⟨by omega, hc⟩
      · omega
    refine ⟨⟨fun h i hi => ?_, fun h => ?_⟩, fun h => ?_⟩
    · obtain ⟨k1, k2, k3⟩ := key h
      by_cases e : i = j
      · subst e; rw [h2 k1] at k3; exact ⟨k2, k3⟩
      · exact h1.1 k1 i (by omega)
    · have k1 := h1.2 fun i hi => h i (by omega)
      obtain ⟨k2, k3⟩ := h j (by omega)
      unfold disL
      rw [if_pos ⟨k2, by rw [h2 k1]; exact k3⟩]
      simp; omega
    · obtain ⟨k1, k2, k3⟩ := key h
      unfold disL
      rw [if_pos ⟨k2, k3⟩, h2 k1, ← lzj (by omega)]
theorem mzr (l : List Int) (h : l.length < 4294967296) : (bzb l).o = some l := by
  show (ezn l).run NN = _
  cases l with
  | nil => rfl
  | cons a l =>
    simp only [ezn, T.run]
    simp only [List.length_cons] at h
    rw [az4 (by simp), az4 ⟨by simp only [List.length_nil, List.length_cons]; omega, by simp only [List.length_nil, List.length_cons, azt]; omega⟩]; rfl
theorem ez9 {r : az8} {c : List Int} (h : bzk r c = true) : c.length = r.Joints.length ∧ c.length ≤ 10 := by
  unfold bzk at h
  simp only [Bool.and_eq_true, decide_eq_true_eq] at h
  have := (gzl h.1).2.1
  omega
theorem vzr (r : az8) (pts : List (List Int)) (hl : pts.length ≤ 1000) : (izo r pts).o = some (disL r pts pts.length) := by
  show (izp r pts).run NN = _
  have er : (⟨r.Joints, r.Masses⟩ : az8) = r := rfl
  simp only [izp, T.run, er, ozl, Option.bind_some]
  refine (nzk (fun j => (disL r pts j, mapC (disL r pts j), (j : Int))) (disL r pts pts.length) pts.length rfl (by show _ < 4294967296; omega) (fun j hj => ?_) ?_).trans rfl
  · have hlen := lzr r pts j
    have hin := ozn r pts j
    dsimp only
    rw [az7 (by omega), az4 (by omega), ezt (by omega), wn (by omega), Int.toNat_natCast]
    have hs : disL r pts (j + 1) = if bzk r (pts.getD j default) = true ∧ ¬ pts.getD j default ∈ disL r pts j then disL r pts j ++ [pts.getD j default] else disL r pts j := rfl
    rw [hs]
    generalize pts.getD j default = c at *
    cases hc : bzk r c with
    | false => simp only [Bool.not_false, cond_true, az5]; rw [if_neg (fun h => by cases h.1)]
    | true =>
      simp only [Bool.not_true, cond_false]
      have hcl := ez9 hc
      have hk := Fzz (disL r pts j) c
      have hiff : (∃ x ∈ disL r pts j, keyC x = keyC c) ↔ c ∈ disL r pts j := ⟨fun ⟨x, h1, h2⟩ => by
        have hx := ez9 (hin x h1)
        have := Fzu (by omega) (by omega) h2
        rw [← this]; exact h1, fun h => ⟨c, h, rfl⟩⟩
      rw [hiff] at hk
      by_cases hm : c ∈ disL r pts j
      · have hk := hk.2 hm
        unfold keyC at hk
        rw [if_neg (c := True ∧ ¬ c ∈ disL r pts j) (fun h => h.2 hm)]
        simp only [hk]; rfl
      · have hk := Bool.eq_false_iff.2 (fun h => hm (hk.1 h))
        unfold keyC at hk
        rw [if_pos (c := True ∧ ¬ c ∈ disL r pts j) ⟨trivial, hm⟩]
        simp only [hk]
        simp only [Bool.not_false, cond_true]
        rw [mzr c (by omega)]
        simp only [Option.bind_some]
        rw [az4 (by simp only [List.length_cons, List.length_nil, azt]; omega), az5]
        have : mapC (disL r pts j ++ [c]) = (keyC c, true) :: mapC (disL r pts j) := by simp [mapC]
        rw [this]; rfl
  · dsimp only; rw [az6 (by omega)]
theorem max_comm' (a b : Int) : max a b = max b a := by omega
def badD (r : az8) (p q : List Int) : Bool := !(decide (p.length = r.Joints.length) && (decide (q.length = r.Joints.length) && (oze p && (oze q && decide (dz4 r = 0)))))
def Kzp (r : az8) (p q : List Int) (a : Int) (j : Nat) : Int := IntKind.i64.wrap (a + IntKind.i64.wrap ((r.Joints.getD j default).Weight * max (IntKind.i64.wrap (q.getD j default - p.getD j default)) (IntKind.i64.wrap (p.getD j default - q.getD j default))))
def sumD (r : az8) (p q : List Int) : Nat → Int
  | 0 => 0
  | n + 1 => Kzp r p q (sumD r p q n) n
def dstV (r : az8) (p q : List Int) : Int := bif badD r p q then 0 else sumD r p q r.Joints.length
theorem tzz (r : az8) (p q : List Int) (hp : p.length < 4294967296) (hq : q.length < 4294967296) : (izz r p q).o = some (dstV r p q) := by
  show (jz0 r p q).run NN = _
  have er : (⟨r.Joints, r.Masses⟩ : az8) = r := rfl
  simp only [jz0, T.run, er, qz6 p hp, qz6 q hq, izr, Option.bind_some]
  unfold dstV badD
  by_cases c1 : p.length = r.Joints.length
  · by_cases c2 : q.length = r.Joints.length
    · rw [cz9 (by omega), cz9 (by omega), decide_eq_true c1, decide_eq_true c2]
      simp only [fz6, az5, Bool.true_and]
      cases oze p with
      | false => rfl
      | true =>
        cases oze q with
        | false => rfl
        | true =>
          by_cases c3 : dz4 r = 0
          · have hr := (gzl c3).2.1
            rw [decide_eq_true c3]
            simp only [Bool.not_true, cond_false, c3, bne_self_eq_false, Bool.and_self, Bool.not_true]
            refine (nzk (fun j => (sumD r p q j, (j : Int))) (sumD r p q r.Joints.length) r.Joints.length rfl (by show _ < 4294967296; omega) (fun j hj => ?_) ?_).trans rfl
            · have g1 : 0 ≤ (j : Int) ∧ (j : Int) < (r.Joints.length : Int) := by omega
              have g2 : 0 ≤ (j : Int) ∧ (j : Int) < (p.length : Int) := by omega
              have g3 : 0 ≤ (j : Int) ∧ (j : Int) < (q.length : Int) := by omega
              rw [az7 (by omega)]
              simp only [az4 g1, az4 g2, az4 g3, wn (show j < 4294967296 by omega), Int.toNat_natCast]
              rfl
            · rw [az6 (by omega)]
          · rw [decide_eq_false c3]
            have : (dz4 r != 0) = true := by simpa using c3
            simp only [Bool.not_true, cond_false, this, Bool.and_false, Bool.not_false, cond_true]
    · rw [cz9 (by omega), ezb (by omega), az5, decide_eq_false c2]; simp only [Bool.and_false, Bool.false_and, Bool.not_false, cond_true]
  · rw [ezb (by omega), az5, decide_eq_false c1]; simp only [Bool.and_false, Bool.false_and, Bool.not_false, cond_true]
theorem tzq (r : az8) (p q : List Int) (hp : p.length < 4294967296) (hq : q.length < 4294967296) : (czx r p q).o = some (dstV r p q) := by
  show (kz5 r p q).run NN = _
  have er : (⟨r.Joints, r.Masses⟩ : az8) = r := rfl
  simp only [kz5, T.run, er, rzm p hp, rzm q hq, gzz, Option.bind_some]
  unfold dstV badD
  by_cases c3 : dz4 r = 0
  · have hr := (gzl c3).2.1
    rw [cz9 c3, decide_eq_true c3]
    cases oze p with
    | false => simp only [Bool.not_true, Bool.not_false, cond_true, cond_false, az5, Bool.and_false, Bool.false_and]
    | true =>
      cases oze q with
      | false => simp only [Bool.not_true, Bool.not_false, cond_true, cond_false, az5, Bool.and_false, Bool.false_and]
      | true =>
        simp only [Bool.not_true, cond_false]
        by_cases c1 : p.length = r.Joints.length
        · rw [cz9 (by omega)]
          by_cases c2 : q.length = r.Joints.length
          · have h1 : (((q.length : Nat) : Int) != ((p.length : Nat) : Int)) = false := by simp; omega
            rw [h1, az5, decide_eq_true c1, decide_eq_true c2]
            simp only [cond_false, Bool.and_self, Bool.not_true]
            refine (nzk (fun j => (sumD r p q j, (j : Int))) (sumD r p q r.Joints.length) r.Joints.length rfl (by show _ < 4294967296; omega) (fun j hj => ?_) ?_).trans rfl
            · have g1 : 0 ≤ (j : Int) ∧ (j : Int) < (r.Joints.length : Int) := by omega
              have g2 : 0 ≤ (j : Int) ∧ (j : Int) < (p.length : Int) := by omega
              have g3 : 0 ≤ (j : Int) ∧ (j : Int) < (q.length : Int) := by omega
              rw [az7 (by omega)]
              simp only [az4 g1, az4 g2, az4 g3, wn (show j < 4294967296 by omega), Int.toNat_natCast]
              rw [max_comm']
              rfl
            · rw [az6 (by omega)]
          · have h1 : (((q.length : Nat) : Int) != ((p.length : Nat) : Int)) = true := by simp; omega
            rw [h1, az5, decide_eq_false c2]; simp only [Bool.not_true, Bool.not_false, cond_true, cond_false, az5, Bool.and_false, Bool.false_and]
        · rw [ezb (by omega), az5, decide_eq_false c1]; simp only [Bool.not_true, Bool.not_false, cond_true, cond_false, az5, Bool.and_false, Bool.false_and]
  · rw [ezb c3, az5, decide_eq_false c3]; simp only [Bool.not_true, Bool.not_false, cond_true, cond_false, az5, Bool.and_false, Bool.false_and]
open Go.Proofs
def ltE (a b : az1) : Bool := decide (a.U < b.U ∨ (a.U = b.U ∧ a.V < b.V))
theorem cmpI (a b : Int) : (bz6 a b).o = some (if a < b then -1 else if a > b then 1 else 0) := by
  have h : ∀ x, (kzz x).o = some (x != x) := fun _ => rfl
  show (izx a b).run NN = _
  simp only [izx, T.run, h, Option.bind_some, bne_self_eq_false, cond_false]
  by_cases c1 : a < b
  · rw [az7 c1, if_pos c1]
  · rw [az6 c1, if_neg c1]
    by_cases c2 : a > b
    · rw [az7 c2, if_pos c2]
    · rw [az6 c2, if_neg c2]
theorem Azw (a b : Int) : (lzp [a, b]).o = some (if a ≠ 0 then a else b) := by
  show (ozk [a, b]).run NN = _
  simp only [ozk, T.run]
  have hl : ([a, b] : List Int).length = 2 := rfl
  refine (jzp (fun j => sw (([a, b] : List Int).getD j default != 0) (([a, b] : List Int).getD j default)) 2 (by decide) (fun j hj => ?_) (by rw [az6 (by simp)])).trans ?_
  · rw [az7 (by rw [hl]; omega), az4 (by rw [hl]; omega), wn (by omega), Int.toNat_natCast, ← izw]
  · have e1 : ([a, b] : List Int).getD 0 default = a := rfl
    have e2 : ([a, b] : List Int).getD 1 default = b := rfl
    simp only [scan, e1, e2, sw]
    by_cases h1 : a = 0
    · subst h1
      by_cases h2 : b = 0
      · subst h2; rfl
      · have hb : (b != 0) = true := by simpa using h2
        rw [hb]; rfl
    · have ha : (a != 0) = true := by simpa using h1
      rw [ha, if_pos h1]; rfl
def cmpI' (a b : Int) : Int := if a < b then -1 else if a > b then 1 else 0
def cmpE (a b : az1) : Int := if cmpI' a.U b.U ≠ 0 then cmpI' a.U b.U else cmpI' a.V b.V
theorem Czo (a b : az1) : ∃ z, (azp a b).o = some z ∧ decide (z ≥ 0) = !ltE a b := by
  refine ⟨cmpE a b, ?_, ?_⟩
  · show (fzd a b).run NN = _
    simp only [fzd, T.run, cmpI, Azw, Option.bind_some]; rfl
  · unfold ltE cmpE cmpI'
    rw [Bool.eq_iff_iff]
    simp only [decide_eq_true_eq, Bool.not_eq_true', decide_eq_false_iff_not]
    by_cases c1 : a.U < b.U
    · simp [c1]
    · by_cases c2 : a.U > b.U
      · simp [c1, c2]; omega
      · by_cases c3 : a.V < b.V
        · simp [c1, c2, c3]; omega
        · by_cases c4 : a.V > b.V
          · simp [c1, c2, c3, c4]
          · simp [c1, c2, c3, c4]
def uzd (s : Int) : Int := bif s == 1 then 1 else bif s == 2 then 2 else 0
theorem Hza (s : Int) : (mzh s).o = some (uzd s) := by
  show (mzi s).run NN = _
  simp only [mzi, T.run, hzk]; rfl
theorem Fzv (s : Int) : (qzh s).o = some (uzd s) := by
  show (mze s).run NN = _
  simp only [mze, T.run, hzk]; rfl
def Ezy (x : azc) : Bool := (x.Kind == 0) && ((((x.Pieces.length : Nat) : Int) == 0) && ((x.At.Depth == 0) && ((x.At.Index == 0) && ((((x.At.Normals.length : Nat) : Int) == 0) && ((x.Witness.Pair == 0) && ((((x.Witness.Left.length : Nat) : Int) == 0) && (((x.Witness.Right.length : Nat) : Int) == 0)))))))
theorem Dza (x : azc) : (nz0 x).o = some (Ezy x) := by
  show (jz9 x).run NN = _
  simp only [jz9, T.run, hzk, ozj]; rfl
theorem Czc (x : azc) : (ozc x).o = some (Ezy x) := by
  show (kza x).run NN = _
  simp only [kza, T.run, hzk, ozj]; rfl
def StV (e : az1) : Prop := (0 ≤ e.State ∧ e.State ≤ 3) ∧ e.Proof.Kind = uzd e.State ∧ (e.State = 0 → Ezy e.Proof = true)
def EdV (r : az8) (m : aza) (e : az1) : Prop := (yz0 m e = true ∧ e.U < e.V) ∧ e.Cost = dstV r (m.Points.getD e.U.toNat default) (m.Points.getD e.V.toNat default) ∧ StV e
def PtB (m : aza) : Prop := m.Points.length ≤ 1000 ∧ m.Edges.length ≤ 1000 ∧ ∀ c ∈ m.Points, c.length < 4294967296
theorem endsV_iff {m : aza} {e : az1} : yz0 m e = true ↔ (0 ≤ e.U ∧ e.U < (m.Points.length : Int) ∧ 0 ≤ e.V ∧ e.V < (m.Points.length : Int)) := by unfold yz0; rw [decide_eq_true_eq]
theorem Azr (r : az8) (m : aza) (e : az1) (hm : PtB m) : ∃ b, (lzh r m e).o = some b ∧ (b = true ↔ EdV r m e) := by
  show ∃ b, (iz7 r m e).run NN = some b ∧ _
  simp only [iz7, T.run, Dz4, Hza, Dza, Option.bind_some]
  cases h1 : yz0 m e with
  | false =>
    refine ⟨false, rfl, ⟨fun h => (by cases h), fun h => ?_⟩⟩
    rw [h.1.1] at h1; cases h1
  | true =>
    obtain ⟨a1, a2, a3, a4⟩ := endsV_iff.1 h1
    simp only [Bool.not_true, cond_false]
    by_cases h2 : e.U < e.V
    · have l1 := hm.2.2 _ (azl (show e.U.toNat < m.Points.length by omega))
      have l2 := hm.2.2 _ (azl (show e.V.toNat < m.Points.length by omega))
      rw [az6 (by omega), az4 (by omega), az4 (by omega), tzz r _ _ l1 l2]
      simp only [Option.bind_some, az5]
      by_cases h3 : e.Cost = dstV r (m.Points.getD e.U.toNat default) (m.Points.getD e.V.toNat default)
      · rw [cz9 h3]
        by_cases h4 : e.State < 0
        · rw [az7 h4, az5]
          exact ⟨false, rfl, ⟨fun h => (by cases h), fun h => by have := h.2.2.1; omega⟩⟩
        · rw [az6 h4]
          by_cases h5 : e.State > 3
          · rw [az7 h5, az5]
            exact ⟨false, rfl, ⟨fun h => (by cases h), fun h => by have := h.2.2.1; omega⟩⟩
          · rw [az6 h5, az5]
            by_cases h6 : e.Proof.Kind = uzd e.State
            · rw [cz9 h6]
              by_cases h7 : e.State = 0
              · rw [cz9 h7]
                refine ⟨_, rfl, ⟨fun h => ⟨⟨h1, h2⟩, h3, by omega, h6, fun _ => h⟩, fun h => h.2.2.2.2 h7⟩⟩
              · rw [ezb h7]
                exact ⟨true, rfl, ⟨fun _ => ⟨⟨h1, h2⟩, h3, by omega, h6, fun h => absurd h h7⟩, fun _ => rfl⟩⟩
            · rw [ezb h6]
              exact ⟨false, rfl, ⟨fun h => (by cases h), fun h => absurd h.2.2.2.1 h6⟩⟩
      · rw [ezb h3]
        exact ⟨false, rfl, ⟨fun h => (by cases h), fun h => absurd h.2.1 h3⟩⟩
    · rw [az7 (by omega), az5]
      exact ⟨false, rfl, ⟨fun h => (by cases h), fun h => absurd h.1.2 h2⟩⟩
def VaP (r : az8) (m : aza) : Prop := dz4 r = 0 ∧ (∀ i, i < m.Points.length → bzk r (m.Points.getD i default) = true ∧ ¬ m.Points.getD i default ∈ m.Points.take i) ∧
  ∀ i, i < m.Edges.length → EdV r m (m.Edges.getD i default) ∧ (0 < i → ltE (m.Edges.getD (i - 1) default) (m.Edges.getD i default) = true)
theorem lzl {n : Nat} (h1 : 1 ≤ n) (h : n < 4294967296) : IntKind.i64.wrap ((n : Int) - 1) = ((n - 1 : Nat) : Int) := by rw [w64 (by omega) (by omega)]; omega
theorem Gzr {f : Int → Option (Step3 Int U0 Bool)} (p : Nat → Prop) (n : Nat) (hn : n < 4294967296)
    (hs : ∀ j, j < n → (∃ b, f (j : Int) = (bif b then some (.fin false) else some (.next ((j + 1 : Nat) : Int))) ∧ (b = true ↔ ¬ p j))) (he : f (n : Int) = some (.out .u)) :
    (∃ b, iter f NN 0 = some (.inr b) ∧ b = false ∧ ¬ ∀ j, j < n → p j) ∨ (iter f NN 0 = some (.inl .u) ∧ ∀ j, j < n → p j) := by
  classical
  have key := fun (k : U0 → Option Bool) => jzp (f := f) (k := k) (fun j => if p j then none else some false) n hn (fun j hj => by
    obtain ⟨b, h1, h2⟩ := hs j hj
    rw [h1]
    by_cases hp : p j
    · have hb : b = false := by
        cases b with
        | false => rfl
        | true => exact absurd hp (h2.1 rfl)
      rw [hb, if_pos hp]; rfl
    · rw [h2.2 hp, if_neg hp]; rfl) he
  by_cases ha : ∀ j, j < n → p j
  · refine .inr ⟨?_, ha⟩
    have hsn : scan (fun j => if p j then none else some false) n 0 = none := (dzv _ _).2 fun j _ hj => if_pos (ha j (by omega))
    have k1 := key (fun _ => some true)
    have k2 := key (fun _ => none)
    rw [hsn] at k1 k2
    simp only at k1 k2
    cases hi : iter f NN 0 with
    | none => rw [hi] at k1; cases k1
    | some x =>
      cases x with
      | inl t => cases t; rfl
      | inr r => rw [hi] at k2; cases k2
  · refine .inl ?_
    have hsn : ∃ r, scan (fun j => if p j then none else some false) n 0 = some r := by
      cases hh : scan (fun j => if p j then none else some false) n 0 with
      | some r => exact ⟨r, rfl⟩
      | none =>
        refine absurd (fun j hj => ?_) ha
        have := (dzv _ _).1 hh j (Nat.zero_le _) (by omega)
        by_cases hp : p j
        · exact hp
        · rw [if_neg hp] at this; cases this
    obtain ⟨r, hr⟩ := hsn
    have hrf : r = false := by
      obtain ⟨j, -, -, h3, -⟩ := jzq _ _ hr
      split at h3
      · cases h3
      · simpa using h3.symm
    have k2 := key (fun _ => none)
    rw [hr, hrf] at k2
    simp only at k2
    cases hi : iter f NN 0 with
    | none => rw [hi] at k2; cases k2
    | some x =>
      cases x with
      | inl t => rw [hi] at k2; cases k2
      | inr b => rw [hi] at k2; exact ⟨b, rfl, by simpa [andK] using k2, ha⟩
theorem rzv {f : Int → Option (Step3 Int U0 Bool)} {k : U0 → Option Bool} {q : Prop} (p : Nat → Prop) (n : Nat) (hn : n < 4294967296)
    (hs : ∀ j, j < n → (∃ b, f (j : Int) = (bif b then some (.fin false) else some (.next ((j + 1 : Nat) : Int))) ∧ (b = true ↔ ¬ p j))) (he : f (n : Int) = some (.out .u))
    (hk : (∀ j, j < n → p j) → ∃ b, k .u = some b ∧ (b = true ↔ q)) : ∃ b, andK (iter f NN 0) k = some b ∧ (b = true ↔ (∀ j, j < n → p j) ∧ q) := by
  rcases Gzr p n hn hs he with ⟨b, h1, rfl, h3⟩ | ⟨h1, h2⟩
  · rw [h1]; exact ⟨false, rfl, ⟨fun h => (by cases h), fun h => absurd h.1 h3⟩⟩
  · rw [h1]
    obtain ⟨b, k1, k2⟩ := hk h2
    exact ⟨b, k1, k2.trans ⟨fun h => ⟨h2, h⟩, fun h => h.2⟩⟩
theorem Ezt (r : az8) (m : aza) (hm : PtB m) : ∃ b, (ezd r m).o = some b ∧ (b = true ↔ VaP r m) := by
  obtain ⟨p1, p2, p3⟩ := hm
  show ∃ b, (lzd r m).run NN = some b ∧ _
  have er : (⟨r.Joints, r.Masses⟩ : az8) = r := rfl
  have em : (⟨m.Points, m.Edges⟩ : aza) = m := rfl
  simp only [lzd, T.run, er, em, izr, vzr r m.Points p1, Option.bind_some]
  by_cases h1 : dz4 r = 0
  · rw [cz9 h1, az6 (by omega), az5]
    have h2 : decide (((m.Edges.length : Nat) : Int) > 8192) = false := decide_eq_false (by omega)
    rw [h2]
    simp only [cond_false]
    have hd := (xzy r m.Points m.Points.length (Nat.le_refl _)).1
    by_cases h3 : (disL r m.Points m.Points.length).length = m.Points.length
    · rw [cz9 (by omega)]
      refine Exists.imp (fun b hb => ⟨hb.1, hb.2.trans ⟨fun h => ⟨h1, hd.1 h3, h.1⟩, fun h => ⟨h.2.2, trivial⟩⟩⟩) (rzv (k := fun _ => some true) (q := True) (fun i => EdV r m (m.Edges.getD i default) ∧ (0 < i → ltE (m.Edges.getD (i - 1) default) (m.Edges.getD i default) = true)) m.Edges.length (by omega) (fun j hj => ?_) ?_ (fun _ => ⟨true, rfl, by simp⟩))
      · rw [az7 (by omega), az4 (by omega), wn (by omega), Int.toNat_natCast]
        obtain ⟨b, e1, e2⟩ := Azr r m (m.Edges.getD j default) ⟨p1, p2, p3⟩
        rw [e1]
        simp only [Option.bind_some]
        cases b with
        | false => exact ⟨true, rfl, ⟨fun _ h => (by have := e2.2 h.1; cases this), fun _ => rfl⟩⟩
        | true =>
          have e3 := e2.1 rfl
          simp only [Bool.not_true, cond_false]
          by_cases h0 : 0 < j
          · rw [az7 (by omega), lzl (by omega) (by omega), az4 (by omega), Int.toNat_natCast]
            obtain ⟨z, z1, z2⟩ := Czo (m.Edges.getD (j - 1) default) (m.Edges.getD j default)
            rw [z1]
            simp only [Option.bind_some, az5, z2]
            exact ⟨_, rfl, ⟨fun h h' => (by rw [h'.2 h0] at h; cases h), fun h => by
              cases hl : ltE (m.Edges.getD (j - 1) default) (m.Edges.getD j default) with
              | false => rfl
              | true => exact absurd ⟨e3, fun _ => hl⟩ h⟩⟩
          · rw [az6 (by omega), az5]
            exact ⟨false, rfl, ⟨fun h => (by cases h), fun h => absurd ⟨e3, fun h' => absurd h' h0⟩ h⟩⟩
      · rw [az6 (by omega)]
    · rw [ezb (by omega)]
      exact ⟨false, rfl, ⟨fun h => (by cases h), fun h => absurd (hd.2 h.2.1) h3⟩⟩
  · rw [ezb h1, az5]
    exact ⟨false, rfl, ⟨fun h => (by cases h), fun h => absurd h.1 h1⟩⟩
open Go.Proofs
def OrP (m : aza) (i : Nat) : Prop := (yz0 m (m.Edges.getD i default) = true ∧ (m.Edges.getD i default).U < (m.Edges.getD i default).V) ∧ (0 < i → ltE (m.Edges.getD (i - 1) default) (m.Edges.getD i default) = true)
theorem Ez0 (m : aza) (hm : PtB m) : ∃ b, (pzc m).o = some b ∧ (b = true ↔ ∀ i, i < m.Edges.length → OrP m i) := by
  obtain ⟨p1, p2, p3⟩ := hm
  show ∃ b, (lzb m).run NN = some b ∧ _
  simp only [lzb, T.run]
  have hfin : (bif decide (((m.Points.length : Nat) : Int) ≤ 1024) then some (decide (((m.Edges.length : Nat) : Int) ≤ 8192)) else some false) = some true := by
    rw [az7 (by omega), decide_eq_true (by omega)]
  refine Exists.imp (fun b hb => ⟨hb.1, hb.2.trans ⟨fun h => h.1, fun h => ⟨h, trivial⟩⟩⟩) (rzv (q := True) (OrP m) m.Edges.length (by omega) (fun j hj => ?_) ?_ (fun _ => ⟨true, hfin, by simp⟩))
  · rw [az7 (by omega), az4 (by omega), wn (by omega), Int.toNat_natCast]
    unfold OrP
    generalize m.Edges.getD j default = e
    by_cases c1 : yz0 m e = true ∧ e.U < e.V
    · obtain ⟨a1, a2, a3, a4⟩ := endsV_iff.1 c1.1
      rw [az6 (by omega), az6 (by omega), decide_eq_false (p := e.V ≥ (m.Points.length : Int)) (by omega), az5]
      simp only [cond_false]
      by_cases h0 : 0 < j
      · rw [az7 (by omega), lzl (by omega) (by omega), az4 (by omega), Int.toNat_natCast]
        generalize m.Edges.getD (j - 1) default = d
        by_cases c2 : d.U > e.U
        · rw [az7 c2, az5]
          refine ⟨true, rfl, ⟨fun _ h => ?_, fun _ => rfl⟩⟩
          have := h.2 h0
          unfold ltE at this
          simp at this; omega
        · rw [az6 c2, az4 (by omega)]
          by_cases c3 : d.U = e.U
          · rw [fzh c3, az4 (by omega), az5]
            refine ⟨_, rfl, ?_⟩
            rw [decide_eq_true_eq]
            unfold ltE
            constructor
            · intro h h'
              have := h'.2 h0
              simp at this; omega
            · intro h
              refine Classical.byContradiction fun h2 => h ⟨c1, fun _ => ?_⟩
              simp; omega
          · rw [ezt c3, az5]
            refine ⟨false, rfl, ⟨fun h => (by cases h), fun h => absurd ⟨c1, fun _ => ?_⟩ h⟩⟩
            unfold ltE
            simp; omega
      · rw [az6 (by omega), az5]
        exact ⟨false, rfl, ⟨fun h => (by cases h), fun h => absurd ⟨c1, fun h' => absurd h' h0⟩ h⟩⟩
    · refine ⟨true, ?_, ⟨fun _ h => c1 h.1, fun _ => rfl⟩⟩
      by_cases c2 : e.U < 0
      · rw [az7 c2, az5]; rfl
      · rw [az6 c2]
        by_cases c3 : e.U ≥ e.V
        · rw [az7 c3, az5]; rfl
        · rw [az6 c3]
          have c4 : e.V ≥ (m.Points.length : Int) := by
            refine Classical.byContradiction fun h => c1 ⟨endsV_iff.2 (by omega), by omega⟩
          rw [decide_eq_true c4, az5]; rfl
  · rw [az6 (by omega)]
theorem Cz3 (r : az8) (m : aza) (hm : PtB m) : ∃ b, (kz7 r m).o = some b ∧ (b = true ↔ VaP r m) := by
  obtain ⟨bo, o1, o2⟩ := Ez0 m hm
  obtain ⟨p1, p2, p3⟩ := hm
  show ∃ b, (kz8 r m).run NN = some b ∧ _
  have er : (⟨r.Joints, r.Masses⟩ : az8) = r := rfl
  have z0 : (0 : Int).toNat = 0 := rfl
  simp only [kz8, T.run, er, gzz, mza, Fzv, Czc, o1, Option.bind_some, z0, Nat.sub_zero, List.drop_zero]
  by_cases h1 : dz4 r = 0
  · rw [cz9 h1, az5]
    cases bo with
    | false =>
      refine ⟨false, rfl, ⟨fun h => (by cases h), fun h => ?_⟩⟩
      have := o2.2 fun i hi => ⟨(h.2.2 i hi).1.1, (h.2.2 i hi).2⟩
      cases this
    | true =>
      have ho := o2.1 rfl
      simp only [Bool.not_true, cond_false]
      refine Exists.imp (fun b hb => ⟨hb.1, hb.2.trans ⟨fun h => ⟨h1, h.1, fun i hi => ⟨⟨(ho i hi).1, h.2 i hi⟩, (ho i hi).2⟩⟩, fun h => ⟨h.2.1, fun i hi => (h.2.2 i hi).1.2⟩⟩⟩) (rzv (q := ∀ i, i < m.Edges.length → (m.Edges.getD i default).Cost = dstV r (m.Points.getD (m.Edges.getD i default).U.toNat default) (m.Points.getD (m.Edges.getD i default).V.toNat default) ∧ StV (m.Edges.getD i default))
        (fun i => bzk r (m.Points.getD i default) = true ∧ ¬ m.Points.getD i default ∈ m.Points.take i) m.Points.length (by omega) (fun j hj => ?_) ?_ (fun _ => ?_))
      · rw [az7 (by omega), az4 (by omega), wn (by omega), Int.toNat_natCast]
        cases hin : bzk r (m.Points.getD j default) with
        | false =>
          simp only [Bool.not_false, cond_true, az5]
          exact ⟨true, rfl, ⟨fun _ h => (by cases h.1), fun _ => rfl⟩⟩
        | true =>
          simp only [Bool.not_true, cond_false]
          obtain ⟨z, z1, z2⟩ := uzw (m.Points.take j) (m.Points.getD j default) (by rw [List.length_take]; omega) (fun x hx => p3 x (List.mem_of_mem_take hx))
          rw [az4 (by omega), az4 (by omega), z1]
          simp only [Option.bind_some, az5, z2]
          unfold memB
          refine ⟨_, rfl, ?_⟩
          rw [decide_eq_true_eq]
          exact ⟨fun h h' => h'.2 h, fun h => Classical.byContradiction fun h2 => h ⟨trivial, h2⟩⟩
      · rw [az6 (by omega)]
      · refine Exists.imp (fun b hb => ⟨hb.1, hb.2.trans ⟨fun h => h.1, fun h => ⟨h, trivial⟩⟩⟩) (rzv (k := fun _ => some true) (q := True) (fun i => (m.Edges.getD i default).Cost = dstV r (m.Points.getD (m.Edges.getD i default).U.toNat default) (m.Points.getD (m.Edges.getD i default).V.toNat default) ∧ StV (m.Edges.getD i default)) m.Edges.length (by omega) (fun j hj => ?_) ?_ (fun _ => ⟨true, rfl, by simp⟩))
        · obtain ⟨⟨e1, e2⟩, -⟩ := ho j hj
          rw [az7 (by omega), az4 (by omega), wn (by omega), Int.toNat_natCast]
          generalize m.Edges.getD j default = e at e1 e2 ⊢
          obtain ⟨a1, a2, a3, a4⟩ := endsV_iff.1 e1
          have l1 := p3 _ (azl (show e.U.toNat < m.Points.length by omega))
          have l2 := p3 _ (azl (show e.V.toNat < m.Points.length by omega))
          rw [az4 (by omega), az4 (by omega), tzq r _ _ l1 l2]
          simp only [Option.bind_some]
          by_cases h3 : e.Cost = dstV r (m.Points.getD e.U.toNat default) (m.Points.getD e.V.toNat default)
          · rw [cz9 h3]
            by_cases h4 : e.State < 0
            · rw [az7 h4, az5]
              exact ⟨true, rfl, ⟨fun _ h => (by have := h.2.1; omega), fun _ => rfl⟩⟩
            · rw [az6 h4]
              by_cases h5 : e.State > 3
              · rw [az7 h5, az5]
                exact ⟨true, rfl, ⟨fun _ h => (by have := h.2.1; omega), fun _ => rfl⟩⟩
              · rw [az6 h5]
                by_cases h6 : e.Proof.Kind = uzd e.State
                · rw [cz9 h6]
                  by_cases h7 : e.State = 0
                  · rw [fzh h7, az5]
                    refine ⟨_, rfl, ?_⟩
                    constructor
                    · intro h h'
                      rw [h'.2.2.2 h7] at h; cases h
                    · intro h
                      cases hz : Ezy e.Proof with
                      | false => rfl
                      | true => exact absurd ⟨h3, by omega, h6, fun _ => hz⟩ h
                  · rw [ezt h7, az5]
                    exact ⟨false, rfl, ⟨fun h => (by cases h), fun h => absurd ⟨h3, by omega, h6, fun h => absurd h h7⟩ h⟩⟩
                · rw [ezb h6, az5]
                  exact ⟨true, rfl, ⟨fun _ h => absurd h.2.2.1 h6, fun _ => rfl⟩⟩
          · rw [ezb h3, az5]
            exact ⟨true, rfl, ⟨fun _ h => absurd h.1 h3, fun _ => rfl⟩⟩
        · rw [az6 (by omega)]
  · rw [ezb h1, az5]
    exact ⟨false, rfl, ⟨fun h => (by cases h), fun h => absurd h.1 h1⟩⟩
open Go.Proofs
def RoB (r : az8) : Prop := 1 ≤ r.Joints.length ∧ r.Joints.length ≤ 3 ∧ ∀ j ∈ r.Joints, JB j
theorem yzp (l : List Int) (hl : l.length < 4294967296) : ∃ r, (lzv l).o = some r ∧ RoB r := by
  have ef : (fzn l).o = some (l, 0) := rfl
  obtain ⟨r, n', e, h, -⟩ := yzt hl (n := 0) (by omega) (by omega)
  refine ⟨r, ?_, h⟩
  show (jzh l).run NN = _
  simp only [jzh, T.run, ef, Option.bind_some, e]
open Go.Proofs
def LtD (d : Nat → Int) (i j : Nat) : Prop := d i < d j ∨ (d i = d j ∧ i < j)
abbrev cz5 (l : List Nat) : List Int := l.map fun (i : Nat) => (i : Int)
theorem tzu {l : List Nat} {i : Nat} (h : i < l.length) : (cz5 l).getD i default = ((l.getD i default : Nat) : Int) := by
  simp [List.getD_eq_getElem?_getD, List.getElem?_eq_getElem h]
def ixs (no : Int) (n : Nat) : List Nat := (List.range n).filter fun (i : Nat) => !((i : Int) == no)
theorem xz0 (no : Int) (n : Nat) : ixs no (n + 1) = if ((n : Int) == no) = true then ixs no n else ixs no n ++ [n] := by
  unfold ixs
  rw [List.range_succ, List.filter_append]
  cases h : ((n : Int) == no) <;> simp [h]
theorem Jzx {no : Int} {n i : Nat} (h : i ∈ ixs no n) : i < n := by
  unfold ixs at h
  exact List.mem_range.1 (List.mem_filter.1 h).1
def dQ (r : az8) (pts : List (List Int)) (q : List Int) (i : Nat) : Int := dstV r (pts.getD i default) q
def OrdQ (d : Nat → Int) (no : Int) (n : Nat) (ns : List Nat) : Prop := ns.Perm (ixs no n) ∧ ns.Pairwise (LtD d)
theorem wze (r : az8) (pts : List (List Int)) (q : List Int) (no : Int) (hp : pts.length ≤ 1000) (hn : ∀ c ∈ pts, c.length < 4294967296) (hq : q.length < 4294967296) :
    ∃ l, (gz5 r pts q no).o = some l ∧ ∃ ns, l = cz5 ns ∧ OrdQ (dQ r pts q) no pts.length ns := by
  show ∃ l, (izm r pts q no).run NN = some l ∧ _
  simp only [izm, T.run]
  have hlen : ∀ {j : Nat} {ns : List Nat}, OrdQ (dQ r pts q) no j ns → ns.length ≤ j ∧ ∀ i ∈ ns, i < j := fun h => by
    have h1 := h.1.length_eq
    refine ⟨?_, fun i hi => Jzx (h.1.mem_iff.1 hi)⟩
    rw [h1]; unfold ixs; exact Nat.le_trans (List.length_filter_le _ _) (by simp)
  refine ezm (P := fun l : List Int => ∃ ns, l = cz5 ns ∧ OrdQ (dQ r pts q) no pts.length ns)
    (fun k (y : List Int × Int) => ∃ j : Nat, y.2 = (j : Int) ∧ j + k = pts.length ∧ ∃ ns, y.1 = cz5 ns ∧ OrdQ (dQ r pts q) no j ns)
    (fun l : List Int => ∃ ns, l = cz5 ns ∧ OrdQ (dQ r pts q) no pts.length ns) pts.length ⟨0, rfl, by omega, [], rfl, List.Perm.nil, List.Pairwise.nil⟩ (by omega) ?_ (fun z hz => ⟨_, rfl, hz⟩)
  rintro k ⟨l, y⟩ ⟨j, hj, hjk, ns, hns, ho⟩
  simp only at hj hns ⊢
  subst hj; subst hns
  cases k with
  | zero =>
    obtain rfl : j = pts.length := by omega
    exact .inr (.inl ⟨_, by rw [az6 (by omega)], ns, rfl, ho⟩)
  | succ k =>
    obtain ⟨hl1, hl2⟩ := hlen ho
    rw [az7 (by omega), wn (by omega)]
    by_cases c : (j : Int) = no
    · rw [fzh c, az5]
      refine .inl ⟨_, k, rfl, Nat.lt_succ_self k, j + 1, rfl, by omega, ns, rfl, ?_, ho.2⟩
      rw [xz0, if_pos (by simpa using c)]; exact ho.1
    · have l1 := hn _ (azl (show j < pts.length by omega))
      have hcl : (cz5 ns).length = ns.length := by simp
      rw [ezt c, az4 (by simp only [List.length_cons, List.length_nil, azt, hcl]; omega), az4 (by omega), az4 (by omega), Int.toNat_natCast, tzq r _ _ l1 hq]
      simp only [Option.bind_some]
      generalize hA : andK _ _ = A
      obtain ⟨s, e, l', rfl, h1⟩ : ∃ s, A = some s ∧ (∃ l' : List Int, s = Step3.out l' ∧ ∃ ns, l' = cz5 ns ∧ OrdQ (dQ r pts q) no (j + 1) ns) := by
        rw [← hA]
        refine ezm (fun k' (y : List Int × Int) => ∃ a b, y.2 = ((a.length : Nat) : Int) ∧ a.length ≤ k' ∧ ns = a ++ b ∧ y.1 = cz5 a ++ (j : Int) :: cz5 b ∧ ∀ x ∈ b, dQ r pts q j < dQ r pts q x)
          (fun l' : List Int => ∃ ns, l' = cz5 ns ∧ OrdQ (dQ r pts q) no (j + 1) ns) ns.length ⟨ns, [], by simp only [hcl], Nat.le_refl _, by simp, rfl, fun x hx => by cases hx⟩ (by omega) ?_ (fun z hz => ⟨_, rfl, z, rfl, hz⟩)
        rintro k' ⟨l2, y2⟩ ⟨a, b, hi, hik, hab, hl2', hb⟩
        simp only at hi hl2' ⊢
        subst hi; subst hl2'
        have hab' : ns.length = a.length + b.length := by rw [hab, List.length_append]
        have hll : (cz5 a ++ (j : Int) :: cz5 b).length = a.length + 1 + b.length := by simp; omega
        have fin1 : (∀ x ∈ a, dQ r pts q x ≤ dQ r pts q j) → ∃ ns', cz5 a ++ (j : Int) :: cz5 b = cz5 ns' ∧ OrdQ (dQ r pts q) no (j + 1) ns' := fun ha => by
          refine ⟨a ++ j :: b, by simp, ?_, ?_⟩
          · rw [xz0, if_neg (by simpa using c)]
            have h1 := ho.1
            rw [hab] at h1
            exact List.perm_middle.trans ((List.Perm.cons j h1).trans (List.perm_append_singleton j _).symm)
          · have h2 := ho.2
            rw [hab] at h2
            obtain ⟨p1, p2, p3⟩ := List.pairwise_append.1 h2
            refine List.pairwise_append.2 ⟨p1, List.pairwise_cons.2 ⟨fun x hx => .inl (hb x hx), p2⟩, fun x hx y hy => ?_⟩
            rcases List.mem_cons.1 hy with rfl | hy
            · have := ha x hx
              have := hl2 x (by rw [hab]; exact List.mem_append_left _ hx)
              unfold LtD; omega
            · exact p3 x hx y hy
        by_cases h0 : a = []
        · subst h0
          rw [az6 (by simp), az5]
          exact .inr (.inl ⟨_, rfl, fin1 fun x hx => by cases hx⟩)
        · obtain ⟨a', x, rfl⟩ : ∃ a' x, a = a' ++ [x] := ⟨a.dropLast, a.getLast h0, (List.dropLast_concat_getLast h0).symm⟩
          have hal : (a' ++ [x]).length = a'.length + 1 := by simp
          have hx := hl2 x (by rw [hab]; simp)
          have l2' := hn _ (azl (show x < pts.length by omega))
          have hg : (cz5 (a' ++ [x]) ++ (j : Int) :: cz5 b).getD a'.length default = (x : Int) := by
            simp [List.getD_eq_getElem?_getD, List.getElem?_append]
          have hg2 : (cz5 (a' ++ [x]) ++ (j : Int) :: cz5 b).getD (a'.length + 1) default = (j : Int) := by
            simp [List.getD_eq_getElem?_getD, List.getElem?_append]
          rw [hal] at hll ⊢
          rw [az7 (by omega), lzl (by omega) (by omega), Nat.add_sub_cancel, az4 (by omega), Int.toNat_natCast, az4 (by omega), hg, az4 (by omega), Int.toNat_natCast, az4 (by omega), tzq r _ _ l2' hq]
          simp only [Option.bind_some, az5]
          by_cases hd : dstV r (pts.getD j default) q < dstV r (pts.getD x default) q
          · rw [az7 hd, az4 (by omega), az4 (by omega), az4 (by omega), Int.toNat_natCast, az4 (by omega), az4 (by omega), az4 (by omega), az4 (by rw [List.length_set]; omega), az4 (by rw [List.length_set]; omega), hg2]
            refine .inl ⟨_, a'.length, rfl, by omega, a', x :: b, rfl, Nat.le_refl _, by rw [hab]; simp, ?_, fun z hz => ?_⟩
            · simp
            · rcases List.mem_cons.1 hz with rfl | hz
              · exact hd
              · exact hb z hz
          · rw [az6 hd]
            refine .inr (.inl ⟨_, rfl, fin1 fun z hz => ?_⟩)
            rcases List.mem_append.1 hz with hz | hz
            · have h2 := ho.2
              rw [hab, List.append_assoc] at h2
              have := (List.pairwise_append.1 h2).2.2 z hz x (by simp)
              unfold LtD at this
              unfold dQ at *
              omega
            · simp at hz; subst hz; unfold dQ; omega
      rw [e, az5]
      exact .inl ⟨_, k, rfl, Nat.lt_succ_self k, j + 1, rfl, by omega, h1⟩
def newE (r : az8) (pts : List (List Int)) (u v : Int) : az1 := ⟨u, v, dstV r (pts.getD u.toNat default) (pts.getD v.toNat default), 0, ⟨0, nl, ⟨0, 0, nl⟩, ⟨0, nl, nl⟩⟩⟩
def hitE (u v : Int) (e : az1) : Bool := bif decide (e.U > u) then true else bif e.U == u then decide (e.V ≥ v) else false
def othE (u v : Int) (e : az1) : Bool := bif e.U != u then true else e.V != v
def insF (n : az1) : List az1 → List az1
  | [] => [n]
  | e :: t => bif hitE n.U n.V e then (bif othE n.U n.V e then n :: e :: t else e :: t) else e :: insF n t
theorem tzm (n : az1) : ∀ l, (insF n l).length ≤ l.length + 1
  | [] => Nat.le_refl _
  | e :: t => by
    have := tzm n t
    unfold insF
    cases hitE n.U n.V e <;> cases othE n.U n.V e <;> simp <;> omega
theorem Bz7 (r : az8) (pts : List (List Int)) (es : List az1) (u v : Int) (hn : ∀ c ∈ pts, c.length < 4294967296) (he : es.length ≤ 1000000) (hu : 0 ≤ u ∧ u < (pts.length : Int)) (hv : 0 ≤ v ∧ v < (pts.length : Int)) :
    (qzg r pts es u v).o = some (insF (newE r pts (min u v) (max u v)) es) := by
  have la := hn _ (azl (show (min u v).toNat < pts.length by omega))
  have lb := hn _ (azl (show (max u v).toNat < pts.length by omega))
  obtain ⟨N, hN⟩ : ∃ N, N = newE r pts (min u v) (max u v) := ⟨_, rfl⟩
  have hN1 : (⟨min u v, max u v, dstV r (pts.getD (min u v).toNat default) (pts.getD (max u v).toNat default), 0, ⟨0, nl, ⟨0, 0, nl⟩, ⟨0, nl, nl⟩⟩⟩ : az1) = N := hN.symm
  have hU : N.U = min u v := by rw [hN]; rfl
  have hV : N.V = max u v := by rw [hN]; rfl
  have hil := tzm N es
  have goal : ∃ x, (hzg r pts es u v).run NN = some x ∧ x = insF N es := by
    simp only [hzg, T.run, tzq r _ _ la lb, Option.bind_some, fz6, az5, hN1]
    refine ezm (fun k (y : List az1 × Bool × Int) => ∃ j : Nat, y.2.2 = (j : Int) ∧ j + k = es.length ∧ y.1 ++ (if y.2.1 = true then es.drop j else insF N (es.drop j)) = insF N es)
      (fun y : List az1 × Bool => y.1 ++ (if y.2 = true then [] else [N]) = insF N es) es.length ⟨0, rfl, by omega, by simp [nl]⟩ (by omega) ?_ ?_
    · rintro k ⟨l, dn, y⟩ ⟨j, hj, hjk, hl⟩
      simp only at hj hl ⊢
      subst hj
      have hll : l.length ≤ 1000001 := by
        have := congrArg List.length hl
        rw [List.length_append] at this; omega
      cases k with
      | zero =>
        obtain rfl : j = es.length := by omega
        refine .inr (.inl ⟨_, by rw [az6 (by omega)], ?_⟩)
        simp only
        rw [List.drop_length] at hl
        exact hl
      | succ k =>
        have hd : es.drop j = es.getD j default :: es.drop (j + 1) := by
          rw [List.drop_eq_getElem_cons (by omega), List.getD_eq_getElem?_getD, List.getElem?_eq_getElem (by omega), Option.getD_some]
        rw [hd] at hl
        rw [az7 (by omega), az4 (by omega), az4 (by omega), Int.toNat_natCast, wn (by omega)]
        generalize es.getD j default = e at hl ⊢
        have hh : (bif decide (e.U > min u v) then true else bif e.U == min u v then decide (e.V ≥ max u v) else false) = hitE N.U N.V e := by rw [hU, hV]; rfl
        have ho : (bif e.U != min u v then true else e.V != max u v) = othE N.U N.V e := by rw [hU, hV]; rfl
        simp only [hh, ho]
        cases dn with
        | true =>
          simp only [Bool.not_true, cond_false, az5]
          rw [az4 (by simp only [List.length_cons, List.length_nil, azt]; omega)]
          refine .inl ⟨_, k, rfl, Nat.lt_succ_self k, j + 1, rfl, by omega, ?_⟩
          simp only [if_true, List.append_assoc] at hl ⊢
          exact hl
        | false =>
          simp only [Bool.not_false, cond_true]
          simp only [insF] at hl
          cases h1 : hitE N.U N.V e with
          | false =>
            rw [h1] at hl
            simp only [cond_false, az5]
            rw [az4 (by simp only [List.length_cons, List.length_nil, azt]; omega)]
            refine .inl ⟨_, k, rfl, Nat.lt_succ_self k, j + 1, rfl, by omega, ?_⟩
            simpa using hl
          | true =>
            rw [h1] at hl
            simp only [cond_true]
            cases h2 : othE N.U N.V e with
            | false =>
              rw [h2] at hl
              simp only [cond_false, az5]
              rw [az4 (by simp only [List.length_cons, List.length_nil, azt]; omega)]
              refine .inl ⟨_, k, rfl, Nat.lt_succ_self k, j + 1, rfl, by omega, ?_⟩
              simpa using hl
            | true =>
              rw [h2] at hl
              simp only [cond_true]
              rw [az4 (by omega), az4 (by omega), az4 (by omega), az4 (by omega), az4 (by simp only [List.length_cons, List.length_nil, azt]; omega), az5,
                az4 (by simp only [List.length_append, List.length_cons, List.length_nil, azt]; omega)]
              refine .inl ⟨_, k, rfl, Nat.lt_succ_self k, j + 1, rfl, by omega, ?_⟩
              simpa using hl
    · rintro ⟨l, dn⟩ hl
      simp only at hl ⊢
      have hll : l.length ≤ 1000001 := by
        have := congrArg List.length hl
        rw [List.length_append] at this; omega
      cases dn with
      | true =>
        simp only [Bool.not_true, cond_false, az5]
        exact ⟨_, rfl, by simpa using hl⟩
      | false =>
        simp only [Bool.not_false, cond_true]
        rw [az4 (by omega), az4 (by omega), az4 (by omega), az4 (by omega), az4 (by simp only [List.length_cons, List.length_nil, azt]; omega), az5]
        exact ⟨_, rfl, by simpa using hl⟩
  obtain ⟨x, h1, h2⟩ := goal
  rw [← hN, ← h2]; exact h1
open Go.Proofs
theorem fzm {a b : az1} : ltE a b = true ↔ a.U < b.U ∨ (a.U = b.U ∧ a.V < b.V) := by unfold ltE; rw [decide_eq_true_eq]
theorem hitE_iff {n e : az1} : hitE n.U n.V e = true ↔ ¬ ltE e n = true := by
  rw [fzm]; unfold hitE
  by_cases h1 : e.U > n.U
  · rw [az7 h1]; simp; omega
  · rw [az6 h1]
    by_cases h2 : e.U = n.U
    · rw [fzh h2, decide_eq_true_eq]; omega
    · rw [ezt h2]; simp; omega
theorem othE_iff {n e : az1} : othE n.U n.V e = true ↔ ¬ (e.U = n.U ∧ e.V = n.V) := by
  unfold othE
  by_cases h2 : e.U = n.U
  · rw [cz9 h2]; simp [h2]
  · rw [ezb h2]; simp [h2]
abbrev SoE (l : List az1) : Prop := l.Pairwise fun a b => ltE a b = true
theorem tzn (n : az1) : ∀ l, SoE l → ∀ e, e ∈ insF n l ↔ e ∈ l ∨ (e = n ∧ ∀ x ∈ l, ¬ (x.U = n.U ∧ x.V = n.V))
  | [], _, e => by simp [insF]
  | x :: t, hs, e => by
    obtain ⟨h1, h2⟩ := List.pairwise_cons.1 hs
    have ih := tzn n t h2 e
    unfold insF
    cases hh : hitE n.U n.V x with
    | false =>
      have hx : ltE x n = true := by
        refine Classical.byContradiction fun h => ?_
        rw [hitE_iff.2 h] at hh; cases hh
      simp only [cond_false, List.mem_cons, ih]
      rw [fzm] at hx
      constructor
      · rintro (h | h | ⟨h, h'⟩)
        · exact .inl (.inl h)
        · exact .inl (.inr h)
        · refine .inr ⟨h, fun y hy => ?_⟩
          rcases hy with rfl | hy
          · omega
          · exact h' y hy
      · rintro ((h | h) | ⟨h, h'⟩)
        · exact .inl h
        · exact .inr (.inl h)
        · exact .inr (.inr ⟨h, fun y hy => h' y (.inr hy)⟩)
    | true =>
      have hx := hitE_iff.1 hh
      cases ho : othE n.U n.V x with
      | false =>
        have ho' : x.U = n.U ∧ x.V = n.V := by
          refine Classical.byContradiction fun h => ?_
          rw [othE_iff.2 h] at ho; cases ho
        simp only [cond_true, cond_false]
        refine ⟨fun h => .inl h, fun h => ?_⟩
        rcases h with h | ⟨h, h'⟩
        · exact h
        · exact absurd ho' (h' x (List.mem_cons_self ..))
      | true =>
        have ho' := othE_iff.1 ho
        simp only [cond_true, List.mem_cons]
        constructor
        · rintro (h | h | h)
          · refine .inr ⟨h, fun y hy => ?_⟩
            rcases hy with rfl | hy
            · exact ho'
            · have := h1 y hy
              rw [fzm] at this hx
              omega
          · exact .inl (.inl h)
          · exact .inl (.inr h)
        · rintro ((h | h) | ⟨h, -⟩)
          · exact .inr (.inl h)
          · exact .inr (.inr h)
          · exact .inl h
theorem Az2 (n : az1) : ∀ l, SoE l → SoE (insF n l)
  | [], _ => List.pairwise_singleton ..
  | x :: t, hs => by
    obtain ⟨h1, h2⟩ := List.pairwise_cons.1 hs
    have ih := Az2 n t h2
    have im := tzn n t h2
    unfold insF
    cases hh : hitE n.U n.V x with
    | false =>
      have hx : ltE x n = true := by
        refine Classical.byContradiction fun h => ?_
        rw [hitE_iff.2 h] at hh; cases hh
      simp only [cond_false]
      refine List.pairwise_cons.2 ⟨fun y hy => ?_, ih⟩
      rcases (im y).1 hy with hy | ⟨rfl, -⟩
      · exact h1 y hy
      · exact hx
    | true =>
      have hx := hitE_iff.1 hh
      cases ho : othE n.U n.V x with
      | false => exact hs
      | true =>
        have ho' := othE_iff.1 ho
        simp only [cond_true]
        have hnx : ltE n x = true := by rw [fzm] at hx ⊢; omega
        refine List.pairwise_cons.2 ⟨fun y hy => ?_, hs⟩
        rcases List.mem_cons.1 hy with rfl | hy
        · exact hnx
        · have := h1 y hy
          rw [fzm] at this hnx ⊢
          omega
def MapE (r : az8) (P : List (List Int)) (S : Nat → Nat → Prop) (es : List az1) : Prop := SoE es ∧ ∀ e, e ∈ es ↔ ∃ a b : Nat, a < b ∧ b < P.length ∧ S a b ∧ e = newE r P a b
theorem MapE.congr {r : az8} {P : List (List Int)} {S S' : Nat → Nat → Prop} {es : List az1} (h : MapE r P S es) (hs : ∀ a b, a < b → b < P.length → (S a b ↔ S' a b)) : MapE r P S' es :=
  ⟨h.1, fun e => (h.2 e).trans ⟨fun ⟨a, b, h1, h2, h3, h4⟩ => ⟨a, b, h1, h2, (hs a b h1 h2).1 h3, h4⟩, fun ⟨a, b, h1, h2, h3, h4⟩ => ⟨a, b, h1, h2, (hs a b h1 h2).2 h3, h4⟩⟩⟩
theorem MapE.nil (r : az8) (P : List (List Int)) : MapE r P (fun _ _ => False) [] := ⟨List.Pairwise.nil, fun e => ⟨fun h => (by cases h), fun ⟨_, _, _, _, h, _⟩ => h.elim⟩⟩
theorem MapE.ins {r : az8} {P : List (List Int)} {S : Nat → Nat → Prop} {es : List az1} (h : MapE r P S es) {x y : Nat} (hx : x < y) (hy : y < P.length) : MapE r P (fun a b => S a b ∨ (a = x ∧ b = y)) (insF (newE r P x y) es) := by
  refine ⟨Az2 _ _ h.1, fun e => (tzn _ _ h.1 e).trans ⟨?_, ?_⟩⟩
  · rintro (h1 | ⟨rfl, -⟩)
    · obtain ⟨a, b, h2, h3, h4, h5⟩ := (h.2 e).1 h1
      exact ⟨a, b, h2, h3, .inl h4, h5⟩
    · exact ⟨x, y, hx, hy, .inr ⟨rfl, rfl⟩, rfl⟩
  · rintro ⟨a, b, h2, h3, h4 | ⟨rfl, rfl⟩, h5⟩
    · exact .inl ((h.2 e).2 ⟨a, b, h2, h3, h4, h5⟩)
    · by_cases hs : S a b
      · exact .inl ((h.2 e).2 ⟨a, b, h2, h3, hs, h5⟩)
      · refine .inr ⟨h5, fun z hz hc => ?_⟩
        obtain ⟨a', b', k2, k3, k4, rfl⟩ := (h.2 z).1 hz
        simp only [newE] at hc
        have : a' = a ∧ b' = b := by omega
        rw [this.1, this.2] at k4
        exact hs k4
def cntD (d : Nat → Int) (no : Int) (n v : Nat) : Nat := ((ixs no n).filter fun w => decide (d w < d v ∨ (d w = d v ∧ w < v))).length
theorem mem_ixs {no : Int} {n v : Nat} : v ∈ ixs no n ↔ v < n ∧ (v : Int) ≠ no := by unfold ixs; simp
theorem uzq {d : Nat → Int} {no : Int} {n : Nat} {ns : List Nat} (h : OrdQ d no n ns) {v : Nat} (hv : v ∈ ns) : ∃ a b, ns = a ++ v :: b ∧ a.length = cntD d no n v ∧ ¬ v ∈ a := by
  obtain ⟨a, b, rfl⟩ := List.append_of_mem hv
  obtain ⟨h1, h2⟩ := h
  obtain ⟨p1, p2, p3⟩ := List.pairwise_append.1 h2
  have p4 := (List.pairwise_cons.1 p2).1
  refine ⟨a, b, rfl, ?_, fun ha => ?_⟩
  · unfold cntD
    rw [← (h1.filter _).length_eq, List.filter_append, List.filter_cons]
    have e1 : a.filter (fun w => decide (d w < d v ∨ (d w = d v ∧ w < v))) = a := List.filter_eq_self.2 fun w hw => by
      have := p3 w hw v (List.mem_cons_self ..)
      exact decide_eq_true this
    have e2 : b.filter (fun w => decide (d w < d v ∨ (d w = d v ∧ w < v))) = [] := List.filter_eq_nil_iff.2 fun w hw => by
      have := p4 w hw
      unfold LtD at this
      rw [decide_eq_true_eq]; omega
    rw [e1, e2, if_neg (by simp)]; simp
  · have := p3 v ha v (List.mem_cons_self ..)
    unfold LtD at this; omega
theorem pz4 {d : Nat → Int} {no : Int} {n : Nat} {ns : List Nat} (h : OrdQ d no n ns) {v i : Nat} : v ∈ ns.take i ↔ v ∈ ixs no n ∧ cntD d no n v < i := by
  constructor
  · intro hv
    have hv' := List.mem_of_mem_take hv
    refine ⟨h.1.mem_iff.1 hv', ?_⟩
    obtain ⟨a, b, rfl, h2, h3⟩ := uzq h hv'
    rw [← h2]
    refine Classical.byContradiction fun hc => h3 ?_
    rw [List.take_append_of_le_length (by omega)] at hv
    exact List.mem_of_mem_take hv
  · rintro ⟨h1, h2⟩
    obtain ⟨a, b, rfl, h4, h5⟩ := uzq h (h.1.mem_iff.2 h1)
    rw [List.take_append]
    obtain ⟨m, hm⟩ : ∃ m, i - a.length = m + 1 := ⟨i - a.length - 1, by omega⟩
    rw [hm, List.take_succ_cons]
    exact List.mem_append_right _ (List.mem_cons_self ..)
theorem Gzz {d : Nat → Int} {no : Int} {n : Nat} {ns : List Nat} (h : OrdQ d no n ns) {v : Nat} (hv : v ∈ ixs no n) : cntD d no n v < ns.length := by
  obtain ⟨a, b, rfl, h4, h5⟩ := uzq h (h.1.mem_iff.2 hv)
  rw [List.length_append, List.length_cons]; omega
def hzu (r : az8) (P : List (List Int)) (k : Int) (u v : Nat) : Prop := v ∈ ixs (u : Int) P.length ∧ (cntD (dQ r P (P.getD u default)) (u : Int) P.length v : Int) < k
def rz5 (r : az8) (P : List (List Int)) (k : Int) (a b : Nat) : Prop := hzu r P k a b ∨ hzu r P k b a
theorem Ez3 (l : List (List Int)) (c : List Int) (hl : l.length < 4294967296) (hn : ∀ x ∈ l, x.length < 4294967296) : ∃ z, (pzb l c).o = some z ∧ decide (z < 0) = !memB l c := by
  obtain ⟨z, h1, h2⟩ := uzw l c hl hn
  refine ⟨z, ?_, by rw [← h2, Bool.eq_iff_iff]; simp⟩
  rw [← h1]
  show (lza l c).run NN = (dz7 l c).run NN
  simp only [lza, dz7, T.run]
  have : ∀ x : Int, 0 ≤ x ∧ x < (l.length : Int) → x.toNat < l.length := fun x hx => by omega
  refine congrArg (fun f => andK (iter f NN 0) fun _ => some (-1)) (funext fun x => ?_)
  by_cases h : x < (l.length : Int)
  · rw [az7 h, az7 h]
    by_cases h0 : 0 ≤ x ∧ x < (l.length : Int)
    · rw [az4 h0, az4 h0, az4 (this x h0)]
    · unfold grd; rw [if_neg h0, if_neg h0]
  · rw [az6 h, az6 h]
theorem Bzb (r : az8) (pts : List (List Int)) (k : Int) (hp : pts.length ≤ 1000) (hn : ∀ c ∈ pts, c.length < 4294967296) :
    ∃ m, (qzf r pts k).o = some m ∧ (dz4 r ≠ 0 → m = ([], [])) ∧ (dz4 r = 0 → m.1 = disL r pts pts.length ∧ ∃ es, m.2 = es.take 8192 ∧ es.length ≤ m.1.length * m.1.length ∧ MapE r m.1 (rz5 r m.1 k) es) := by
  show ∃ m, (mzd r pts k).run NN = some m ∧ _
  have er : (⟨r.Joints, r.Masses⟩ : az8) = r := rfl
  simp only [mzd, T.run, er, gzz, mza, Option.bind_some]
  by_cases hr : dz4 r ≠ 0
  · rw [ezb hr]
    exact ⟨_, rfl, fun _ => rfl, fun h => absurd h hr⟩
  have hr : dz4 r = 0 := Classical.not_not.1 hr
  rw [cz9 hr]
  refine ezm (x := ((nl : List (List Int)), (0 : Int))) (P := fun m : List (List Int) × List az1 => (dz4 r ≠ 0 → m = ([], [])) ∧ (dz4 r = 0 → m.1 = disL r pts pts.length ∧ ∃ es, m.2 = es.take 8192 ∧ es.length ≤ m.1.length * m.1.length ∧ MapE r m.1 (rz5 r m.1 k) es))
    (fun m (y : List (List Int) × Int) => ∃ j : Nat, y.2 = (j : Int) ∧ j + m = pts.length ∧ y.1 = disL r pts j) (fun z : List (List Int) => z = disL r pts pts.length) pts.length ⟨0, rfl, by omega, rfl⟩ (by omega) ?_ ?_
  · rintro m ⟨l, y⟩ ⟨j, hj, hjm, hl⟩
    simp only at hj hl ⊢
    subst hj; subst hl
    have hlen := lzr r pts j
    cases m with
    | zero =>
      obtain rfl : j = pts.length := by omega
      rw [az6 (by omega), az5]
      exact .inr (.inl ⟨_, rfl, rfl⟩)
    | succ m =>
      have hin := ozn r pts j
      have hs : disL r pts (j + 1) = if bzk r (pts.getD j default) = true ∧ ¬ pts.getD j default ∈ disL r pts j then disL r pts j ++ [pts.getD j default] else disL r pts j := rfl
      have hc := hn _ (azl (show j < pts.length by omega))
      rw [az7 (by omega), decide_eq_true (p := ((disL r pts j).length : Int) < 1024) (by omega), az5]
      simp only [cond_true]
      rw [az4 (by omega), wn (by omega), Int.toNat_natCast]
      generalize pts.getD j default = c at hs hc ⊢
      cases h1 : bzk r c with
      | false =>
        simp only [cond_false, az5]
        refine .inl ⟨_, m, rfl, Nat.lt_succ_self m, j + 1, rfl, by omega, ?_⟩
        rw [hs, if_neg (fun h => by rw [h1] at h; cases h.1)]
      | true =>
        obtain ⟨z, z1, z2⟩ := Ez3 (disL r pts j) c (by omega) (fun x hx => by have := ez9 (hin x hx); omega)
        simp only [cond_true]
        rw [az4 (by omega), z1]
        simp only [Option.bind_some, az5, z2]
        by_cases hm : c ∈ disL r pts j
        · have : memB (disL r pts j) c = true := decide_eq_true hm
          rw [this]
          simp only [Bool.not_true, cond_false, az5]
          refine .inl ⟨_, m, rfl, Nat.lt_succ_self m, j + 1, rfl, by omega, ?_⟩
          rw [hs, if_neg (fun h => h.2 hm)]
        · have : memB (disL r pts j) c = false := decide_eq_false hm
          rw [this]
          simp only [Bool.not_false, cond_true]
          rw [az4 (by omega), az4 (by rw [azt]; omega), az4 (by simp only [List.length_cons, List.length_nil, azt]; omega), az5]
          refine .inl ⟨_, m, rfl, Nat.lt_succ_self m, j + 1, rfl, by omega, ?_⟩
          rw [hs, if_pos ⟨h1, hm⟩]
  · rintro P hP
    have hPl : P.length ≤ 1000 := by have := lzr r pts pts.length; rw [hP]; omega
    have hPn : ∀ c ∈ P, c.length < 4294967296 := fun c hc => by rw [hP] at hc; have := ez9 (ozn r pts _ c hc); omega
    refine ezm (x := ((nl : List az1), (0 : Int))) (P := fun m : List (List Int) × List az1 => (dz4 r ≠ 0 → m = ([], [])) ∧ (dz4 r = 0 → m.1 = disL r pts pts.length ∧ ∃ es, m.2 = es.take 8192 ∧ es.length ≤ m.1.length * m.1.length ∧ MapE r m.1 (rz5 r m.1 k) es))
      (fun m (y : List az1 × Int) => ∃ u : Nat, y.2 = (u : Int) ∧ u + m = P.length ∧ y.1.length ≤ P.length * u ∧ MapE r P (fun a b => (a < u ∧ hzu r P k a b) ∨ (b < u ∧ hzu r P k b a)) y.1)
      (fun es : List az1 => es.length ≤ P.length * P.length ∧ MapE r P (rz5 r P k) es) P.length ⟨0, rfl, by omega, by simp [nl], (MapE.nil r P).congr fun a b _ _ => by simp⟩ (by omega) ?_ ?_
    · rintro m ⟨es, y⟩ ⟨u, hu, hum, hel, hes⟩
      simp only at hu hel hes ⊢
      subst hu
      cases m with
      | zero =>
        obtain rfl : u = P.length := by omega
        rw [az6 (by omega)]
        exact .inr (.inl ⟨_, rfl, hel, hes.congr fun a b h1 h2 => by unfold rz5; constructor <;> rintro (h | h) <;> first | exact .inl h.2 | exact .inr h.2 | exact .inl ⟨by omega, h⟩ | exact .inr ⟨by omega, h⟩⟩)
      | succ m =>
        rw [az7 (by omega), az4 (by omega), Int.toNat_natCast, az4 (by omega), wn (by omega)]
        obtain ⟨l, e1, ns, rfl, ho⟩ := wze r P (P.getD u default) (u : Int) hPl hPn (hPn _ (azl (by omega)))
        rw [e1]
        simp only [Option.bind_some]
        have hnl : ns.length ≤ P.length := by
          rw [ho.1.length_eq]; unfold ixs; exact Nat.le_trans (List.length_filter_le _ _) (by simp)
        suffices hi : ∃ s, _ = some s ∧ (∃ es' : List az1, s = Step3.next (es', ((u + 1 : Nat) : Int)) ∧ es'.length ≤ P.length * (u + 1) ∧ MapE r P (fun a b => (a < u + 1 ∧ hzu r P k a b) ∨ (b < u + 1 ∧ hzu r P k b a)) es') by
          obtain ⟨s, e, es', rfl, k1, k2⟩ := hi
          exact .inl ⟨_, m, e, Nat.lt_succ_self m, u + 1, rfl, by omega, k1, k2⟩
        refine ezm (fun m' (y : List az1 × Int) => ∃ i : Nat, y.2 = (i : Int) ∧ i + m' = ns.length ∧ ((i : Int) ≤ k ∨ i = 0) ∧ y.1.length ≤ P.length * u + i ∧ MapE r P (fun a b => ((a < u ∧ hzu r P k a b) ∨ (b < u ∧ hzu r P k b a)) ∨ (a = u ∧ b ∈ ns.take i) ∨ (b = u ∧ a ∈ ns.take i)) y.1)
          (fun es' : List az1 => es'.length ≤ P.length * (u + 1) ∧ MapE r P (fun a b => (a < u + 1 ∧ hzu r P k a b) ∨ (b < u + 1 ∧ hzu r P k b a)) es') ns.length ⟨0, rfl, by omega, .inr rfl, by simp only; omega, hes.congr fun a b _ _ => by simp⟩ (by omega) ?_ (fun z hz => ⟨_, rfl, z, rfl, hz⟩)
        rintro m' ⟨es2, y2⟩ ⟨i, hi, him, hik, hel2, hes2⟩
        simp only at hi hel2 hes2 ⊢
        subst hi
        have hcl : (cz5 ns).length = ns.length := by simp
        have hsq : P.length * u ≤ 1000 * 990 + 10000 - 1000 := by
          have h1 : P.length * u ≤ P.length * (P.length - 1) := Nat.mul_le_mul_left _ (by omega)
          have h2 : P.length * (P.length - 1) ≤ 1000 * 999 := Nat.mul_le_mul hPl (by omega)
          omega
        have stop : (i = ns.length ∨ k ≤ (i : Int)) → es2.length ≤ P.length * (u + 1) ∧ MapE r P (fun a b => (a < u + 1 ∧ hzu r P k a b) ∨ (b < u + 1 ∧ hzu r P k b a)) es2 := fun hs => by
          have key : ∀ v, v ∈ ns.take i ↔ hzu r P k u v := fun v => by
            rw [pz4 ho]
            unfold hzu
            constructor
            · rintro ⟨h1, h2⟩; exact ⟨h1, by omega⟩
            · rintro ⟨h1, h2⟩
              have := Gzz ho h1
              exact ⟨h1, by omega⟩
          refine ⟨by rw [Nat.mul_succ]; omega, hes2.congr fun a b h1 h2 => ?_⟩
          rw [key, key]
          constructor
          · rintro ((h | h) | ⟨rfl, h⟩ | ⟨rfl, h⟩)
            · exact .inl ⟨by omega, h.2⟩
            · exact .inr ⟨by omega, h.2⟩
            · exact .inl ⟨by omega, h⟩
            · exact .inr ⟨by omega, h⟩
          · rintro (⟨h, h'⟩ | ⟨h, h'⟩)
            · by_cases e : a = u
              · subst e; exact .inr (.inl ⟨rfl, h'⟩)
              · exact .inl (.inl ⟨by omega, h'⟩)
            · by_cases e : b = u
              · subst e; exact .inr (.inr ⟨rfl, h'⟩)
              · exact .inl (.inr ⟨by omega, h'⟩)
        by_cases c1 : i < ns.length
        · by_cases c2 : (i : Int) < k
          · have hv := azl c1
            have hvx := mem_ixs.1 (ho.1.mem_iff.1 hv)
            have hg := tzu c1
            rw [az7 (by omega), decide_eq_true c2, az5]
            simp only [cond_true]
            rw [az4 (by omega), Int.toNat_natCast, hg, Bz7 r P es2 u _ hPn (by omega) (by omega) (by omega), wn (by omega)]
            simp only [Option.bind_some]
            have hil := tzm (newE r P (min (u : Int) ((ns.getD i default : Nat) : Int)) (max (u : Int) ((ns.getD i default : Nat) : Int))) es2
            have ht : ns.take (i + 1) = ns.take i ++ [ns.getD i default] := lzj c1
            refine .inl ⟨_, m' - 1, rfl, by omega, i + 1, rfl, by omega, .inl (by omega), by simp only; omega, ?_⟩
            simp only
            rw [ht]
            generalize ns.getD i default = v at *
            have hmn : min (u : Int) (v : Int) = ((min u v : Nat) : Int) := by omega
            have hmx : max (u : Int) (v : Int) = ((max u v : Nat) : Int) := by omega
            rw [hmn, hmx]
            refine (hes2.ins (x := min u v) (y := max u v) (by omega) (by omega)).congr fun a b h1 h2 => ?_
            simp only [List.mem_append, List.mem_singleton]
            constructor
            · rintro ((h | ⟨rfl, h⟩ | ⟨rfl, h⟩) | h)
              · exact .inl h
              · exact .inr (.inl ⟨rfl, .inl h⟩)
              · exact .inr (.inr ⟨rfl, .inl h⟩)
              · by_cases huv : u < v
                · exact .inr (.inl ⟨by omega, .inr (by omega)⟩)
                · exact .inr (.inr ⟨by omega, .inr (by omega)⟩)
            · rintro (h | ⟨rfl, h | h⟩ | ⟨rfl, h | h⟩)
              · exact .inl (.inl h)
              · exact .inl (.inr (.inl ⟨rfl, h⟩))
              · exact .inr (by omega)
              · exact .inl (.inr (.inr ⟨rfl, h⟩))
              · exact .inr (by omega)
          · rw [az7 (by omega), decide_eq_false c2, az5]
            exact .inr (.inl ⟨_, rfl, stop (.inr (by omega))⟩)
        · rw [az6 (by omega), az5]
          exact .inr (.inl ⟨_, rfl, stop (.inl (by omega))⟩)
    · rintro es ⟨hel, hes⟩
      by_cases h : ((es.length : Nat) : Int) > 8192
      · rw [az7 h, az4 (by omega), az5]
        exact ⟨_, rfl, fun h => absurd hr h, fun _ => ⟨hP, es, rfl, hel, hes⟩⟩
      · rw [az6 h, az5]
        exact ⟨_, rfl, fun h => absurd hr h, fun _ => ⟨hP, es, (List.take_of_length_le (by simp only; omega)).symm, hel, hes⟩⟩
open Go.Proofs
theorem pzr (r : az8) (pts : List (List Int)) : ∀ j, (disL r pts j).Nodup
  | 0 => List.nodup_nil
  | j + 1 => by
    have := pzr r pts j
    unfold disL
    split
    · rename_i hc
      refine List.nodup_append.2 ⟨this, by simp, fun a ha b hb => ?_⟩
      simp at hb; subst hb
      intro e; subst e; exact hc.2 ha
    · exact this
theorem wz0 {l : List (List Int)} (h : l.Nodup) {i : Nat} (hi : i < l.length) : ¬ l.getD i default ∈ l.take i := by
  have hd : l = l.take i ++ l.getD i default :: l.drop (i + 1) := by
    conv => lhs; rw [← List.take_append_drop i l]
    rw [List.drop_eq_getElem_cons hi, List.getD_eq_getElem?_getD, List.getElem?_eq_getElem hi, Option.getD_some]
  intro hm
  rw [hd] at h
  have h1 := (List.nodup_append.1 h).2.2 _ hm _ (List.mem_cons_self ..)
  exact h1 rfl
theorem Ezl {l : List az1} (h : SoE l) {i j : Nat} (hij : i < j) (hj : j < l.length) : ltE (l.getD i default) (l.getD j default) = true := by
  have := List.pairwise_iff_getElem.1 h i j (by omega) hj hij
  simpa only [List.getD_eq_getElem?_getD, List.getElem?_eq_getElem hj, List.getElem?_eq_getElem (show i < l.length by omega), Option.getD_some] using this
open Go.Proofs
end Go.Abs
