/-
  DL5 (a part of a claim: our own text).
-/
import Derived.Test.YtomogglfhepnmaaGreatXFDL4
import Derived.Test.YtomogglfhepnmaaGreatXFD3
namespace Go.Abs
open Go.Proofs
def PkB (x : bze) : Prop := x.Table.length ≤ 2400000 ∧ x.Uses.length ≤ 4096 ∧ ∀ u ∈ x.Uses, u.Numbers.length ≤ 576
theorem Bzl (l : List az4) (h : PsB l) : ∃ x, (tzq l).o = some x ∧ PkB x := by
  obtain ⟨h1, h2⟩ := h
  show ∃ x, (mzy l).run NN = some x ∧ _
  simp only [mzy, T.run]
  refine dz2 (P := PkB) (fun m (y : List V3 × List ozs × List (V3 × Int) × Int) => ∃ j : Nat, y.2.2.2 = (j : Int) ∧ j + m = l.length ∧ y.1.length ≤ 576 * j ∧ y.2.1.length = j ∧ ∀ u ∈ y.2.1, u.Numbers.length ≤ 576) (fun z : List V3 × List ozs => z.1.length ≤ 2400000 ∧ z.2.length ≤ 4096 ∧ ∀ u ∈ z.2, u.Numbers.length ≤ 576) l.length ⟨0, rfl, by omega, by simp [nl], by simp [nl], fun u hu => by cases hu⟩ (by omega) ?_ (fun z hz => ⟨_, rfl, hz⟩)
  rintro m ⟨tb, us, mp, i⟩ ⟨j, hj, hm, ht, hu, hn⟩
  simp only at hj ht hu hn ⊢
  subst hj
  cases m with
  | zero => exact .inr (.inl ⟨_, by rw [az5 (by omega)], by simp only; omega, by simp only; omega, hn⟩)
  | succ m =>
    rw [az7 (by omega), azb (by omega), Int.toNat_natCast]
    have hxn := h2 _ (ezq (show j < l.length by omega))
    generalize l.getD j default = x at hxn ⊢
    suffices hi : ∃ r, _ = some r ∧ (∃ (tb' : List V3) (us' : List ozs) (mp' : List (V3 × Int)), r = Step3.next (tb', us', mp', ((j + 1 : Nat) : Int)) ∧ tb'.length ≤ 576 * (j + 1) ∧ us'.length = j + 1 ∧ ∀ u : ozs, u ∈ us' → u.Numbers.length ≤ 576) by
      obtain ⟨r, e, tb', us', mp', rfl, k1, k2, k3⟩ := hi
      exact .inl ⟨_, m, e, Nat.lt_succ_self m, j + 1, rfl, by omega, k1, k2, k3⟩
    refine dz2 (fun m (y : List V3 × List (V3 × Int) × List Int × Int) => ∃ k : Nat, y.2.2.2 = (k : Int) ∧ k + m = x.Normals.length ∧ y.1.length ≤ 576 * j + k ∧ y.2.2.1.length = k) (fun z : List V3 × List (V3 × Int) × List Int => z.1.length ≤ 576 * (j + 1) ∧ z.2.2.length ≤ 576) x.Normals.length ⟨0, rfl, by omega, by simp only; omega, by simp [nl]⟩ (by omega) ?_ ?_
    · rintro m' ⟨t2, m2, ns, k⟩ ⟨k', hk, hkm, ht2, hns⟩
      simp only at hk ht2 hns ⊢
      subst hk
      cases m' with
      | zero => exact .inr (.inl ⟨_, by rw [az5 (by omega)], by simp only; omega, by simp only; omega⟩)
      | succ m' =>
        rw [az7 (by omega), azb (by omega)]
        have g1 : (ns.length + [(0 : Int)].length) * 8 ≤ 140737488355328 ∧ ns.length + [(0 : Int)].length ≤ maxLen := by simp only [List.length_cons, List.length_nil, bz8]; omega
        cases (!(mdom azr m2 (azr (x.Normals.getD ((k' : Int)).toNat default)))) with
        | true =>
          simp only [cond_true]
          rw [azb (by simp only [List.length_cons, List.length_nil, bz8]; omega), aza, azb (by simp only [List.length_cons, List.length_nil, bz8]; omega)]
          exact .inl ⟨_, m', rfl, Nat.lt_succ_self m', k' + 1, by simp only [wn (show k' < 4294967296 by omega)], by omega, by simp only [List.length_append, List.length_cons, List.length_nil]; omega, by simp only [List.length_append, List.length_cons, List.length_nil]; omega⟩
        | false =>
          simp only [cond_false, aza]
          rw [azb (by simp only [List.length_cons, List.length_nil, bz8]; omega)]
          exact .inl ⟨_, m', rfl, Nat.lt_succ_self m', k' + 1, by simp only [wn (show k' < 4294967296 by omega)], by omega, by simp only; omega, by simp only [List.length_append, List.length_cons, List.length_nil]; omega⟩
    · rintro ⟨t2, m2, ns⟩ ⟨k1, k2⟩
      simp only at k1 k2 ⊢
      rw [azb (by simp only [List.length_cons, List.length_nil, bz8]; omega)]
      refine ⟨_, rfl, _, _, _, by rw [wn (show j < 4294967296 by omega)], k1, by simp only [List.length_append, List.length_cons, List.length_nil]; omega, fun u hu' => ?_⟩
      rcases List.mem_append.1 hu' with hu' | hu'
      · exact hn u hu'
      · simp at hu'; subst hu'; exact k2
theorem yzo (p : bze) (h : PkB p) : ∃ y, (ezg p).o = some y ∧ y.1.length ≤ 4096 := by
  obtain ⟨h0, h1, h2⟩ := h
  show ∃ y, (jzr p).run NN = some y ∧ _
  simp only [jzr, T.run, bz0, aza, dz9]
  refine dz2 (fun m (y : List az4 × Int) => ∃ j : Nat, y.2 = (j : Int) ∧ j + m = p.Uses.length ∧ y.1.length = j) (fun z : List az4 => z.length ≤ 4096) p.Uses.length ⟨0, rfl, by omega, by simp [nl]⟩ (by omega) ?_ (fun z hz => ⟨_, rfl, hz⟩)
  rintro m ⟨ps, i⟩ ⟨j, hj, hm, hp⟩
  simp only at hj hp ⊢
  subst hj
  cases m with
  | zero => exact .inr (.inl ⟨_, by rw [az5 (by omega)], by omega⟩)
  | succ m =>
    rw [az7 (by omega), azb (by omega), Int.toNat_natCast]
    have hxn := h2 _ (ezq (show j < p.Uses.length by omega))
    generalize p.Uses.getD j default = x at hxn ⊢
    suffices hi : ∃ r, _ = some r ∧ ((∃ ps' : List az4, r = Step3.next (ps', ((j + 1 : Nat) : Int)) ∧ ps'.length = j + 1) ∨ r = .fin (nl, false)) by
      obtain ⟨r, e, ⟨ps', rfl, k1⟩ | rfl⟩ := hi
      · exact .inl ⟨_, m, e, Nat.lt_succ_self m, j + 1, rfl, by omega, k1⟩
      · exact .inr (.inr ⟨_, e, by simp [nl]⟩)
    refine dz2 (fun m (y : List V3 × Int) => ∃ k : Nat, y.2 = (k : Int) ∧ k + m = x.Numbers.length ∧ y.1.length = k) (fun z : List V3 => True) x.Numbers.length ⟨0, rfl, by omega, by simp [nl]⟩ (by omega) ?_ ?_
    · rintro m' ⟨ns, k⟩ ⟨k', hk, hkm, hns⟩
      simp only at hk hns ⊢
      subst hk
      cases m' with
      | zero => exact .inr (.inl ⟨_, by rw [az5 (by omega)], trivial⟩)
      | succ m' =>
        rw [az7 (by omega), azb (by omega)]
        generalize x.Numbers.getD ((k' : Int)).toNat default = v
        by_cases c : v < 0 ∨ v ≥ (p.Table.length : Int)
        · rw [zzk (by simp only [Bool.or_eq_true, decide_eq_true_eq]; exact c)]
          exact .inr (.inr ⟨_, rfl, .inr rfl⟩)
        · rw [rz3 (by simp only [Bool.or_eq_false_iff, decide_eq_false_iff_not]; omega), azb (by omega), azb (by simp only [List.length_cons, List.length_nil, bz8]; omega)]
          exact .inl ⟨_, m', rfl, Nat.lt_succ_self m', k' + 1, by simp only [wn (show k' < 4294967296 by omega)], by omega, by simp only [List.length_append, List.length_cons, List.length_nil]; omega⟩
    · intro ns _
      rw [azb (by simp only [List.length_cons, List.length_nil, bz8]; omega)]
      exact ⟨_, rfl, .inl ⟨_, by rw [wn (show j < 4294967296 by omega)], by simp only [List.length_append, List.length_cons, List.length_nil]; omega⟩⟩
noncomputable def unpV (p : bze) : List az4 × Bool := (ezg p).o.getD default
theorem Kz5 {p : bze} (h : PkB p) : (ezg p).o = some (unpV p) ∧ (unpV p).1.length ≤ 4096 := by
  obtain ⟨y, e, hy⟩ := yzo p h
  unfold unpV; rw [e]; exact ⟨rfl, hy⟩
def outP (r : azj) (c : List (List Int)) (i : Nat) : Bool := !azu r (c.getD i default)
def yzn (s : az8) (c : List (List Int)) : Int × Int := if bzq s ≠ 0 then (0, 904) else if c.length < 2 ∨ c.length > 256 then (0, 2201) else
  match scan (fun i => sw (outP s.Robot c i) ((i : Int), (1201 : Int))) c.length 0 with | some r => r | none => (0, 0)
theorem ezu (s : az8) (c : List (List Int)) : (hz8 s c).o = some (yzn s c) := by
  show (hz9 s c).run NN = _
  simp only [hz9, T.run, fz9, Option.bind_some, lz7]
  unfold yzn
  by_cases h : bzq s = 0
  · rw [bzg h, if_neg (fun h' => h' h)]
    simp only [bz0, aza, dz9]
    by_cases h2 : c.length < 2 ∨ c.length > 256
    · rw [if_pos h2, zzk (by simp only [Bool.or_eq_true, decide_eq_true_eq]; omega)]
    · rw [if_neg h2, rz3 (by simp only [Bool.or_eq_false_iff, decide_eq_false_iff_not]; omega)]
      refine (izl (fun i => sw (outP s.Robot c i) ((i : Int), (1201 : Int))) c.length (by omega) (fun j hj => ?_) ?_).trans ?_
      · rw [az7 (by omega), azb (by omega), wn (by omega), Int.toNat_natCast, ← ezh]; rfl
      · rw [az5 (by omega)]
      · cases scan (fun i => sw (outP s.Robot c i) ((i : Int), (1201 : Int))) c.length 0 <;> rfl
  · rw [bzl h, if_pos h]
theorem chkPV_iff {s : az8} {c : List (List Int)} : (yzn s c).2 = 0 ↔ bzq s = 0 ∧ (2 ≤ c.length ∧ c.length ≤ 256) ∧ ∀ i, i < c.length → azu s.Robot (c.getD i default) = true := by
  unfold yzn
  constructor
  · intro h
    split at h
    · cases h
    · rename_i h1
      split at h
      · cases h
      · rename_i h2
        refine ⟨by simpa using h1, by omega, fun i hi => ?_⟩
        split at h
        · rename_i r hr
          obtain ⟨j, -, -, h3, -⟩ := dzc _ _ hr
          cases hb : outP s.Robot c j with
          | false => rw [hb] at h3; cases h3
          | true => rw [hb] at h3; simp only [sw, cond_true, Option.some.injEq] at h3; rw [← h3] at h; cases h
        · rename_i hn
          have := (dzm _ _).1 hn i (Nat.zero_le _) (by omega)
          cases hb : outP s.Robot c i with
          | false => simpa [outP] using hb
          | true => rw [hb] at this; cases this
  · rintro ⟨h1, h2, h3⟩
    rw [if_neg (fun h => h h1), if_neg (by omega)]
    have : scan (fun i => sw (outP s.Robot c i) ((i : Int), (1201 : Int))) c.length 0 = none := (dzm _ _).2 fun j _ hj => by
      have := h3 j (by omega)
      unfold outP; rw [this]; rfl
    rw [this]
theorem Jzq (s : az8) {d : Int} (h0 : 0 ≤ d) (h20 : d ≤ 20) (p q : List Int) (hp : p.length < 4294967296) (hq : q.length < 4294967296) :
    ∃ r x, (jz7 s p q d).o = some r ∧ (nzp ⟨s, d⟩ p q).o = some (x, decide (r.Kind = 1)) ∧ PkB x := by
  obtain ⟨r, e, ok⟩ := Nz0 s p q hp hq h0 h20
  refine ⟨r, ?_⟩
  have e0 : (nzp ⟨s, d⟩ p q).o = (nzq ⟨s, d⟩ p q).run NN := rfl
  rw [e0]
  simp only [nzq, T.run, e, Option.bind_some]
  by_cases c : r.Kind = 1
  · have hn : ∀ x ∈ r.Pieces, x.Normals.length < 4294967296 := fun x hx => by have := ok.bd.2 x hx; omega
    have hl := ok.bd.1
    have hc := Ize h0 h20 ok c
    have em : Jzh s p q r.Pieces = Azk (mz0 s p q) r.Pieces := by unfold Jzh; rw [if_neg (fun h => h hc)]
    have mc := Iz2 hc
    have mb : PsB (Azk (mz0 s p q) r.Pieces) := by
      refine ⟨(check_tlb.1 mc).2.1, fun x hx => ?_⟩
      have h1 := (check_tlb.1 mc).2.2.2 x hx
      have h2 := (free_iff.1 h1).2.2.1
      have := wz1 s
      omega
    obtain ⟨x, ex, hx⟩ := Bzl _ mb
    refine ⟨x, trivial, ?_, hx⟩
    rw [bzg c, zzq s hp hq r.Pieces (by omega) hn]
    simp only [Option.bind_some, em, ex]
    rw [decide_eq_true c]
  · refine ⟨⟨nl, nl⟩, trivial, ?_, by simp [nl], by simp [nl], fun u hu => by cases hu⟩
    rw [bzl c, decide_eq_false c]
def CfB (c : List (List Int)) : Prop := c.length ≤ 256 ∧ ∀ x ∈ c, x.length ≤ 1000
theorem CfB.get {c : List (List Int)} (h : CfB c) {i : Nat} (hi : i < c.length) : (c.getD i default).length ≤ 1000 := h.2 _ (ezq hi)
theorem Pzl {c : List (List Int)} {i : Nat} (hi : i + 1 < c.length) : ((c.drop 1).take (c.length - 1)).getD i default = c.getD (i + 1) default := by
  simp only [List.getD_eq_getElem?_getD]
  rw [List.getElem?_take_of_lt (by omega), List.getElem?_drop, Nat.add_comm 1 i]
theorem Pzm {c : List (List Int)} (h : 1 ≤ c.length) : ((c.drop 1).take (c.length - 1)).length = c.length - 1 := by simp
theorem Bzz (s : az8) {d : Int} (h0 : 0 ≤ d) (h20 : d ≤ 20) (c : List (List Int)) (hc : CfB c) (h1 : 1 ≤ c.length) :
    ∃ y, (nzn c ⟨s, d⟩).o = some y ∧ y.1.length ≤ 256 ∧ ∀ x ∈ y.1, PkB x := by
  have hl := hc.1
  show ∃ y, (fzq c ⟨s, d⟩).run NN = some y ∧ _
  have z1 : (1 : Int).toNat = 1 := rfl
  simp only [fzq, T.run, z1, Int.toNat_natCast, Pzm h1]
  rw [azb (by omega)]
  refine dz2 (fun m (y : List bze × Int) => ∃ j : Nat, y.2 = (j : Int) ∧ j + m = c.length - 1 ∧ y.1.length = j ∧ ∀ x ∈ y.1, PkB x) (fun z : List bze => z.length ≤ 256 ∧ ∀ x ∈ z, PkB x) (c.length - 1) ⟨0, rfl, by omega, by simp [nl], fun x hx => by cases hx⟩ (by omega) ?_ (fun z hz => ⟨_, rfl, hz⟩)
  rintro m ⟨es, i⟩ ⟨j, hj, hm, he, hx⟩
  simp only at hj he hx ⊢
  subst hj
  cases m with
  | zero => exact .inr (.inl ⟨_, by rw [az5 (by omega)], by omega, hx⟩)
  | succ m =>
    have l1 := hc.get (show j < c.length by omega)
    have l2 := hc.get (show j + 1 < c.length by omega)
    obtain ⟨r, x, -, e, hk⟩ := Jzq s h0 h20 (c.getD j default) (c.getD (j + 1) default) (by omega) (by omega)
    rw [az7 (by omega), azb (by omega), azb (by omega), Int.toNat_natCast, Pzl (by omega), e]
    simp only [Option.bind_some]
    cases decide (r.Kind = 1) with
    | false => exact .inr (.inr ⟨_, rfl, by simp [nl], fun x hx => by cases hx⟩)
    | true =>
      simp only [Bool.not_true, cond_false]
      rw [azb (by simp only [List.length_cons, List.length_nil, bz8]; omega)]
      refine .inl ⟨_, m, rfl, Nat.lt_succ_self m, j + 1, by simp only [wn (show j < 4294967296 by omega)], by omega, by simp only [List.length_append, List.length_cons, List.length_nil]; omega, fun y hy => ?_⟩
      rcases List.mem_append.1 hy with hy | hy
      · exact hx y hy
      · simp at hy; subst hy; exact hk
theorem Kzb (l : List Int) (h : l.length < 4294967296) : (ezv l).o = some l := by
  show (dz3 l).run NN = _
  cases l with
  | nil => rfl
  | cons a l =>
    simp only [dz3, T.run]
    simp only [List.length_cons] at h
    rw [azb (by simp), azb ⟨by simp only [List.length_nil, List.length_cons]; omega, by simp only [List.length_nil, List.length_cons, bz8]; omega⟩]; rfl
theorem Hze (l : List (List Int)) (h : l.length < 4294967296) : (fzc l).o = some l := by
  show (dzf l).run NN = _
  cases l with
  | nil => rfl
  | cons a l =>
    simp only [dzf, T.run]
    simp only [List.length_cons] at h
    rw [azb (by simp), azb ⟨by simp only [List.length_nil, List.length_cons]; omega, by simp only [List.length_nil, List.length_cons, bz8]; omega⟩]; rfl
theorem vzh (c : List (List Int)) (hc : CfB c) : (mzf c).o = some c := by
  have hl := hc.1
  show (hza c).run NN = _
  simp only [hza, T.run, Hze c (by omega), Option.bind_some]
  refine (ez8 (fun j => (c, (j : Int))) c c.length rfl (show c.length < 4294967296 by omega) (fun j hj => ?_) ?_).trans rfl
  · have l1 := hc.get hj
    rw [az7 (by simpa using hj), azb ⟨by simp, by simpa using hj⟩]
    simp only [Int.toNat_natCast]
    rw [azb hj, Kzb _ (by omega), Option.bind_some, azb ⟨by omega, by omega⟩, azb ⟨hj, by omega⟩, wn (by omega)]
    exact congrArg (fun x => some (Step3.next (x, ((j + 1 : Nat) : Int)))) (Kz1 hj)
  · rw [az5 (by simp)]
def PaB (x : hzp) : Prop := CfB x.Points ∧ x.Edges.length ≤ 256 ∧ ∀ y ∈ x.Edges, PkB y
theorem Gz7 (s : az8) {d : Int} (h0 : 0 ≤ d) (h20 : d ≤ 20) (c : List (List Int)) (hc : CfB c) : ∃ y, (gz7 s c d).o = some y ∧ PaB y.1 := by
  have nb : PaB ⟨nl, nl⟩ := ⟨⟨by simp [nl], fun x hx => by cases hx⟩, by simp [nl], fun x hx => by cases hx⟩
  have e0 : (gz7 s c d).o = (jzc s c d).run NN := rfl
  rw [e0]
  simp only [jzc, T.run, ezu, Option.bind_some]
  by_cases k : (yzn s c).2 = 0
  · have kk := chkPV_iff.1 k
    obtain ⟨y, ey, h1, h2⟩ := Bzz s h0 h20 c hc (by omega)
    rw [bzg k, show (⟨s.Robot, s.Shapes, s.Skips⟩ : az8) = s from rfl, ey]
    simp only [Option.bind_some]
    by_cases k2 : y.2.2 = 0
    · rw [bzg k2, vzh c hc]
      exact ⟨_, rfl, hc, h1, h2⟩
    · rw [bzl k2]; exact ⟨_, rfl, nb⟩
  · rw [bzl k]; exact ⟨_, rfl, nb⟩
theorem yza (s : az8) (x : hzp) (hx : PaB x) : ∃ y, (gz8 s x).o = some y ∧ (y.2 = 0 → (yzn s x.Points).2 = 0 ∧ x.Points.length = x.Edges.length + 1 ∧
    ∀ i, i < x.Edges.length → (unpV (x.Edges.getD i default)).2 = true ∧ (hzq s (x.Points.getD i default) (x.Points.getD (i + 1) default) (unpV (x.Edges.getD i default)).1).2 = 0) := by
  obtain ⟨hc, he, hp⟩ := hx
  have hl := hc.1
  have e0 : (gz8 s x).o = (jzd s x).run NN := rfl
  rw [e0]
  simp only [jzd, T.run, ezu, Option.bind_some]
  by_cases k : (yzn s x.Points).2 = 0
  · have kk := chkPV_iff.1 k
    rw [bzg k]
    by_cases k2 : x.Edges.length + 1 = x.Points.length
    · rw [bzg (by rw [w64 (by omega) (by omega)]; omega)]
      refine dz2 (fun m (y : Int) => ∃ j : Nat, y = (j : Int) ∧ j + m = x.Edges.length ∧ ∀ i, i < j → (unpV (x.Edges.getD i default)).2 = true ∧ (hzq s (x.Points.getD i default) (x.Points.getD (i + 1) default) (unpV (x.Edges.getD i default)).1).2 = 0)
        (fun _ => ∀ i, i < x.Edges.length → (unpV (x.Edges.getD i default)).2 = true ∧ (hzq s (x.Points.getD i default) (x.Points.getD (i + 1) default) (unpV (x.Edges.getD i default)).1).2 = 0) x.Edges.length ⟨0, rfl, by omega, fun i hi => by omega⟩ (by omega) ?_ (fun _ hz => ⟨_, rfl, fun _ => ⟨k, k2.symm, hz⟩⟩)
      rintro m _ ⟨j, rfl, hm, hz⟩
      cases m with
      | zero => exact .inr (.inl ⟨_, by rw [az5 (by omega)], fun i hi => hz i (by omega)⟩)
      | succ m =>
        have ue := Kz5 (hp _ (ezq (show j < x.Edges.length by omega)))
        have l1 := hc.get (show j < x.Points.length by omega)
        have l2 := hc.get (show j + 1 < x.Points.length by omega)
        rw [az7 (by omega), azb (by omega), Int.toNat_natCast, ue.1]
        simp only [Option.bind_some]
        cases hu : (unpV (x.Edges.getD j default)).2 with
        | false => exact .inr (.inr ⟨_, rfl, fun h => by cases h⟩)
        | true =>
          simp only [Bool.not_true, cond_false, wn (show j < 4294967296 by omega), Int.toNat_natCast]
          rw [azb (by omega), azb (by omega), ozb s _ _ _ (by omega) (by omega)]
          simp only [Option.bind_some]
          by_cases k3 : (hzq s (x.Points.getD j default) (x.Points.getD (j + 1) default) (unpV (x.Edges.getD j default)).1).2 = 0
          · rw [bzg k3]
            refine .inl ⟨_, m, rfl, Nat.lt_succ_self m, j + 1, rfl, by omega, fun i hi => ?_⟩
            by_cases ei : i = j
            · subst ei; exact ⟨hu, k3⟩
            · exact hz i (by omega)
          · rw [bzl k3]; exact .inr (.inr ⟨_, rfl, fun h => absurd h k3⟩)
    · rw [bzl (by rw [w64 (by omega) (by omega)]; omega)]; exact ⟨_, rfl, fun h => by cases h⟩
  · rw [bzl k]; exact ⟨_, rfl, fun h => absurd h k⟩
theorem Lz4 : law22_awake_C.o = some true := by kernel_rfl
open Go.Proofs
theorem Rzv {k : Nat} (h : k < 4294967296) : IntKind.i64.wrap (((k + 1 : Nat) : Int) - 1) = (k : Int) := by rw [w64 (by omega) (by omega)]; omega
def CoB (r : azj) (c : List (List Int)) : Prop := (1 ≤ c.length ∧ c.length ≤ 5) ∧ (∀ x ∈ c, x.length = r.Joints.length) ∧ LimC r (c.getD 0 default)
theorem rzs (l m : List Int) (depth : Int) (hl : l.length < 4294967296) (hm : m.length < 4294967296) : ∃ y, (gzu l m depth).o = some y ∧ (0 ≤ y.2.2 ∧ y.2.2 < 5) ∧ CoB y.1.Robot y.2.1 ∧ y.1.Robot.Joints.length ≤ 3 := by
  have e0 : (gzu l m depth).o = (lzh l m depth).run NN := rfl
  rw [e0]
  obtain ⟨s, es, s1, s2, s3⟩ := Fzy l hl
  obtain ⟨p, ep, lp, lm⟩ := vzq s.Robot m hm s2 s3
  have ef : (iz7 m).o = some (m, 0) := rfl
  obtain ⟨r0, p0, q0, u0, v0, w0, x0⟩ := azi (l := m) (n := 0) hm (by omega) (by omega) (k := 4) (by decide) (by decide)
  simp only [lzh, T.run, es, ef, ep, q0, Option.bind_some]
  rw [jzb (by decide) (by decide)]
  have hd : 0 ≤ depth % 5 ∧ depth % 5 < 5 := by omega
  refine dz2 (fun k (y : List Int × Int × List (List Int) × Int) => y.1 = m ∧ (0 ≤ y.2.1 ∧ y.2.1 ≤ (m.length : Int)) ∧ y.2.2.2 = (k : Int) ∧ y.2.2.1.length + k ≤ 5 ∧ 1 ≤ y.2.2.1.length ∧ (∀ x ∈ y.2.2.1, x.length = s.Robot.Joints.length) ∧ LimC s.Robot (y.2.2.1.getD 0 default))
    (fun z : List (List Int) => CoB s.Robot z) (1 + r0).toNat ⟨rfl, ⟨w0, x0⟩, by simp only; rw [w64 (by omega) (by omega)]; omega, by simp; omega, by simp, fun x hx => by simp at hx; subst hx; exact lp, lm⟩ (by omega) ?_ (fun z hz => ⟨_, rfl, hd, hz, s2⟩)
  rintro k ⟨mm, ix, out, kk⟩ ⟨h1, ⟨h2, h3⟩, h4, h5, h6, h7, h8⟩
  simp only at h1 h2 h3 h4 h5 h6 h7 h8 ⊢
  subst h1 h4
  cases k with
  | zero => exact .inr (.inl ⟨_, by rw [az5 (by omega)], ⟨by omega, by omega⟩, h7, h8⟩)
  | succ k =>
    obtain ⟨a1, n1, e1, -, -, i1, j1⟩ := azi hm h2 h3 (k := 99) (by decide) (by decide)
    obtain ⟨a2, n2, e2, -, -, i2, j2⟩ := azi hm i1 j1 (k := 1073741824) (by decide) (by decide)
    obtain ⟨a3, n3, e3, -, -, i3, j3⟩ := azi hm i2 j2 (k := 99) (by decide) (by decide)
    obtain ⟨a4, n4, e4, -, -, i4, j4⟩ := azi hm i3 j3 (k := 1073741824) (by decide) (by decide)
    obtain ⟨a5, n5, e5, -, -, i5, j5⟩ := azi hm i4 j4 (k := 99) (by decide) (by decide)
    obtain ⟨a6, n6, e6, -, -, i6, j6⟩ := azi hm i5 j5 (k := 1073741824) (by decide) (by decide)
    obtain ⟨cf, e7, l7, -⟩ := vzq s.Robot [a1, a2, a3, a4, a5, a6] (by simp) s2 s3
    obtain ⟨a8, n8, e8, g1, g2, i8, j8⟩ := azi hm i6 j6 (k := 3) (by decide) (by decide)
    rw [az7 (by omega)]
    simp only [e1, e2, e3, e4, e5, e6, e7, e8, Option.bind_some]
    rw [azb (by simp only [List.length_cons, List.length_nil]; omega), azb (by simp only [List.length_cons, List.length_nil]; omega)]
    have hk : ([1, 16, 64] : List Int).getD a8.toNat default ≠ 0 := by
      have : a8.toNat = 0 ∨ a8.toNat = 1 ∨ a8.toNat = 2 := by omega
      rcases this with h | h | h <;> rw [h] <;> decide
    generalize ([1, 16, 64] : List Int).getD a8.toNat default = K at hk ⊢
    have z0 : (0 : Int).toNat = 0 := rfl
    have l0 : (out.getD 0 default).length = s.Robot.Joints.length := h7 _ (ezq (by omega))
    rw [Rzv (k := k) (by omega)]
    suffices hi : ∃ r, _ = some r ∧ (∃ c' : List Int, r = Step3.next (mm, n8, out ++ [c'], (k : Int)) ∧ c'.length = s.Robot.Joints.length) by
      obtain ⟨r, e, c', rfl, lc⟩ := hi
      refine .inl ⟨_, k, e, Nat.lt_succ_self k, rfl, ⟨i8, j8⟩, rfl, by simp only [List.length_append, List.length_cons, List.length_nil]; omega, by simp only [List.length_append]; omega, fun x hx => ?_, ?_⟩
      · rcases List.mem_append.1 hx with hx | hx
        · exact h7 x hx
        · simp at hx; subst hx; exact lc
      · have : (out ++ [c']).getD 0 default = out.getD 0 default := by
          simp only [List.getD_eq_getElem?_getD]; rw [List.getElem?_append_left (by omega)]
        simp only; rw [this]; exact h8
    refine dz2 (fun k' (y : List Int × Int) => y.1.length = cf.length ∧ ∃ j : Nat, y.2 = (j : Int) ∧ j + k' = cf.length) (fun z : List Int => z.length = cf.length) cf.length ⟨rfl, 0, rfl, by omega⟩ (by omega) ?_ ?_
    · rintro k' ⟨c', i⟩ ⟨hc', j, hj, hk'⟩
      simp only at hc' hj ⊢
      subst hj
      cases k' with
      | zero => exact .inr (.inl ⟨_, by rw [az5 (by omega)], hc'⟩)
      | succ k' =>
        have g3 : 0 ≤ (j : Int) ∧ (j : Int) < ((out.getD 0 default).length : Int) := by omega
        have g4 : 0 ≤ (j : Int) ∧ (j : Int) < (c'.length : Int) := by omega
        have g5 : (0 : Int) ≤ 0 ∧ (0 : Int) < (out.length : Int) := by omega
        have g6 : 0 < out.length := by omega
        rw [az7 (by omega)]
        simp only [z0, Int.toNat_natCast, azb g3, azb g4, azb g5, azb g6, azb (show j < c'.length by omega), azb (show j < c'.length ∧ 0 ≤ j by omega), azb hk]
        exact .inl ⟨_, k', rfl, Nat.lt_succ_self k', by simp only [List.length_set]; exact hc', j + 1, by simp only [wn (show j < 4294967296 by omega)], by omega⟩
    · intro c' hc'
      rw [azb (by simp only [List.length_cons, List.length_nil, bz8]; omega)]
      exact ⟨_, rfl, c', rfl, by omega⟩
open Go.Proofs
theorem bif_npos' {a b : Int} {σ R : Type} (h : a = b) : (some (Step3.out (a != b)) : Option (Step3 σ Bool R)) = some (.out false) := by rw [h]; simp
theorem CoB.cf {r : azj} {c : List (List Int)} (h : CoB r c) (hr : r.Joints.length ≤ 3) : CfB c := ⟨by have := h.1; omega, fun x hx => by have := h.2.1 x hx; omega⟩
theorem yzt (l m : List Int) (depth a k x : Int) (w : azy) (hl : l.length < 4294967296) (hm : m.length < 4294967296) : (cz0 l m depth a k x w).o = some true := by
  suffices h : ∃ r, (cz0 l m depth a k x w).o = some r ∧ r = true by
    obtain ⟨r, h1, rfl⟩ := h; exact h1
  show ∃ r, (gz0 l m depth a k x w).run NN = some r ∧ r = true
  obtain ⟨⟨s, c, d⟩, e1, ⟨d0, d1⟩, hc, hr⟩ := rzs l m depth hl hm
  simp only at d0 d1 hc hr
  have cf := hc.cf hr
  obtain ⟨y, e2, hy⟩ := Gz7 s d0 (by omega) c cf
  obtain ⟨z, e3, hz⟩ := yza s y.1 hy
  simp only [gz0, T.run, e1, Option.bind_some, e2, e3, Lz4]
  by_cases k0 : z.2 = 0
  · obtain ⟨h1, h2, h3⟩ := hz k0
    obtain ⟨c1, c2, c3⟩ := chkPV_iff.1 h1
    have pl := hy.1.1
    rw [bzg k0, gzg (by omega), bif_npos' (show ((y.1.Points.length : Nat) : Int) = IntKind.i64.wrap (((y.1.Edges.length : Nat) : Int) + 1) by rw [w64 (by omega) (by omega)]; omega), aza, cond_false, jzb (by omega) (by omega)]
    simp only [Option.bind_some]
    obtain ⟨i, hi, hil⟩ : ∃ i : Nat, a % (y.1.Edges.length : Int) = (i : Int) ∧ i < y.1.Edges.length := by
      have a1 := Int.emod_nonneg a (show (y.1.Edges.length : Int) ≠ 0 by omega)
      have a2 := Int.emod_lt_of_pos a (show (0 : Int) < (y.1.Edges.length : Int) by omega)
      exact ⟨(a % (y.1.Edges.length : Int)).toNat, by omega, by omega⟩
    rw [hi, jzb (by decide) (by decide)]
    simp only [Option.bind_some]
    have hk : 0 ≤ k % 21 ∧ k % 21 ≤ 20 := by omega
    generalize k % 21 = e at hk ⊢
    have pw := pow9 hk.1 hk.2
    rw [azb (by rw [u64w hk.1 (by omega)]; omega), shl1 hk.1 hk.2, w64 (x := 2 ^ e.toNat + 1) (by omega) (by omega), jzb (by omega) (by omega)]
    simp only [Option.bind_some]
    have hx : 0 ≤ x % (2 ^ e.toNat + 1) ∧ x % (2 ^ e.toNat + 1) ≤ 2 ^ e.toNat := ⟨Int.emod_nonneg _ (by omega), by have := Int.emod_lt_of_pos x (show (0 : Int) < 2 ^ e.toNat + 1 by omega); omega⟩
    generalize x % (2 ^ e.toNat + 1) = t at hx ⊢
    obtain ⟨u1, u2⟩ := h3 i hil
    have ue := Kz5 (hy.2.2 _ (ezq hil))
    have l1 := hy.1.get (show i < y.1.Points.length by omega)
    have l2 := hy.1.get (show i + 1 < y.1.Points.length by omega)
    rw [azb (by omega), wn (by omega), azb (by omega), Int.toNat_natCast, Int.toNat_natCast]
    generalize hP : y.1.Points.getD i default = P at u2 l1 ⊢
    generalize hQ : y.1.Points.getD (i + 1) default = Q at u2 l2 ⊢
    generalize y.1.Edges.getD i default = E at u1 u2 ue ⊢
    rw [Kzr P Q _ _ (by omega) (by omega)]
    simp only [Option.bind_some]
    rw [azb (by omega), ue.1]
    simp only [Option.bind_some]
    have al := Rzz (p := P) (q := Q) (e := e) (i := t)
    obtain ⟨a1, a2, a3⟩ := Qz6 u2 hk hx
    have tb := Jzo hk hx
    obtain ⟨j0, hj0, q1, q2⟩ := Pzs (check_iff.1 u2).2.1 tb.1 tb.2
    have fr := (Jz1 u2 hk hx hj0 q1 q2).2.2
    have ul := ue.2
    simp only [Azt _ (show (atV P Q e t).1.length < 4294967296 by omega), fzf s _ _ (Nz2 (show (atV P Q e t).1.length < 4294967296 by omega)), mzx s _ w (Nz2 (show (atV P Q e t).1.length < 4294967296 by omega)), Option.bind_some, a1, u1, cond_true]
    refine dz2 (P := fun r => r = true) (fun m (y : Bool × Int) => ∃ j : Nat, y.2 = (j : Int) ∧ j + m = (unpV E).1.length ∧ (y.1 = true ∨ j ≤ j0)) (fun b : Bool => b = true) (unpV E).1.length ⟨0, rfl, by omega, .inr (by omega)⟩ (by omega) ?_ ?_
    · rintro m ⟨b, jj⟩ ⟨j, hj, hm', hb⟩
      simp only at hj hb ⊢
      subst hj
      cases m with
      | zero =>
        refine .inr (.inl ⟨b, by rw [az5 (by omega)], ?_⟩)
        rcases hb with hb | hb
        · exact hb
        · omega
      | succ m =>
        rw [az7 (by omega)]
        cases b with
        | true =>
          simp only [cond_true, aza, wn (show j < 4294967296 by omega)]
          exact .inl ⟨_, m, rfl, Nat.lt_succ_self m, j + 1, rfl, by omega, .inl rfl⟩
        | false =>
          simp only [cond_false, wn (show j < 4294967296 by omega)]
          rw [azb (by omega), aza, Int.toNat_natCast]
          refine .inl ⟨_, m, rfl, Nat.lt_succ_self m, j + 1, rfl, by omega, ?_⟩
          by_cases ej : j = j0
          · subst ej; exact .inl fr
          · rcases hb with hb | hb
            · cases hb
            · exact .inr (by omega)
    · intro b hb
      subst hb
      rw [Cz0]
      simp only [Option.bind_some, a2, cond_true, a3 w]
      exact ⟨_, rfl, rfl⟩
  · rw [bzl k0]; exact ⟨_, rfl, rfl⟩
open Go.Proofs
theorem Dz7 (r : azj) (p : List Int) (hp : p.length < 4294967296) : (hzx r p p).o = some 0 := by
  suffices h : ∃ z, (hzx r p p).o = some z ∧ z = 0 by
    obtain ⟨z, h1, rfl⟩ := h; exact h1
  show ∃ z, (hzy r p p).run NN = some z ∧ z = 0
  simp only [hzy, T.run, nz4 p hp, pzw, Option.bind_some]
  by_cases c1 : p.length = r.Joints.length
  · rw [bzg (by omega), bzg (by omega)]
    simp only [bz0, aza]
    generalize (bif !fzd p then true else bif !fzd p then true else fzb r != 0) = b
    cases b with
    | true => exact ⟨_, rfl, rfl⟩
    | false =>
      simp only [cond_false]
      refine dz2 (P := fun z : Int => z = 0) (fun m (y : Int × Int) => y.1 = 0 ∧ ∃ j : Nat, y.2 = (j : Int) ∧ j + m = r.Joints.length) (fun z : Int => z = 0) r.Joints.length ⟨rfl, 0, rfl, by omega⟩ (by omega) ?_ (fun z hz => ⟨_, rfl, hz⟩)
      rintro m ⟨a, i⟩ ⟨ha, j, hj, hm⟩
      simp only at ha hj ⊢
      subst ha; subst hj
      cases m with
      | zero => exact .inr (.inl ⟨_, by rw [az5 (by omega)], rfl⟩)
      | succ m =>
        have g1 : 0 ≤ (j : Int) ∧ (j : Int) < (r.Joints.length : Int) := by omega
        have g2 : 0 ≤ (j : Int) ∧ (j : Int) < (p.length : Int) := by omega
        rw [az7 (by omega)]
        simp only [azb g1, azb g2, wn (show j < 4294967296 by omega)]
        have hs : ∀ a : Int, a - a = 0 := fun a => by omega
        refine .inl ⟨_, m, rfl, Nat.lt_succ_self m, ?_, j + 1, rfl, by omega⟩
        simp only [hs]
        have w0 : IntKind.i64.wrap 0 = 0 := rfl
        rw [w0, show max (0 : Int) 0 = 0 from rfl, Int.mul_zero, w0]; rfl
  · rw [bzl (by omega), aza]; exact ⟨_, rfl, rfl⟩
theorem Izf {s : az8} {p : List Int} (hs : bzq s = 0) (hp : azu s.Robot p = true) {d : Int} (h0 : 0 ≤ d) (h20 : d ≤ 20) : ∃ r, (jz7 s p p d).o = some r ∧ (r.Kind = 1 ↔ (clsV s (ptB p) nl).Kind = 1) := by
  have pl := (jz8 hp).2.2.1
  have nb : PsB nl := ⟨by simp [nl], by simp [nl]⟩
  have hbad : Cz8 s p p = false := by unfold Cz8; rw [hp, hs]; rfl
  have ev : (ezj s (czc p p 0 0).1 nl).o = some (clsV s (ptB p) nl) := by
    rw [fzm s _ nl (by have := tzb p p 0 0; omega) (by simp [nl]), sz8 hp (by omega) (by omega) (by omega) (by decide)]
  have st := Dzn 4294967295 s p p d 0 0 nl nl W0 (by omega) (by omega) ev nb
  rw [if_neg (by simp [nl])] at st
  have vl := Lzm s (ptB p) nl
  have vc := zzp s (ptB p) nl
  have va := Lzl (s := s) (b := ptB p) (hs := nl)
  generalize hv : clsV s (ptB p) nl = v at *
  rcases vc with ⟨k0, kw⟩ | ⟨k1, kw, kb, kf⟩ | ⟨k2, kn, kc, l1, l2⟩
  · obtain ⟨k', i', e3⟩ := Oz7 (s := s) (p := p) hp (d := d) (by omega) k0 (va k0) vl d.toNat 0 0 nl W0 NN (by omega) (by omega) (by omega) (by decide) (by show _ ≤ 4294967296; omega) (by simp [nl]) hv
    have e4 := tzc s p p d false [] _ h0 h20 e3
    rw [hbad] at e4
    exact ⟨_, e4, ⟨(fun h => by cases h), fun h => by omega⟩⟩
  · rw [if_pos k1] at st
    have e4 := tzc s p p d true _ _ h0 h20 st
    rw [hbad] at e4
    exact ⟨_, e4, ⟨fun _ => k1, fun _ => rfl⟩⟩
  · rw [if_neg (by omega), if_pos k2] at st
    have e4 := tzc s p p d false _ _ h0 h20 st
    rw [hbad] at e4
    exact ⟨_, e4, ⟨(fun h => by cases h), fun h => by omega⟩⟩
theorem Kzi (s : az8) (p : List Int) (e : bze) (hp : p.length ≤ 1000) (he : PkB e) : (hz6 s ⟨[p, p], [e]⟩).o = some 0 := by
  suffices h : ∃ z, (hz6 s ⟨[p, p], [e]⟩).o = some z ∧ z = 0 by
    obtain ⟨z, h1, rfl⟩ := h; exact h1
  have pb : PaB ⟨[p, p], [e]⟩ := ⟨⟨by simp, fun x hx => by simp at hx; subst hx; exact hp⟩, by simp, fun x hx => by simp at hx; subst hx; exact he⟩
  obtain ⟨z, ez, -⟩ := yza s _ pb
  show ∃ z, (hz7 s ⟨[p, p], [e]⟩).run NN = some z ∧ z = 0
  simp only [hz7, T.run, ez, Option.bind_some]
  by_cases c : z.2 = 0
  · rw [bzg c]
    refine dz2 (P := fun z : Int => z = 0) (fun m (y : Int × Int) => y.1 = 0 ∧ ((y.2 = 0 ∧ m = 1) ∨ (y.2 = 1 ∧ m = 0))) (fun z : Int => z = 0) 1 ⟨rfl, .inl ⟨rfl, rfl⟩⟩ (by omega) ?_ (fun z hz => ⟨_, rfl, hz⟩)
    rintro m ⟨a, i⟩ ⟨ha, ⟨hi, hm⟩ | ⟨hi, hm⟩⟩
    · simp only at ha hi ⊢
      subst ha; subst hi; subst hm
      have w1 : IntKind.i64.wrap (0 + 1) = 1 := rfl
      have t0 : (0 : Int).toNat = 0 := rfl
      have t1 : (1 : Int).toNat = 1 := rfl
      have q0 : ([p, p] : List (List Int)).getD 0 default = p := rfl
      have q1 : ([p, p] : List (List Int)).getD 1 default = p := rfl
      simp only [w1, t0, t1, q0, q1, Dz7 s.Robot p (by omega), Option.bind_some, List.length_cons, List.length_nil]
      rw [az7 (by omega), azb (by omega), azb (by omega)]
      exact .inl ⟨_, 0, rfl, by omega, rfl, .inr ⟨rfl, rfl⟩⟩
    · simp only at ha hi ⊢
      subst ha; subst hi
      simp only [List.length_cons, List.length_nil]
      exact .inr (.inl ⟨0, by rw [az5 (by omega)], rfl⟩)
  · rw [bzl c]; exact ⟨_, rfl, rfl⟩
theorem Azc (s : az8) : (hz6 s ⟨nl, nl⟩).o = some 0 := by
  have hc : (yzn s nl).2 ≠ 0 := fun h => by
    have := (chkPV_iff.1 h).2.1
    simp [nl] at this
  have e1 : (gz8 s ⟨nl, nl⟩).o = some (yzn s nl) := by
    show (jzd s ⟨nl, nl⟩).run NN = _
    simp only [jzd, T.run, ezu, Option.bind_some]
    rw [bzl hc]
  show (hz7 s ⟨nl, nl⟩).run NN = _
  simp only [hz7, T.run, e1, Option.bind_some]
  rw [bzl hc]
theorem Bzy (l m : List Int) (depth : Int) (hl : l.length < 4294967296) (hm : m.length < 4294967296) : (czi l m depth).o = some true := by
  suffices h : ∃ r, (czi l m depth).o = some r ∧ r = true by
    obtain ⟨r, h1, rfl⟩ := h; exact h1
  show ∃ r, (iz6 l m depth).run NN = some r ∧ r = true
  obtain ⟨⟨s, c, d⟩, e1, ⟨d0, d1⟩, hc, hr⟩ := rzs l m depth hl hm
  simp only at d0 d1 hc hr
  have es : (⟨s.Robot, s.Shapes, s.Skips⟩ : az8) = s := rfl
  have ep : ∀ x : hzp, (⟨x.Points, x.Edges⟩ : hzp) = x := fun _ => rfl
  have z0 : (0 : Int).toNat = 0 := rfl
  have c1 := hc.1
  have lp : (c.getD 0 default).length = s.Robot.Joints.length := hc.2.1 _ (ezq (by omega))
  have lm := hc.2.2
  have g0 : (0 : Int) ≤ 0 ∧ (0 : Int) < (c.length : Int) := by omega
  simp only [iz6, T.run, e1, Option.bind_some, z0, azb g0]
  generalize c.getD 0 default = p at lp lm ⊢
  rw [Azt p (by omega)]
  simp only [Option.bind_some]
  rw [fzm s (ptB p) nl (Nz2 (by omega)) (by simp [nl])]
  simp only [Option.bind_some, Lz4, cond_true, es, ep]
  have cf : CfB [p, p] := ⟨by simp, fun x hx => by simp at hx; subst hx; omega⟩
  have eb : (gz7 s [p, p] d).o = (jzc s [p, p] d).run NN := rfl
  rw [eb]
  simp only [jzc, T.run, ezu, Option.bind_some]
  by_cases hs : bzq s = 0
  · have hp : azu s.Robot p = true := Kzj (szq hs).robot lp lm
    have hk : (yzn s [p, p]).2 = 0 := chkPV_iff.2 ⟨hs, ⟨by simp, by simp⟩, fun i hi => by
      match i, hi with
      | 0, _ => exact hp
      | 1, _ => exact hp⟩
    obtain ⟨r, er, hrk⟩ := Izf hs hp d0 (by omega)
    obtain ⟨r', x, er', ex, hx⟩ := Jzq s d0 (by omega) p p (by omega) (by omega)
    rw [er] at er'
    cases er'
    have ec : (nzn [p, p] ⟨s, d⟩).o = some (if r.Kind = 1 then ([x], 0, 0) else (nl, 0, 2204)) := by
      show (fzq [p, p] ⟨s, d⟩).run NN = _
      have q0 : ([p, p] : List (List Int)).getD 0 default = p := rfl
      have q1 : (([p, p] : List (List Int)).drop 1).take (2 - 1) = [p] := rfl
      have q2 : ([p] : List (List Int)).getD 0 default = p := rfl
      have t1 : (1 : Int).toNat = 1 := rfl
      have t2 : (((0 + 1 + 1 : Nat) : Int)).toNat = 2 := rfl
      have w1 : IntKind.i64.wrap (0 + 1) = 1 := rfl
      simp only [fzq, T.run, List.length_cons, List.length_nil, t1, t2, q1]
      rw [azb (by omega)]
      by_cases k : r.Kind = 1
      · rw [if_pos k]
        refine (ez8 (fun j => (match j with | 0 => ((nl : List bze), (0 : Int)) | _ => ([x], 1))) [x] 1 rfl (by decide) (fun j hj => ?_) ?_).trans rfl
        · obtain rfl : j = 0 := by omega
          simp only [z0, q0, q2, ex, decide_eq_true k, Option.bind_some, w1]
          rw [az7 (by omega), azb (by omega), azb (by omega)]
          simp only [Bool.not_true, cond_false]
          rw [azb (by simp [nl, bz8])]; rfl
        · rw [az5 (by simp)]; rfl
      · rw [if_neg k]
        refine (jza (fun j => ((nl : List bze), (j : Int))) (fun _ => some ((nl : List bze), (0 : Int), (2204 : Int))) nl 1 rfl (by decide) (fun j hj => ?_) ?_).trans rfl
        · obtain rfl : j = 0 := by omega
          have n0 : (((0 : Nat) : Int)).toNat = 0 := rfl
          simp only [n0, q0, q2, ex, decide_eq_false k, Option.bind_some]
          rw [az7 (by omega), azb (by omega), azb (by omega)]; rfl
        · rw [az5 (by simp)]
    rw [bzg hk, es, ec]
    simp only [Option.bind_some]
    by_cases k : r.Kind = 1
    · have kv := hrk.1 k
      rw [if_pos k, bzg rfl, vzh _ cf]
      simp only [Option.bind_some, kv]
      rw [Kzi s p x (by omega) hx]
      exact ⟨_, rfl, rfl⟩
    · have kv : (clsV s (ptB p) nl).Kind ≠ 1 := fun h => k (hrk.2 h)
      rw [if_neg k, bzl (by decide)]
      have kv' : ((clsV s (ptB p) nl).Kind == 1) = false := by simpa using kv
      simp only [Option.bind_some, kv']
      rw [Azc s]
      exact ⟨_, rfl, rfl⟩
  · have hk : (yzn s [p, p]).2 ≠ 0 := fun h => hs (chkPV_iff.1 h).1
    have kv : (clsV s (ptB p) nl).Kind = 0 := by unfold clsV; rw [if_neg (fun h => hs h.1)]
    rw [bzl hk]
    have hk' : ((yzn s [p, p]).2 == 0) = false := by simpa using hk
    simp only [Option.bind_some, kv, hk']
    rw [Azc s]
    exact ⟨_, rfl, rfl⟩
end Go.Abs
