/-
  DL4 (a part of a claim: our own text).
-/
import Derived.Test.YtomogglfhepnmaaGreatXFDL3
import Derived.Test.YtomogglfhepnmaaGreatXFDM
import Derived.Test.YtomogglfhepnmaaGreatXFDL2
namespace Go.Abs
open Go.Proofs
def atV (p q : List Int) (e j : Int) : List Int × Bool := if lzi p q e = true ∧ 0 ≤ j ∧ j ≤ 2 ^ e.toNat then (tab (atI p q e.toNat j) p.length, true) else (nl, false)
theorem Kzr (p q : List Int) (e j : Int) (hp : p.length < 4294967296) (hq : q.length < 4294967296) : (Czm p q e j).o = some (atV p q e j) := by
  show (xzl p q e j).run NN = _
  simp only [xzl, T.run, Cz2 p q e hp hq, Option.bind_some]
  unfold atV
  cases hm : lzi p q e with
  | false => rw [if_neg (by simp)]; rfl
  | true =>
    obtain ⟨m1, m2, m3, m4, m5⟩ := motionV_iff.1 hm
    simp only [Bool.not_true, cond_false, Tz5 m4 m5, azb m4, show min e.toNat 64 = e.toNat by omega, w2k (k := e.toNat) (by omega)]
    by_cases c1 : j < 0
    · rw [az7 c1, aza, if_neg (by omega)]; rfl
    · rw [az5 c1, aza]
      by_cases c2 : j > 2 ^ e.toNat
      · rw [az7 c2, if_neg (by omega)]
      · rw [az5 c2, if_pos ⟨by trivial, by omega, by omega⟩]
        refine (ez8 (fun i => (tab (atI p q e.toNat j) i, (i : Int))) (tab (atI p q e.toNat j) p.length) p.length rfl hp (fun i hi => ?_) ?_).trans rfl
        · rw [az7 (by omega), azb (by omega), azb (by omega), azb (by omega), Int.toNat_natCast]
          have b1 := tz0 m1 hi
          have b2 := tz0 m2 (i := i) (by omega)
          have b3 := Rz6 (i := j) (D := q.getD i default - p.getD i default) (by omega) (by have := Gzb (k := e.toNat) (by omega); omega) (by omega)
          have b4 := Rzy (p := p) (q := q) (e := e.toNat) (j := j) (k := i) (by omega) (by omega)
          rw [w64 (x := q.getD i default - p.getD i default) (by omega) (by omega), w64 (x := j * (q.getD i default - p.getD i default)) (by omega) (by omega), Gzf ⟨by omega, by omega⟩ (bzh _)]
          simp only [Option.bind_some]
          have ea : p.getD i default + j * (q.getD i default - p.getD i default) / 2 ^ e.toNat = atI p q e.toNat j i := rfl
          rw [ea, w64 (x := atI p q e.toNat j i) (by omega) (by omega), azb (by simp only [czs, List.length_cons, List.length_nil, bz8]; omega), wn (by omega), wzr]
        · rw [az5 (by omega)]
def ptI (c : List Int) (i : Nat) : az0 := ⟨c.getD i default, c.getD i default⟩
def ptB (c : List Int) : List az0 := if fzd c = true then tab (ptI c) c.length else nl
theorem Azt (c : List Int) (hc : c.length < 4294967296) : (pzr c).o = some (ptB c) := by
  show (uzy c).run NN = _
  simp only [uzy, T.run, pzt c hc, Option.bind_some]
  unfold ptB
  cases hs : fzd c with
  | false => rfl
  | true =>
    rw [if_pos rfl]
    refine (ez8 (fun i => (tab (ptI c) i, (i : Int))) (tab (ptI c) c.length) c.length rfl hc (fun i hi => ?_) ?_).trans rfl
    · rw [az7 (by omega), azb (by omega), azb (by omega), Int.toNat_natCast, azb (by simp only [czs, List.length_cons, List.length_nil, bz8]; omega), wn (by omega), wzr]; rfl
    · rw [az5 (by omega)]
theorem jz8 {r : azj} {c : List Int} (h : azu r c = true) : fzb r = 0 ∧ c.length = r.Joints.length ∧ c.length ≤ 10 ∧ fzd c = true ∧ ∀ i, i < c.length → (r.Joints.getD i default).Lo ≤ c.getD i default ∧ c.getD i default ≤ (r.Joints.getD i default).Hi := by
  simp only [azu, Bool.and_eq_true, decide_eq_true_eq] at h
  obtain ⟨h1, h2, h3⟩ := h
  have hr := jzh h1
  have lim : ∀ i, i < c.length → (r.Joints.getD i default).Lo ≤ c.getD i default ∧ c.getD i default ≤ (r.Joints.getD i default).Hi := fun i hi => by
    have := noneB_iff.1 h3 i hi
    simp only [outJ, Bool.or_eq_false_iff, decide_eq_false_iff_not] at this
    omega
  refine ⟨h1, h2, by omega, ?_, lim⟩
  unfold fzd
  rw [noneB_iff]
  intro i hi
  have jl := (izj h1 (i := i) (by omega)).lim
  have rb := Ezi (r.Joints.getD i default).Kind
  have := lim i hi
  simp only [big1, Bool.or_eq_false_iff, decide_eq_false_iff_not]
  omega
theorem Azm {r : azj} {p q : List Int} {e : Int} (hp : azu r p = true) (hq : azu r q = true) (h0 : 0 ≤ e) (h1 : e ≤ 20) : lzi p q e = true := by
  have a := jz8 hp
  have b := jz8 hq
  exact motionV_iff.2 ⟨a.2.2.2.1, b.2.2.2.1, by omega, h0, h1⟩
theorem tab_get' {α : Type} [Inhabited α] {f : Nat → α} {n i : Nat} (h : i < n) : (tab f n).getD i default = f i := fzl h
theorem Ozh {s : az8} {p q : List Int} {D i e j : Int} (hp : azu s.Robot p = true) (hq : azu s.Robot q = true) (hD : 0 ≤ D ∧ D ≤ 20) (hi : 0 ≤ i ∧ i < 2 ^ D.toNat) (he : 0 ≤ e ∧ e ≤ 20) (hj : 0 ≤ j ∧ j ≤ 2 ^ e.toNat)
    (h1 : i * 2 ^ e.toNat ≤ j * 2 ^ D.toNat) (h2 : j * 2 ^ D.toNat ≤ (i + 1) * 2 ^ e.toNat) (hb : boxV s.Robot (czc p q D i).1 = true) :
    (atV p q e j).2 = true ∧ azu s.Robot (atV p q e j).1 = true ∧ (atV p q e j).1.length = p.length ∧ boxV s.Robot (ptB (atV p q e j).1) = true ∧ SBx s.Robot.Joints.length (ptB (atV p q e j).1) (czc p q D i).1 := by
  have a := jz8 hp
  have b := jz8 hq
  have ev : atV p q e j = (tab (atI p q e.toNat j) p.length, true) := by unfold atV; rw [if_pos ⟨Azm hp hq he.1 he.2, hj.1, hj.2⟩]
  have ep : (czc p q D i).1 = tab (sz7 p q D.toNat i) p.length := by unfold czc; rw [if_pos ⟨Azm hp hq hD.1 hD.2, hi.1, hi.2⟩]
  rw [ev]
  have hin : azu s.Robot (tab (atI p q e.toNat j) p.length) = true := by
    simp only [azu, Bool.and_eq_true, decide_eq_true_eq, czs]
    refine ⟨a.1, a.2.1, noneB_iff.2 fun k hk => ?_⟩
    have := Rzy (p := p) (q := q) (k := k) hj.1 hj.2
    have := a.2.2.2.2 k hk
    have := b.2.2.2.2 k (by omega)
    simp only [outJ, Bool.or_eq_false_iff, decide_eq_false_iff_not]
    rw [tab_get' hk]
    omega
  have sm := (jz8 hin).2.2.2.1
  have epb : ptB (tab (atI p q e.toNat j) p.length) = tab (ptI (tab (atI p q e.toNat j) p.length)) p.length := by unfold ptB; rw [if_pos sm, czs]
  have hbx : boxV s.Robot (ptB (tab (atI p q e.toNat j) p.length)) = true := by
    rw [epb]
    simp only [boxV, Bool.and_eq_true, decide_eq_true_eq, czs]
    refine ⟨a.2.1, noneB_iff.2 fun k hk => ?_⟩
    unfold notV
    rw [tab_get' hk]
    have g := tz0 sm (i := k) (by rw [czs]; exact hk)
    have : vV (ptI (tab (atI p q e.toNat j) p.length) k) = true := vV_iff.2 ⟨g.1, Int.le_refl _, g.2⟩
    rw [this]; rfl
  refine ⟨rfl, hin, czs _ _, hbx, show SBx s.Robot.Joints.length (ptB (tab (atI p q e.toNat j) p.length)) (czc p q D i).1 from SBx.of hbx hb fun k hk => ?_⟩
  rw [epb, ep, tab_get' (by omega), tab_get' (by omega)]
  have g := Tzb (p := p) (q := q) (k := k) h1 h2
  unfold ptI
  rw [tab_get' (by omega)]
  exact g
open Go.Proofs
theorem Qz9 {l : List Int} {x : Int} {i : Nat} (h : i ≤ l.length) : (l ++ [x]).getD i default = if i < l.length then l.getD i default else x := by
  simp only [List.getD_eq_getElem?_getD]
  by_cases c : i < l.length
  · rw [if_pos c, List.getElem?_append_left c]
  · rw [if_neg c, show i = l.length by omega, List.getElem?_append_right (Nat.le_refl _)]; simp
def LimC (r : azj) (l : List Int) : Prop := ∀ i, i < l.length → (r.Joints.getD i default).Lo ≤ l.getD i default ∧ l.getD i default ≤ (r.Joints.getD i default).Hi
theorem LimC.app {r : azj} {l : List Int} {x : Int} (h : LimC r l) (hx : (r.Joints.getD l.length default).Lo ≤ x ∧ x ≤ (r.Joints.getD l.length default).Hi) : LimC r (l ++ [x]) := by
  intro i hi
  simp at hi
  rw [Qz9 (by omega)]
  split
  · exact h i (by assumption)
  · rw [show i = l.length by omega]; exact hx
theorem vzq (r : azj) (l : List Int) (hl : l.length < 4294967296) (h3 : r.Joints.length ≤ 3) (hj : ∀ j ∈ r.Joints, JB j) : ∃ c : List Int, (kzp r l).o = some c ∧ c.length = r.Joints.length ∧ LimC r c := by
  have e0 : (kzp r l).o = (pzi r l).run NN := rfl
  rw [e0]
  simp only [pzi, T.run]
  have ef : (iz7 l).o = some (l, 0) := rfl
  rw [ef, Option.bind_some]
  simp only
  refine tza (g := fun b => b) r.Joints.length (by omega) (fun j (y : List Int × Int × List Int × Int) => y.1 = l ∧ 0 ≤ y.2.1 ∧ y.2.1 ≤ (l.length : Int) ∧ (y.2.2.1.length = j ∧ LimC r y.2.2.1) ∧ y.2.2.2 = (j : Int))
    (fun (w : List Int) => w.length = r.Joints.length ∧ LimC r w) ⟨rfl, by simp, by simp, ⟨by simp [nl], fun i hi => by simp [nl] at hi⟩, rfl⟩ (fun j y hj1 hy => ?_) (fun y hy => ?_) (fun z hz => ⟨_, rfl, hz⟩)
  · obtain ⟨g1, g2, g3, ⟨g4, g6⟩, g5⟩ := hy
    have jb := hj _ (ezq hj1)
    unfold JB at jb
    obtain ⟨s1, p1, q1, u1, v1, w1, x1⟩ := azi hl g2 g3 (k := 6) (by decide) (by decide)
    rw [g5, g1, az7 (by omega), azb ⟨by omega, by omega⟩, azb ⟨by omega, by omega⟩, q1, Option.bind_some, wn (by omega), Int.toNat_natCast]
    cases s1 == 0
    · cases s1 == 1
      · simp only [cond_false]
        rw [w64 (x := (r.Joints.getD j default).Hi - (r.Joints.getD j default).Lo) (by omega) (by omega), w64 (x := (r.Joints.getD j default).Hi - (r.Joints.getD j default).Lo + 1) (by omega) (by omega)]
        obtain ⟨s2, p2, q2, u2, v2, w2, x2⟩ := azi hl w1 x1 (k := (r.Joints.getD j default).Hi - (r.Joints.getD j default).Lo + 1) (by omega) (by omega)
        rw [q2, Option.bind_some]
        simp only
        rw [azb ⟨by simp; omega, by simp [bz8]; omega⟩, aza]
        refine ⟨_, rfl, rfl, w2, x2, ⟨by simp; omega, g6.app ?_⟩, rfl⟩
        rw [g4, w64 (by omega) (by omega)]; omega
      · simp only [cond_false, cond_true]
        rw [azb ⟨by simp; omega, by simp [bz8]; omega⟩, aza]
        exact ⟨_, rfl, rfl, w1, x1, ⟨by simp; omega, g6.app (by rw [g4]; omega)⟩, rfl⟩
    · simp only [cond_true]
      rw [azb ⟨by simp; omega, by simp [bz8]; omega⟩, aza]
      exact ⟨_, rfl, rfl, w1, x1, ⟨by simp; omega, g6.app (by rw [g4]; omega)⟩, rfl⟩
  · obtain ⟨g1, g2, g3, g4, g5⟩ := hy
    rw [g5, az5 (by omega)]; exact ⟨_, rfl, g4⟩
theorem Kzj {r : azj} {c : List Int} (hr : fzb r = 0) (hl : c.length = r.Joints.length) (h : LimC r c) : azu r c = true := by
  simp only [azu, Bool.and_eq_true, decide_eq_true_eq]
  refine ⟨hr, hl, noneB_iff.2 fun i hi => ?_⟩
  have := h i hi
  simp only [outJ, Bool.or_eq_false_iff, decide_eq_false_iff_not]
  omega
theorem Ozw {p : List Int} (i : Int) (d k : Nat) : sz7 p p d i k = ptI p k := by
  unfold sz7 ptI
  have e : p.getD k default - p.getD k default = 0 := by omega
  rw [e, Int.mul_zero, Int.mul_zero]
  have h1 : min (0 : Int) 0 / 2 ^ d = 0 := by rw [show min (0 : Int) 0 = 0 from rfl, Int.zero_ediv]
  have h2 : cdiv (max (0 : Int) 0) (2 ^ d) = 0 := by unfold cdiv; rw [show max (0 : Int) 0 = 0 from rfl, Int.neg_zero, Int.zero_ediv]; rfl
  rw [h1, h2, Int.add_zero]
theorem sz8 {r : azj} {p : List Int} (hp : azu r p = true) {d i : Int} (h0 : 0 ≤ d) (h1 : d ≤ 20) (i0 : 0 ≤ i) (i1 : i < 2 ^ d.toNat) : (czc p p d i).1 = ptB p := by
  have a := jz8 hp
  unfold czc ptB
  rw [if_pos ⟨Azm hp hp h0 h1, i0, i1⟩, if_pos a.2.2.2.1]
  exact Gzt fun k _ => Ozw i _ k
theorem Oz7 {s : az8} {p : List Int} (hp : azu s.Robot p = true) {d : Int} (h20 : d ≤ 20) {v : dz0} (hv0 : v.Kind = 0) (hva : clsV s (ptB p) v.Normals = v) (hvl : v.Normals.length ≤ 576) :
    ∀ (f : Nat) (k i : Int) (h : List V3) (W : XW) (n : Nat), k + f = d → 0 ≤ k → 0 ≤ i → i < 2 ^ k.toNat → f + 1 ≤ n → h.length ≤ 576 → clsV s (ptB p) h = v →
      ∃ k' i', exO n s p p d k i h [] W = some (exR false [] (0, nl, k', i', nl, 0, nl, nl) s p p d) := by
  have hpl := (jz8 hp).2.2.1
  intro f
  induction f with
  | zero =>
    intro k i h W n hk h0 i0 i1 hn hh hv
    obtain ⟨n, rfl⟩ : ∃ m, n = m + 1 := ⟨n - 1, by omega⟩
    have e := fzm s (czc p p k i).1 h (by have := tzb p p k i; omega) (by omega)
    rw [sz8 hp h0 (by omega) i0 i1, hv] at e
    rw [Dzn n s p p d k i h [] W (by omega) (by omega) (by rw [sz8 hp h0 (by omega) i0 i1]; exact e) ⟨by simp, by simp⟩, if_neg (by simp), if_neg (by omega), if_neg (by omega), if_neg (by omega)]
    exact ⟨_, _, rfl⟩
  | succ f ih =>
    intro k i h W n hk h0 i0 i1 hn hh hv
    obtain ⟨n, rfl⟩ : ∃ m, n = m + 1 := ⟨n - 1, by omega⟩
    have e := fzm s (czc p p k i).1 h (by have := tzb p p k i; omega) (by omega)
    rw [sz8 hp h0 (by omega) i0 i1, hv] at e
    rw [Dzn n s p p d k i h [] W (by omega) (by omega) (by rw [sz8 hp h0 (by omega) i0 i1]; exact e) ⟨by simp, by simp⟩, if_neg (by simp), if_neg (by omega), if_neg (by omega), if_pos (by omega)]
    have hp20 := Gzb (k := k.toNat) (by omega)
    have hpk : (2 : Int) ^ (k + 1).toNat = 2 * 2 ^ k.toNat := by rw [show (k + 1).toNat = k.toNat + 1 by omega, Int.pow_succ]; omega
    rw [w64 (x := k + 1) (by omega) (by omega), w64 (x := 2 * i) (by omega) (by omega)]
    obtain ⟨k', i', e2⟩ := ih (k + 1) (2 * i) v.Normals W n (by omega) (by omega) (by omega) (by rw [hpk]; omega) (by omega) hvl hva
    rw [e2]
    exact ⟨k', i', rfl⟩
open Go.Proofs
def PC (n : Nat) (l : List az4) : Prop := PB n l ∧ ∀ x ∈ l, InR x.Index
def Lz2 (l : List az4) : Prop := l.length ≤ 4096 ∧ (∀ j, j < l.length → badT l j = false) ∧ plc l l.length = 1048576
theorem cover_iff {l : List az4} : (rz8 l).2 = true ↔ Lz2 l := by
  constructor
  · intro h
    have h1 := (Dz6 h).1
    unfold rz8 at h
    rw [if_pos h1] at h
    split at h
    · rename_i r hr
      obtain ⟨j, -, -, h3, -⟩ := dzc _ _ hr
      cases hb : badT l j with
      | false => rw [hb] at h3; cases h3
      | true => rw [hb] at h3; simp only [sw, cond_true, Option.some.injEq] at h3; rw [← h3] at h; cases h
    · rename_i hn
      refine ⟨h1, fun j hj => ?_, by simpa using h⟩
      have := (dzm _ _).1 hn j (Nat.zero_le _) (by omega)
      cases hb : badT l j with
      | false => rfl
      | true => rw [hb] at this; cases this
  · rintro ⟨h1, h2, h3⟩
    unfold rz8
    rw [if_pos h1]
    have : scan (fun j => sw (badT l j) ((j : Int), false)) l.length 0 = none := (dzm _ _).2 fun j _ hj => by rw [h2 j (by omega)]; rfl
    rw [this, h3]; rfl
theorem check_iff {s : az8} {p q : List Int} {l : List az4} : (hzq s p q l).2 = 0 ↔ (bzq s = 0 ∧ azu s.Robot p = true ∧ azu s.Robot q = true) ∧ Lz2 l ∧
    ∀ j, j < l.length → kzn s (czc p q (l.getD j default).Depth (l.getD j default).Index).1 (l.getD j default).Normals = true := by
  constructor
  · intro h
    have h0 := Fz8 h
    refine ⟨⟨h0.1, h0.2.1, h0.2.2.1⟩, ?_⟩
    unfold hzq at h
    rw [if_neg (fun h' => h' h0.1), if_neg (by rw [h0.2.1, h0.2.2.1]; decide)] at h
    split at h
    · cases h
    · rename_i hc
      refine ⟨cover_iff.1 (by simpa using hc), fun j hj => ?_⟩
      split at h
      · rename_i r hr
        obtain ⟨j, -, -, h3, -⟩ := dzc _ _ hr
        cases hb : notF s p q l j with
        | false => rw [hb] at h3; cases h3
        | true => rw [hb] at h3; simp only [sw, cond_true, Option.some.injEq] at h3; rw [← h3] at h; cases h
      · rename_i hn
        have := (dzm _ _).1 hn j (Nat.zero_le _) (by omega)
        cases hb : notF s p q l j with
        | false => simpa [notF] using hb
        | true => rw [hb] at this; cases this
  · rintro ⟨⟨h1, h2, h3⟩, h4, h5⟩
    unfold hzq
    rw [if_neg (fun h' => h' h1), if_neg (by rw [h2, h3]; decide), if_neg (by rw [cover_iff.2 h4]; decide)]
    have : scan (fun j => sw (notF s p q l j) ((j : Int), (2002 : Int))) l.length 0 = none := (dzm _ _).2 fun j _ hj => by
      have := h5 j (by omega)
      unfold notF; rw [this]; rfl
    rw [this]
theorem Lz5 {l : List az4} {j : Nat} (h : badT l j = false) : ∃ n, begV (l.getD j default) = some (plc l j, n) ∧ plc l (j + 1) = plc l j + n := by
  unfold badT at h
  cases hb : begV (l.getD j default) with
  | none => rw [hb] at h; cases h
  | some x =>
    obtain ⟨f, n⟩ := x
    rw [hb] at h
    have hf : f = plc l j := by simpa using h
    refine ⟨n, by rw [hf], ?_⟩
    simp only [plc, hb, hf]
theorem Jzp {l : List az4} {j : Nat} {f n : Int} (h : begV (l.getD j default) = some (f, n)) : plc l (j + 1) = f + n := by simp only [plc, h]
theorem zzj {x : az4} {y : Int × Int} (h : begV x = some y) : (0 ≤ x.Depth ∧ x.Depth ≤ 20) ∧ (0 ≤ x.Index ∧ x.Index < 2 ^ x.Depth.toNat) ∧ y = (x.Index * 2 ^ (20 - x.Depth.toNat), 2 ^ (20 - x.Depth.toNat)) := by
  unfold begV at h
  split at h
  · rename_i hc
    simp only [Option.some.injEq] at h
    exact ⟨hc.1, hc.2, h.symm⟩
  · cases h
open Go.Proofs
theorem uzx {a : Int} (h0 : 0 ≤ a) (h1 : a ≤ 20) : (2 : Int) ^ (20 - a).toNat * 2 ^ a.toNat = 1048576 := by
  rw [← Int.pow_add, show (20 - a).toNat + a.toNat = 20 by omega]; decide
theorem Czj {I i D e : Int} (d0 : 0 ≤ D ∧ D ≤ 20) (e0 : 0 ≤ e ∧ e ≤ 20) (h : I * 2 ^ (20 - D).toNat ≤ i * 2 ^ (20 - e).toNat) : I * 2 ^ e.toNat ≤ i * 2 ^ D.toNat := by
  have p1 := uzx d0.1 d0.2
  have p2 := uzx e0.1 e0.2
  have q1 := bzh D.toNat
  have q2 := bzh e.toNat
  generalize (2 : Int) ^ (20 - D).toNat = A at *
  generalize (2 : Int) ^ (20 - e).toNat = B at *
  generalize (2 : Int) ^ D.toNat = X at *
  generalize (2 : Int) ^ e.toNat = Y at *
  have h1 := Int.mul_le_mul_of_nonneg_right (Int.mul_le_mul_of_nonneg_right h (Int.le_of_lt q1)) (Int.le_of_lt q2)
  have a1 : I * A * X * Y = I * Y * 1048576 := by rw [← p1, Int.mul_assoc I A X, Int.mul_assoc I, Int.mul_assoc I, Int.mul_comm Y]
  have a2 : i * B * X * Y = i * X * 1048576 := by rw [← p2, Int.mul_assoc, Int.mul_comm X Y, ← Int.mul_assoc, Int.mul_assoc i B Y, Int.mul_assoc i, Int.mul_comm (B * Y), ← Int.mul_assoc]
  rw [a1, a2] at h1
  omega
theorem place_inst' {I i D e : Int} (d0 : 0 ≤ D ∧ D ≤ 20) (e0 : 0 ≤ e ∧ e ≤ 20) (h : i * 2 ^ (20 - e).toNat ≤ I * 2 ^ (20 - D).toNat) : i * 2 ^ D.toNat ≤ I * 2 ^ e.toNat := Czj e0 d0 h
theorem Jzo {i e : Int} (e0 : 0 ≤ e ∧ e ≤ 20) (hi : 0 ≤ i ∧ i ≤ 2 ^ e.toNat) : 0 ≤ i * 2 ^ (20 - e).toNat ∧ i * 2 ^ (20 - e).toNat ≤ 1048576 := by
  have p := uzx e0.1 e0.2
  have q := bzh (20 - e).toNat
  refine ⟨Int.mul_nonneg hi.1 (by omega), ?_⟩
  have := Int.mul_le_mul_of_nonneg_right hi.2 (Int.le_of_lt q)
  rw [Int.mul_comm (2 ^ e.toNat), p] at this
  exact this
theorem Pzs {l : List az4} (h : Lz2 l) {t : Int} (t0 : 0 ≤ t) (t1 : t ≤ 1048576) : ∃ j, j < l.length ∧ plc l j ≤ t ∧ t ≤ plc l (j + 1) := by
  have key : ∀ m, m + 1 ≤ l.length → t ≤ plc l (m + 1) → ∃ j, j < l.length ∧ plc l j ≤ t ∧ t ≤ plc l (j + 1) := by
    intro m
    induction m with
    | zero => intro hm ht; exact ⟨0, by omega, by simpa [plc] using t0, ht⟩
    | succ m ih =>
      intro hm ht
      by_cases c : t ≤ plc l (m + 1)
      · exact ih (by omega) c
      · exact ⟨m + 1, by omega, by omega, ht⟩
  have h3 := h.2.2
  cases hl : l.length with
  | zero => rw [hl] at h3; cases h3
  | succ m =>
    have := key m (by omega) (by rw [← hl, h3]; exact t1)
    rw [hl] at this; exact this
section
variable {s : az8} {p q : List Int} {l : List az4} (hc : (hzq s p q l).2 = 0) {e i : Int} (e0 : 0 ≤ e ∧ e ≤ 20) (hi : 0 ≤ i ∧ i ≤ 2 ^ e.toNat)
include hc e0 hi
theorem Jz1 {j : Nat} (hj : j < l.length) (h1 : plc l j ≤ i * 2 ^ (20 - e).toNat) (h2 : i * 2 ^ (20 - e).toNat ≤ plc l (j + 1)) :
    (atV p q e i).2 = true ∧ azu s.Robot (atV p q e i).1 = true ∧ kzn s (ptB (atV p q e i).1) (l.getD j default).Normals = true := by
  obtain ⟨⟨c1, c2, c3⟩, c4, c5⟩ := check_iff.1 hc
  obtain ⟨n, b1, b2⟩ := Lz5 (c4.2.1 j hj)
  obtain ⟨r0, r1, r2⟩ := zzj b1
  simp only [Prod.mk.injEq] at r2
  have ee : 20 - (l.getD j default).Depth.toNat = (20 - (l.getD j default).Depth).toNat := by omega
  rw [ee] at r2
  rw [b2, r2.2] at h2
  rw [r2.1] at h1 h2
  have f := c5 j hj
  have k1 := Czj r0 e0 h1
  have k2 := place_inst' (I := (l.getD j default).Index + 1) (i := i) r0 e0 (by rw [Int.add_mul, Int.one_mul]; exact h2)
  obtain ⟨a1, a2, a3, a4, a5⟩ := Ozh (s := s) c2 c3 r0 r1 e0 hi k1 k2 (free_iff.1 f).2.1
  exact ⟨a1, a2, Lzx a4 a5 f⟩
theorem Qz6 : (atV p q e i).2 = true ∧ azu s.Robot (atV p q e i).1 = true ∧ ∀ w, uzk s (ptB (atV p q e i).1) w = false := by
  obtain ⟨-, c4, -⟩ := check_iff.1 hc
  have b := Jzo e0 hi
  obtain ⟨j, hj, h1, h2⟩ := Pzs c4 b.1 b.2
  obtain ⟨k1, k2, k3⟩ := Jz1 hc e0 hi hj h1 h2
  exact ⟨k1, k2, fun w => Fzn k3⟩
end
theorem Nz2 {c : List Int} (h : c.length < 4294967296) : (ptB c).length < 4294967296 := by
  unfold ptB; split
  · rw [czs]; exact h
  · simp [nl]
theorem Rzz {p q : List Int} {e i : Int} : (atV p q e i).1.length ≤ p.length := by
  unfold atV; split
  · rw [czs]; exact Nat.le_refl _
  · simp [nl]
open Go.Proofs
theorem Kz3 {s : az8} {p q : List Int} {d : Int} (h20 : d ≤ 20) {np : Nat} : ∀ (l pre : List az4) (e e' : Int), TileF d np e l e' → (∀ x ∈ l, Hz4 s p q d x) → plc (pre ++ l) pre.length = e * 2 ^ (20 - d).toNat →
    (∀ j, pre.length ≤ j → j < (pre ++ l).length → badT (pre ++ l) j = false) ∧ plc (pre ++ l) (pre ++ l).length = e' * 2 ^ (20 - d).toNat
  | [], pre, e, e', ht, _, hp => by
    have ht : e = e' := ht
    subst ht
    rw [List.append_nil] at hp ⊢
    exact ⟨fun j h1 h2 => by omega, hp⟩
  | x :: l, pre, e, e', ht, hx, hp => by
    obtain ⟨⟨t1, t2, t3, t4⟩, t5⟩ := ht
    obtain ⟨⟨y0, y1⟩, ⟨y2, y3⟩, yf⟩ := hx x (by simp)
    have e1 : pre ++ x :: l = (pre ++ [x]) ++ l := by simp
    have hg : (pre ++ x :: l).getD pre.length default = x := by simp [List.getD_eq_getElem?_getD]
    have hpow : (2 : Int) ^ (20 - x.Depth.toNat) = 2 ^ (d - x.Depth).toNat * 2 ^ (20 - d).toNat := by
      rw [← Int.pow_add, show (d - x.Depth).toNat + (20 - d).toNat = 20 - x.Depth.toNat by omega]
    have hb : begV ((pre ++ x :: l).getD pre.length default) = some (plc (pre ++ x :: l) pre.length, 2 ^ (20 - x.Depth.toNat)) := by
      rw [hg, hp]
      unfold begV
      rw [if_pos ⟨⟨y0, by omega⟩, y2, y3⟩, hpow, ← Int.mul_assoc, t4]
    have hs := Jzp hb
    have l1 : (pre ++ [x]).length = pre.length + 1 := by simp
    have ih := Kz3 h20 l (pre ++ [x]) (e + 2 ^ (d - x.Depth).toNat) e' t5 (fun y hy => hx y (by simp [hy])) (by
      rw [← e1, l1, hs, hp, Int.add_mul, ← hpow])
    rw [← e1] at ih
    refine ⟨fun j h1 h2 => ?_, ih.2⟩
    by_cases ej : j = pre.length
    · subst ej; unfold badT; rw [hb]; simp
    · exact ih.1 j (by omega) h2
theorem Nz1 {s : az8} {p q : List Int} {d : Int} {r : czb} (h0 : 0 ≤ d) (h20 : d ≤ 20) (ok : ProveOk s p q d r) (hk : r.Kind = 1) : Lz2 r.Pieces := by
  have t := Kz3 h20 r.Pieces [] 0 (2 ^ d.toNat) (ok.tiles hk) (ok.free hk) (by rw [Int.zero_mul]; rfl)
  rw [List.nil_append] at t
  refine ⟨ok.bd.1, fun j hj => t.1 j (Nat.zero_le _) hj, t.2.trans ?_⟩
  rw [← Int.pow_add, show d.toNat + (20 - d).toNat = 20 by omega]; decide
theorem Ize {s : az8} {p q : List Int} {d : Int} {r : czb} (h0 : 0 ≤ d) (h20 : d ≤ 20) (ok : ProveOk s p q d r) (hk : r.Kind = 1) : (hzq s p q r.Pieces).2 = 0 := by
  rw [check_iff]
  exact ⟨ok.ready (by omega), Nz1 h0 h20 ok hk, fun j hj => (ok.free hk _ (ezq hj)).2.2⟩
open Go.Proofs
section
variable {J : az4 → az4 → Option az4}
theorem Jzs : ∀ (rs : List az4) (x : az4), (kzq J rs x).length ≤ rs.length + 1
  | [], x => by simp [kzq]
  | a :: rs, x => by
    simp only [kzq]
    cases hj : J a x with
    | some w => have := Jzs rs w; simp; omega
    | none => simp
theorem Jz8 : ∀ (l rs : List az4), (l.foldl (kzq J) rs).length ≤ rs.length + l.length
  | [], _ => by simp
  | x :: l, rs => by
    have := Jz8 l (kzq J rs x)
    have := Jzs (J := J) rs x
    simp only [List.foldl_cons, List.length_cons]; omega
theorem Mzo (l : List az4) : (Azk J l).length ≤ l.length := by
  have := Jz8 (J := J) l []
  unfold Azk; simp at this ⊢; exact this
theorem Oz9 {P : az4 → Prop} (hJ : ∀ a x w, J a x = some w → P a → P x → P w) : ∀ (l rs : List az4), (∀ x ∈ rs, P x) → (∀ x ∈ l, P x) → ∀ x ∈ l.foldl (kzq J) rs, P x := by
  have push : ∀ (rs : List az4) (x : az4), (∀ y ∈ rs, P y) → P x → ∀ y ∈ kzq J rs x, P y := by
    intro rs
    induction rs with
    | nil => intro x _ hx y hy; simp [kzq] at hy; subst hy; exact hx
    | cons a rs ih =>
      intro x h hx
      simp only [kzq]
      cases hj : J a x with
      | some w => exact ih w (fun y hy => h y (by simp [hy])) (hJ a x w hj (h a (by simp)) hx)
      | none =>
        intro y hy
        rcases List.mem_cons.1 hy with rfl | hy
        · exact hx
        · exact h y hy
  intro l
  induction l with
  | nil => intro rs h _; exact h
  | cons x l ih => intro rs h hl; exact ih _ (push rs x h (hl x (by simp))) (fun y hy => hl y (by simp [hy]))
end
def TlB : Int → List az4 → Int → Prop
  | a, [], b => a = b
  | a, x :: l, b => ∃ n, begV x = some (a, n) ∧ TlB (a + n) l b
theorem TlB.app : ∀ {l m : List az4} {a b c : Int}, TlB a l b → TlB b m c → TlB a (l ++ m) c
  | [], _, _, _, _, h, k => by have h : _ = _ := h; subst h; exact k
  | _ :: _, _, _, _, _, ⟨n, h1, h2⟩, k => ⟨n, h1, TlB.app h2 k⟩
theorem TlB.split : ∀ {l m : List az4} {a c : Int}, TlB a (l ++ m) c → ∃ b, TlB a l b ∧ TlB b m c
  | [], _, a, _, h => ⟨a, rfl, h⟩
  | _ :: _, _, _, _, ⟨n, h1, h2⟩ => by
    obtain ⟨b, h3, h4⟩ := TlB.split h2
    exact ⟨b, ⟨n, h1, h3⟩, h4⟩
theorem TlB.snoc {l : List az4} {x : az4} {a c : Int} (h : TlB a (l ++ [x]) c) : ∃ f n, TlB a l f ∧ begV x = some (f, n) ∧ c = f + n := by
  obtain ⟨b, h1, n, h2, h3⟩ := h.split
  have h3 : b + n = c := h3
  exact ⟨b, n, h1, h2, h3.symm⟩
theorem Izy : ∀ (l pre : List az4) (a b : Int), plc (pre ++ l) pre.length = a →
    (TlB a l b ↔ (∀ j, pre.length ≤ j → j < (pre ++ l).length → badT (pre ++ l) j = false) ∧ plc (pre ++ l) (pre ++ l).length = b)
  | [], pre, a, b, hp => by
    rw [List.append_nil] at hp ⊢
    exact ⟨fun h => ⟨fun j h1 h2 => by omega, hp.trans h⟩, fun h => hp.symm.trans h.2⟩
  | x :: l, pre, a, b, hp => by
    have e1 : pre ++ x :: l = (pre ++ [x]) ++ l := by simp
    have hg : (pre ++ x :: l).getD pre.length default = x := by simp [List.getD_eq_getElem?_getD]
    have l1 : (pre ++ [x]).length = pre.length + 1 := by simp
    constructor
    · rintro ⟨n, h1, h2⟩
      have hb : begV ((pre ++ x :: l).getD pre.length default) = some (a, n) := by rw [hg]; exact h1
      have hs := Jzp hb
      have ih := (Izy l (pre ++ [x]) (a + n) b (by rw [← e1, l1, hs])).1 h2
      rw [← e1] at ih
      refine ⟨fun j h3 h4 => ?_, ih.2⟩
      by_cases ej : j = pre.length
      · subst ej; unfold badT; rw [hb, hp]; simp
      · exact ih.1 j (by omega) h4
    · rintro ⟨h1, h2⟩
      obtain ⟨n, b1, b2⟩ := Lz5 (h1 pre.length (Nat.le_refl _) (by simp))
      rw [hg, hp] at b1
      refine ⟨n, b1, (Izy l (pre ++ [x]) (a + n) b (by rw [← e1, l1, b2, hp])).2 ?_⟩
      rw [← e1]
      exact ⟨fun j h3 h4 => h1 j (by omega) h4, h2⟩
theorem Qzg {l : List az4} : Lz2 l ↔ l.length ≤ 4096 ∧ TlB 0 l 1048576 := by
  have h := Izy l [] 0 1048576 rfl
  rw [List.nil_append] at h
  rw [h]
  exact ⟨fun ⟨h1, h2, h3⟩ => ⟨h1, fun j _ hj => h2 j hj, h3⟩, fun ⟨h1, h2, h3⟩ => ⟨h1, fun j hj => h2 j (Nat.zero_le _) hj, h3⟩⟩
def Qz5 (s : az8) (p q : List Int) (x : az4) : Prop := kzn s (czc p q x.Depth x.Index).1 x.Normals = true
theorem check_tlb {s : az8} {p q : List Int} {l : List az4} : (hzq s p q l).2 = 0 ↔ (bzq s = 0 ∧ azu s.Robot p = true ∧ azu s.Robot q = true) ∧ l.length ≤ 4096 ∧ TlB 0 l 1048576 ∧ ∀ x ∈ l, Qz5 s p q x := by
  rw [check_iff, Qzg]
  constructor
  · rintro ⟨h1, ⟨h2, h3⟩, h4⟩
    refine ⟨h1, h2, h3, fun x hx => ?_⟩
    obtain ⟨i, hi, rfl⟩ := List.getElem_of_mem hx
    have := h4 i hi
    rw [Lzy hi] at this
    exact this
  · rintro ⟨h1, h2, h3, h4⟩
    exact ⟨h1, ⟨h2, h3⟩, fun j hj => h4 _ (ezq hj)⟩
section
variable {s : az8} {p q : List Int}
theorem Mzd {a b w : az4} (h : mz0 s p q a b = some w) : Qz5 s p q w := by
  unfold mz0 at h
  split at h
  · cases h
  · split at h
    · cases h
    · split at h
      · rename_i hf; cases h; exact hf
      · split at h
        · rename_i hf; cases h; exact hf
        · cases h
theorem Ozj {a b w : az4} (h : mz0 s p q a b = some w) {f n m : Int} (ha : begV a = some (f, n)) (hb : begV b = some (f + n, m)) : begV w = some (f, n + m) := by
  obtain ⟨a0, a1, a2⟩ := zzj ha
  obtain ⟨b0, b1, b2⟩ := zzj hb
  simp only [Prod.mk.injEq] at a2 b2
  have hw : a.Depth = b.Depth ∧ 0 < a.Depth ∧ a.Index.tmod 2 = 0 ∧ w.Depth = IntKind.i64.wrap (a.Depth - 1) ∧ w.Index = IntKind.i64.wrap (a.Index.tdiv 2) := by
    unfold mz0 at h
    split at h
    · cases h
    · rename_i hc
      have hc1 : a.Depth = b.Depth ∧ 0 < a.Depth ∧ a.Index.tmod 2 = 0 := by
        refine ⟨?_, ?_, ?_⟩
        · by_cases e : a.Depth = b.Depth
          · exact e
          · exact absurd (.inl e) hc
        · by_cases e : a.Depth ≤ 0
          · exact absurd (.inr (.inl e)) hc
          · omega
        · by_cases e : a.Index.tmod 2 = 0
          · exact e
          · exact absurd (.inr (.inr (.inl e))) hc
      refine ⟨hc1.1, hc1.2.1, hc1.2.2, ?_⟩
      split at h
      · cases h
      · split at h
        · cases h; exact ⟨rfl, rfl⟩
        · split at h
          · cases h; exact ⟨rfl, rfl⟩
          · cases h
  obtain ⟨h1, h2, h3, h4, h5⟩ := hw
  have pw := pow9 a0.1 a0.2
  rw [Kz4 a1.1] at h3
  rw [fza a1.1, w64 (by omega) (by omega)] at h5
  rw [w64 (by omega) (by omega)] at h4
  have p2 : (2 : Int) ^ a.Depth.toNat = 2 * 2 ^ (a.Depth - 1).toNat := by rw [show a.Depth.toNat = (a.Depth - 1).toNat + 1 by omega, Int.pow_succ]; omega
  have p3 : (2 : Int) ^ (20 - (a.Depth - 1).toNat) = 2 * 2 ^ (20 - a.Depth.toNat) := by rw [show 20 - (a.Depth - 1).toNat = (20 - a.Depth.toNat) + 1 by omega, Int.pow_succ]; omega
  unfold begV
  rw [h4, h5, if_pos ⟨by omega, by omega, by omega⟩, p3, a2.1, a2.2, b2.2, ← h1]
  have e : a.Index / 2 * (2 * 2 ^ (20 - a.Depth.toNat)) = a.Index * 2 ^ (20 - a.Depth.toNat) := by
    rw [← Int.mul_assoc, show a.Index / 2 * 2 = a.Index by omega]
  rw [e]
  congr 2; omega
theorem Jzt : ∀ (rs : List az4) (x : az4) (f n : Int), TlB 0 rs.reverse f → begV x = some (f, n) → TlB 0 (kzq (mz0 s p q) rs x).reverse (f + n)
  | [], x, f, n, h, hx => by
    have h : (0 : Int) = f := h
    subst h
    exact ⟨n, hx, rfl⟩
  | a :: rs, x, f, n, h, hx => by
    simp only [kzq]
    rw [List.reverse_cons] at h
    obtain ⟨fa, na, h1, h2, h3⟩ := h.snoc
    subst h3
    cases hj : mz0 s p q a x with
    | some w =>
      have := Jzt rs w fa (na + n) h1 (Ozj hj h2 hx)
      rw [← Int.add_assoc] at this
      exact this
    | none =>
      rw [List.reverse_cons, List.reverse_cons]
      exact h.app ⟨n, hx, rfl⟩
theorem Jz9 : ∀ (l rs : List az4) (f b : Int), TlB 0 rs.reverse f → TlB f l b → TlB 0 (l.foldl (kzq (mz0 s p q)) rs).reverse b
  | [], rs, f, b, h, hl => by have hl : f = b := hl; subst hl; exact h
  | x :: l, rs, f, b, h, ⟨n, h1, h2⟩ => Jz9 l _ (f + n) b (Jzt rs x f n h h1) h2
theorem Iz2 {l : List az4} (h : (hzq s p q l).2 = 0) : (hzq s p q (Azk (mz0 s p q) l)).2 = 0 := by
  rw [check_tlb] at h ⊢
  obtain ⟨h1, h2, h3, h4⟩ := h
  refine ⟨h1, Nat.le_trans (Mzo l) h2, Jz9 l [] 0 1048576 rfl h3, fun x hx => ?_⟩
  unfold Azk at hx
  rw [List.mem_reverse] at hx
  exact Oz9 (P := Qz5 s p q) (fun a x w hw _ _ => Mzd hw) l [] (fun x hx => by cases hx) h4 x hx
end
open Go.Proofs
def hi2 (x : az4) : az4 := ⟨IntKind.i64.wrap (x.Depth + 1), IntKind.i64.wrap (IntKind.i64.wrap (2 * x.Index) + 1), x.Normals⟩
section
variable {s : az8} {p q : List Int}
end
end Go.Abs
