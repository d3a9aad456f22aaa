/-
  DL3 (a part of a claim: our own text).
-/
import Derived.Test.YtomogglfhepnmaaGreatXFDL2
namespace Go.Abs
open Go.Proofs
theorem tzb (p q : List Int) (k i : Int) : (czc p q k i).1.length ≤ p.length := by
  unfold czc
  split
  · simp [czs]
  · simp [nl]
abbrev XW := Int × List az4 × Int × Int × List V3 × Int × List Int × List Int
noncomputable abbrev exO (n : Nat) (s : az8) (p q : List Int) (d k i : Int) (h : List V3) (ps : List az4) (W : XW) :=
  (RecS.fix ezk n).o (k, i, h, ps, W.1, W.2.1, W.2.2.1, W.2.2.2.1, W.2.2.2.2.1, W.2.2.2.2.2.1, W.2.2.2.2.2.2.1, W.2.2.2.2.2.2.2, p, q, s.Robot.Joints, s.Robot.Masses, s.Shapes, s.Skips, d)
abbrev exR (ok : Bool) (ps : List az4) (W : XW) (s : az8) (p q : List Int) (d : Int) :=
  (ok, ps, W.1, W.2.1, W.2.2.1, W.2.2.2.1, W.2.2.2.2.1, W.2.2.2.2.2.1, W.2.2.2.2.2.2.1, W.2.2.2.2.2.2.2, p, q, s.Robot.Joints, s.Robot.Masses, s.Shapes, s.Skips, d)
def PsB (ps : List az4) : Prop := ps.length ≤ 4096 ∧ ∀ x ∈ ps, x.Normals.length ≤ 576
theorem Dzn (n : Nat) (s : az8) (p q : List Int) (d k i : Int) (h : List V3) (ps : List az4) (W : XW) (hp : p.length < 4294967296) (hq : q.length < 4294967296) {v : dz0} (hv : (ezj s (czc p q k i).1 h).o = some v) (hps : PsB ps) :
    exO (n + 1) s p q d k i h ps W = if 4096 ≤ ps.length then some (exR false ps (0, nl, k, i, nl, 0, nl, nl) s p q d) else
      if v.Kind = 1 then some (exR true (ps ++ [⟨k, i, v.Normals⟩]) W s p q d) else
      if v.Kind = 2 then some (exR false ps (2, nl, k, i, nl, v.Witness.Pair, v.Witness.Left, v.Witness.Right) s p q d) else
      if k < d then ((exO n s p q d (IntKind.i64.wrap (k + 1)) (IntKind.i64.wrap (2 * i)) v.Normals ps W).bind fun y => bif y.1 then (RecS.fix ezk n).o (IntKind.i64.wrap (k + 1), IntKind.i64.wrap (IntKind.i64.wrap (2 * i) + 1), v.Normals, y.2.1, y.2.2.1, y.2.2.2.1, y.2.2.2.2.1, y.2.2.2.2.2.1, y.2.2.2.2.2.2.1, y.2.2.2.2.2.2.2.1, y.2.2.2.2.2.2.2.2.1, y.2.2.2.2.2.2.2.2.2.1, y.2.2.2.2.2.2.2.2.2.2.1, y.2.2.2.2.2.2.2.2.2.2.2.1, y.2.2.2.2.2.2.2.2.2.2.2.2.1, y.2.2.2.2.2.2.2.2.2.2.2.2.2.1, y.2.2.2.2.2.2.2.2.2.2.2.2.2.2.1, y.2.2.2.2.2.2.2.2.2.2.2.2.2.2.2.1, y.2.2.2.2.2.2.2.2.2.2.2.2.2.2.2.2) else some (false, y.2)) else
      some (exR false ps (0, nl, k, i, nl, 0, nl, nl) s p q d) := by
  show (nz6 (RecS.fix ezk n) k i h ps W.1 W.2.1 W.2.2.1 W.2.2.2.1 W.2.2.2.2.1 W.2.2.2.2.2.1 W.2.2.2.2.2.2.1 W.2.2.2.2.2.2.2 p q s.Robot.Joints s.Robot.Masses s.Shapes s.Skips d).run NN = _
  have hb : (ezj (⟨⟨s.Robot.Joints, s.Robot.Masses⟩, s.Shapes, s.Skips⟩ : az8) (czc p q k i).1 h).o = some v := hv
  simp only [nz6, T.run, nz2 p q k i hp hq, Option.bind_some, hb]
  obtain ⟨l1, _⟩ := hps
  by_cases c0 : 4096 ≤ ps.length
  · rw [if_pos c0, az7 (by omega)]
  · rw [if_neg c0, az5 (by omega)]
    by_cases c1 : v.Kind = 1
    · rw [if_pos c1, kze c1, azb (by simp only [List.length_cons, List.length_nil, bz8]; omega)]
    · rw [if_neg c1, gzg c1]
      by_cases c2 : v.Kind = 2
      · rw [if_pos c2, kze c2]
      · rw [if_neg c2, gzg c2]
        by_cases c3 : k < d
        · rw [if_pos c3, az7 c3]
          refine congrArg (Option.bind _) (funext fun y => ?_)
          cases y.1 with
          | true =>
            simp only [cond_true]
            show Option.bind ((RecS.fix ezk n).o _) _ = _
            generalize (RecS.fix ezk n).o _ = oo
            cases oo <;> rfl
          | false => rfl
        · rw [if_neg c3, az5 c3]
open Go.Proofs
def Mzs : czb := ⟨0, nl, ⟨0, 0, nl⟩, ⟨0, nl, nl⟩⟩
def Cz9 (ok : Bool) (ps : List az4) (W : XW) : czb :=
  bif ok then ⟨1, ps, ⟨0, 0, nl⟩, ⟨0, nl, nl⟩⟩ else ⟨W.1, W.2.1, ⟨W.2.2.1, W.2.2.2.1, W.2.2.2.2.1⟩, ⟨W.2.2.2.2.2.1, W.2.2.2.2.2.2.1, W.2.2.2.2.2.2.2⟩⟩
def W0 : XW := (0, nl, 0, 0, nl, 0, nl, nl)
open Go.Proofs
def TileF (d : Int) (np : Nat) : Int → List az4 → Int → Prop
  | e, [], e' => e = e'
  | e, x :: l, e' => (0 ≤ x.Depth ∧ x.Depth ≤ d ∧ x.Normals.length = np ∧ x.Index * 2 ^ (d - x.Depth).toNat = e) ∧ TileF d np (e + 2 ^ (d - x.Depth).toNat) l e'
theorem TileF.append {d : Int} {np : Nat} : ∀ {l m : List az4} {a b c : Int}, TileF d np a l b → TileF d np b m c → TileF d np a (l ++ m) c
  | [], _, _, _, _, h, k => by have h : _ = _ := h; subst h; exact k
  | _ :: _, _, _, _, _, h, k => ⟨h.1, TileF.append h.2 k⟩
def Hz4 (s : az8) (p q : List Int) (d : Int) (x : az4) : Prop := (0 ≤ x.Depth ∧ x.Depth ≤ d) ∧ (0 ≤ x.Index ∧ x.Index < 2 ^ x.Depth.toNat) ∧ kzn s (czc p q x.Depth x.Index).1 x.Normals = true
def Rzw (s : az8) (p q : List Int) (d : Int) (W : XW) : Prop := W.2.1 = [] ∧ (0 ≤ W.2.2.1 ∧ W.2.2.1 ≤ d) ∧ (0 ≤ W.2.2.2.1 ∧ W.2.2.2.1 < 2 ^ W.2.2.1.toNat) ∧ W.2.2.2.2.1 = [] ∧
  ((W.1 = 0 ∧ W.2.2.2.2.2 = (0, [], [])) ∨ (W.1 = 2 ∧ uzk s (czc p q W.2.2.1 W.2.2.2.1).1 ⟨W.2.2.2.2.2.1, W.2.2.2.2.2.2.1, W.2.2.2.2.2.2.2⟩ = true ∧ W.2.2.2.2.2.2.1.length ≤ 8 ∧ W.2.2.2.2.2.2.2.length ≤ 8))
theorem Szb (s : az8) (p q : List Int) (hp : p.length < 4294967296) (hq : q.length < 4294967296) {d : Int} (h20 : d ≤ 20) :
    ∀ (f : Nat) (k i : Int) (h : List V3) (ps : List az4) (W : XW) (n : Nat), k + f = d → 0 ≤ k → 0 ≤ i → i < 2 ^ k.toNat → f + 1 ≤ n → h.length ≤ 576 → PsB ps →
      ∃ ok ps' W', exO n s p q d k i h ps W = some (exR ok ps' W' s p q d) ∧ PsB ps' ∧
        (ok = true → W' = W ∧ ∃ new, ps' = ps ++ new ∧ TileF d (azt s).length (i * 2 ^ f) new ((i + 1) * 2 ^ f) ∧ ∀ x ∈ new, Hz4 s p q d x) ∧
        (ok = false → Rzw s p q d W') := by
  intro f
  induction f using Nat.strongRecOn with
  | _ f ih =>
    intro k i h ps W n hk h0 i0 i1 hn hh hps
    obtain ⟨n, rfl⟩ : ∃ m, n = m + 1 := ⟨n - 1, by omega⟩
    have hv := fzm s (czc p q k i).1 h (by have := tzb p q k i; omega) (by omega)
    have v1 := Lzm s (czc p q k i).1 h
    have vc := zzp s (czc p q k i).1 h
    generalize clsV s (czc p q k i).1 h = v at hv v1 vc
    rw [Dzn n s p q d k i h ps W hp hq hv hps]
    have unk : Rzw s p q d (0, nl, k, i, nl, 0, nl, nl) := ⟨rfl, ⟨h0, by simp only; omega⟩, ⟨i0, i1⟩, rfl, .inl ⟨rfl, rfl⟩⟩
    by_cases c0 : 4096 ≤ ps.length
    · rw [if_pos c0]
      exact ⟨false, ps, _, rfl, hps, (fun h => by cases h), fun _ => unk⟩
    · rw [if_neg c0]
      by_cases c1 : v.Kind = 1
      · rw [if_pos c1]
        obtain ⟨-, -, fr⟩ : v.Witness = Ezd ∧ (bzq s = 0 ∧ boxV s.Robot (czc p q k i).1 = true) ∧ kzn s (czc p q k i).1 v.Normals = true := by
          rcases vc with ⟨h1, -⟩ | ⟨-, h2⟩ | ⟨h1, -⟩
          · omega
          · exact h2
          · omega
        have fl : v.Normals.length = (azt s).length := by
          simp only [kzn, Bool.and_eq_true, decide_eq_true_eq] at fr; exact fr.2.2.1
        have e : (d - k).toNat = f := by omega
        refine ⟨true, _, W, rfl, ⟨by simp; omega, fun x hx => ?_⟩, fun _ => ⟨rfl, _, rfl, ⟨⟨h0, by simp only; omega, fl, by simp only [e]⟩, by simp only [TileF, e]; rw [Int.add_mul]; omega⟩, fun x hx => ?_⟩, (fun h => by cases h)⟩
        · rcases List.mem_append.1 hx with hx | hx
          · exact hps.2 x hx
          · simp at hx; subst hx; exact v1
        · simp at hx; subst hx; exact ⟨⟨h0, by simp only; omega⟩, ⟨i0, i1⟩, fr⟩
      · rw [if_neg c1]
        by_cases c2 : v.Kind = 2
        · rw [if_pos c2]
          obtain ⟨-, fr, l1, l2⟩ : v.Normals = [] ∧ uzk s (czc p q k i).1 v.Witness = true ∧ v.Witness.Left.length ≤ 8 ∧ v.Witness.Right.length ≤ 8 := by
            rcases vc with ⟨h1, -⟩ | ⟨h1, -⟩ | ⟨-, h2⟩
            · omega
            · omega
            · exact h2
          exact ⟨false, ps, _, rfl, hps, (fun h => by cases h), fun _ => ⟨rfl, ⟨h0, by simp only; omega⟩, ⟨i0, i1⟩, rfl, .inr ⟨rfl, fr, l1, l2⟩⟩⟩
        · rw [if_neg c2]
          by_cases c3 : k < d
          · rw [if_pos c3]
            obtain ⟨f, rfl⟩ : ∃ g, f = g + 1 := ⟨f - 1, by omega⟩
            have hp20 := Gzb (k := k.toNat) (by omega)
            have hw : IntKind.i64.wrap (k + 1) = k + 1 := w64 (by omega) (by omega)
            have hw1 : IntKind.i64.wrap (2 * i) = 2 * i := w64 (by omega) (by omega)
            have hw2 : IntKind.i64.wrap (2 * i + 1) = 2 * i + 1 := w64 (by omega) (by omega)
            have hpk : (2 : Int) ^ (k + 1).toNat = 2 * 2 ^ k.toNat := by rw [show (k + 1).toNat = k.toNat + 1 by omega, Int.pow_succ]; omega
            rw [hw, hw1]
            obtain ⟨ok1, ps1, W1, e1, b1, b2, b3⟩ := ih f (by omega) (k + 1) (2 * i) v.Normals ps W n (by omega) (by omega) (by omega) (by rw [hpk]; omega) (by omega) v1 hps
            rw [e1]
            cases ok1 with
            | false => exact ⟨false, ps1, W1, rfl, b1, (fun h => by cases h), b3⟩
            | true =>
              obtain ⟨hWW, new1, rfl, t1, q1⟩ := b2 rfl
              subst hWW
              obtain ⟨ok2, ps2, W2, e2, d1, d2, d3⟩ := ih f (by omega) (k + 1) (2 * i + 1) v.Normals (ps ++ new1) W1 n (by omega) (by omega) (by omega) (by rw [hpk]; omega) (by omega) v1 b1
              refine ⟨ok2, ps2, W2, ?_, d1, fun hd => ?_, d3⟩
              · rw [← hw2] at e2; exact e2
              · obtain ⟨hW2, new2, rfl, t2, q2⟩ := d2 hd
                refine ⟨hW2, new1 ++ new2, by rw [List.append_assoc], ?_, fun x hx => (List.mem_append.1 hx).elim (q1 x) (q2 x)⟩
                have f1 : 2 * i * 2 ^ f = i * 2 ^ (f + 1) := by rw [Int.pow_succ, Int.mul_comm (2 ^ f) 2, ← Int.mul_assoc, Int.mul_comm i 2]
                have f2 : (2 * i + 1 + 1) * 2 ^ f = (i + 1) * 2 ^ (f + 1) := by rw [show 2 * i + 1 + 1 = 2 * (i + 1) by omega, Int.pow_succ, Int.mul_comm (2 ^ f) 2, ← Int.mul_assoc, Int.mul_comm (i + 1) 2]
                exact (f1 ▸ t1).append (f2 ▸ t2)
          · rw [if_neg c3]
            exact ⟨false, ps, _, rfl, hps, (fun h => by cases h), fun _ => unk⟩
def Cz8 (s : az8) (p q : List Int) : Bool := (bzq s != 0) || (!azu s.Robot p || !azu s.Robot q)
theorem tzc (s : az8) (p q : List Int) (d : Int) (ok : Bool) (ps : List az4) (W : XW) (h0 : 0 ≤ d) (h1 : d ≤ 20)
    (he : exO NN s p q d 0 0 nl nl W0 = some (exR ok ps W s p q d)) : (jz7 s p q d).o = some (bif Cz8 s p q then Mzs else Cz9 ok ps W) := by
  have ec : (tzr 0 0 nl nl 0 nl 0 0 nl 0 nl nl p q s.Robot.Joints s.Robot.Masses s.Shapes s.Skips d).o = some (exR ok ps W s p q d) := he
  have e0 : (dzn ⟨s.Robot, s.Shapes, s.Skips⟩).o = some (bzq s) := fz9 s
  show (rz9 s p q d).run NN = _
  simp only [rz9, T.run, e0, lz7, Option.bind_some, bz0, dz9, aza, ec]
  rw [decide_eq_false (p := d < 0) (by omega), decide_eq_false (p := d > 20) (by omega)]
  unfold Cz8
  generalize ((bzq s != 0) || (!azu s.Robot p || !azu s.Robot q)) = bad
  cases bad with
  | true => rfl
  | false => cases ok <;> rfl
structure ProveOk (s : az8) (p q : List Int) (d : Int) (r : czb) : Prop where
  kind : r.Kind = 0 ∨ r.Kind = 1 ∨ r.Kind = 2
  ready : r.Kind ≠ 0 → bzq s = 0 ∧ azu s.Robot p = true ∧ azu s.Robot q = true
  tiles : r.Kind = 1 → TileF d (azt s).length 0 r.Pieces (2 ^ d.toNat)
  free : r.Kind = 1 → ∀ x ∈ r.Pieces, Hz4 s p q d x
  empty : r.Kind = 1 → r.At = ⟨0, 0, []⟩
  none : r.Kind ≠ 1 → r.Pieces = []
  depth : 0 ≤ r.At.Depth ∧ r.At.Depth ≤ d
  index : 0 ≤ r.At.Index ∧ r.At.Index < 2 ^ r.At.Depth.toNat
  norm : r.At.Normals = []
  coll : r.Kind = 2 → uzk s (czc p q r.At.Depth r.At.Index).1 r.Witness = true
  wit : r.Kind ≠ 2 → r.Witness = Ezd
  lens : r.Witness.Left.length ≤ 8 ∧ r.Witness.Right.length ≤ 8
  bd : PsB r.Pieces
theorem Nz0 (s : az8) (p q : List Int) (hp : p.length < 4294967296) (hq : q.length < 4294967296) {d : Int} (h0 : 0 ≤ d) (h20 : d ≤ 20) :
    ∃ r, (jz7 s p q d).o = some r ∧ ProveOk s p q d r := by
  have nb : PsB nl := ⟨by simp [nl], by simp [nl]⟩
  obtain ⟨ok, ps, W, e1, b1, b2, b3⟩ := Szb s p q hp hq h20 d.toNat 0 0 nl nl W0 NN (by omega) (by omega) (by omega) (by decide) (by show _ ≤ 4294967296; omega) (by simp [nl]) nb
  refine ⟨_, tzc s p q d ok ps W h0 h20 e1, ?_⟩
  cases hb : Cz8 s p q with
  | true => exact ⟨.inl rfl, (fun h => absurd rfl h), (fun h => by cases h), (fun h => by cases h), (fun h => by cases h), fun _ => rfl, ⟨Int.le_refl _, h0⟩, ⟨Int.le_refl _, (show (0 : Int) < 2 ^ (0 : Int).toNat by decide)⟩, rfl, (fun h => by cases h), fun _ => rfl, ⟨by simp [Mzs, nl], by simp [Mzs, nl]⟩, nb⟩
  | false =>
    have rd : bzq s = 0 ∧ azu s.Robot p = true ∧ azu s.Robot q = true := by
      simpa [Cz8] using hb
    cases ok with
    | true =>
      obtain ⟨_, new, hn, ht, hq⟩ := b2 rfl
      have hn : ps = new := hn
      subst hn
      have ht : TileF d (azt s).length (0 * 2 ^ d.toNat) ps ((0 + 1) * 2 ^ d.toNat) := ht
      rw [Int.zero_mul, Int.zero_add, Int.one_mul] at ht
      exact ⟨.inr (.inl rfl), fun _ => rd, fun _ => ht, fun _ => hq, fun _ => rfl, (fun h => absurd rfl h), ⟨Int.le_refl _, h0⟩, ⟨Int.le_refl _, (show (0 : Int) < 2 ^ (0 : Int).toNat by decide)⟩, rfl, (fun h => by cases h), fun _ => rfl, ⟨by simp [Cz9, nl], by simp [Cz9, nl]⟩, b1⟩
    | false =>
      obtain ⟨c1, c2, c3, c4, c5⟩ := b3 rfl
      have pb : PsB W.2.1 := by rw [c1]; exact nb
      rcases c5 with ⟨k0, k1⟩ | ⟨k0, k1, k2, k3⟩
      · have w : (Cz9 false ps W).Witness = Ezd := by
          show (⟨W.2.2.2.2.2.1, W.2.2.2.2.2.2.1, W.2.2.2.2.2.2.2⟩ : azy) = Ezd
          rw [k1]; rfl
        refine ⟨.inl k0, (fun h => absurd k0 h), fun h => ?_, fun h => ?_, fun h => ?_, fun _ => c1, c2, c3, c4, fun h => ?_, fun _ => w, ?_, pb⟩
        · have h : W.1 = 1 := h; omega
        · have h : W.1 = 1 := h; omega
        · have h : W.1 = 1 := h; omega
        · have h : W.1 = 2 := h; omega
        · show (Cz9 false ps W).Witness.Left.length ≤ 8 ∧ (Cz9 false ps W).Witness.Right.length ≤ 8
          rw [w]; simp [Ezd, nl]
      · refine ⟨.inr (.inr k0), fun _ => rd, fun h => ?_, fun h => ?_, fun h => ?_, fun _ => c1, c2, c3, c4, fun _ => k1, fun h => absurd k0 h, ⟨k2, k3⟩, pb⟩
        · have h : W.1 = 1 := h; omega
        · have h : W.1 = 1 := h; omega
        · have h : W.1 = 1 := h; omega
open Go.Proofs
theorem shl1 {t : Int} (h0 : 0 ≤ t) (h1 : t ≤ 20) : IntKind.i64.wrap (1 * 2 ^ (min (IntKind.u64.wrap t).toNat 64)) = 2 ^ t.toNat := by
  rw [u64w h0 (by omega), show min t.toNat 64 = t.toNat by omega, Int.one_mul]
  have := Gzb (k := t.toNat) (by omega)
  have : (0 : Int) < 2 ^ t.toNat := Int.pow_pos (by omega)
  exact w64 (by omega) (by omega)
theorem pow9 {k : Int} (h0 : 0 ≤ k) (h1 : k ≤ 20) : 1 ≤ (2 : Int) ^ k.toNat ∧ (2 : Int) ^ k.toNat ≤ 1048576 := by
  have := Gzb (k := k.toNat) (by omega)
  have := bzh k.toNat
  omega
end Go.Abs
